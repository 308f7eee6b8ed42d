/-
  The contracts of checks, refused.
-/
import Derived.Test.YticcphppnmoogaaDoorArcE
namespace Go.Proofs.YticcphppnmoogaaDoor
open Go.RowKit
attribute [local go_sem ↓] Go.wp_at_zero Go.wp_at_succ

/-- What the i-th check says. -/
def chkE (e : En) (l : List Ex) : Nat → Int
  | 0 => pathsE e.path
  | 1 => kindE e.kind
  | 2 => modesE e.kind e.mode
  | 3 => sizeE e.kind e.data.length
  | 4 => linkE e
  | _ => placeE e.path l
def refusedE (e : En) (l : List Ex) : Int :=
  if chkE e l 0 ≠ 0 then chkE e l 0 else if chkE e l 1 ≠ 0 then chkE e l 1 else if chkE e l 2 ≠ 0 then chkE e l 2 else if chkE e l 3 ≠ 0 then chkE e l 3 else if chkE e l 4 ≠ 0 then chkE e l 4 else chkE e l 5
theorem chk_step {e : En} {l : List Ex} {i : Nat} (h : ∀ j, j < i → chkE e l j = 0) (hz : chkE e l i = 0) : ∀ j, j < i + 1 → chkE e l j = 0 := fun j hj => by
  rcases Nat.lt_or_ge j i with h1 | h1
  · exact h j h1
  · obtain rfl : j = i := by omega
    exact hz
theorem ref_bad {e : En} {l : List Ex} {i : Nat} (h : ∀ j, j < i → chkE e l j = 0) (hz : ¬ chkE e l i = 0) (hi : i < 6) : refusedE e l = chkE e l i := by
  unfold refusedE
  match i, hi with
  | 0, _ => rw [if_pos hz]
  | 1, _ => rw [if_neg (by simp [h 0 (by omega)]), if_pos hz]
  | 2, _ => rw [if_neg (by simp [h 0 (by omega)]), if_neg (by simp [h 1 (by omega)]), if_pos hz]
  | 3, _ => rw [if_neg (by simp [h 0 (by omega)]), if_neg (by simp [h 1 (by omega)]), if_neg (by simp [h 2 (by omega)]), if_pos hz]
  | 4, _ => rw [if_neg (by simp [h 0 (by omega)]), if_neg (by simp [h 1 (by omega)]), if_neg (by simp [h 2 (by omega)]), if_neg (by simp [h 3 (by omega)]), if_pos hz]
  | 5, _ => rw [if_neg (by simp [h 0 (by omega)]), if_neg (by simp [h 1 (by omega)]), if_neg (by simp [h 2 (by omega)]), if_neg (by simp [h 3 (by omega)]), if_neg (by simp [h 4 (by omega)])]
theorem ref_good {e : En} {l : List Ex} (h : ∀ j, j < 6 → chkE e l j = 0) : refusedE e l = 0 := by
  unfold refusedE
  rw [if_neg (by simp [h 0 (by omega)]), if_neg (by simp [h 1 (by omega)]), if_neg (by simp [h 2 (by omega)]), if_neg (by simp [h 3 (by omega)]), if_neg (by simp [h 4 (by omega)])]
  exact h 5 (by omega)
theorem paths_ne {p : List ByteArray} (h : pathsE p = 0) : p ≠ [] := fun e => by
  subst e
  unfold pathsE at h
  split at h
  · cases h
  · rw [if_pos rfl] at h; cases h

abbrev chkV : Array Value := #[.func (.func 48) #[] #[], .func (.func 49) #[] #[], .func (.func 50) #[] #[], .func (.func 51) #[] #[], .func (.func 52) #[] #[], .func (.func 53) #[] #[]]
theorem checks_any (w : World) : Calls Tryd.prog 36 #[] w fun e w' => e = .returned (.slice (some ⟨w.heap.size, 0, none⟩) 6 6) ∧ w' = w.alloc (.cells chkV 85) := by
  go_enter Tryd.func36, Tryd.ntmps36
  go_wp2_with fail
  go_ret
  exact ⟨rfl, rfl⟩

set_option maxRecDepth 100000 in
set_option maxHeartbeats 8000000 in
theorem refused_any (x : Ex) (A : Option Addr) (n c : Nat) (l : List Ex) (w : World) (hx : ExOk w w.heap.size x) (hn : n ≤ 1000000) (hL : Exs w A n l) (hM : Mx w) :
    Calls Tryd.prog 21 #[.agg (exC x).toArray, .slice A n c] w fun e w' => e = .returned (.int .i64 (refusedE x.e l)) ∧ Below w.heap.size w w' := by
  obtain ⟨⟨p, k, m, d⟩, pa, pc, da, dc⟩ := x
  have HX := Sl.mk hx
  have HL := Sl.mk hL
  have HM := Sl.mk hM
  have HPN := Sl.mk (fun h : chkE ⟨p, k, m, d⟩ l 0 = 0 => paths_ne (p := p) h)
  clear hx hL hM
  show Calls Tryd.prog 21 #[.agg #[.slice pa p.length pc, .int .i64 k, .int .i64 m, .slice da d.length dc], .slice A n c] w fun e w' => e = .returned (.int .i64 (refusedE ⟨p, k, m, d⟩ l)) ∧ Below w.heap.size w w'
  obtain ⟨wB, hwB⟩ : ∃ wB, w.alloc (.cells #[.slice pa p.length pc, .int .i64 k, .int .i64 m, .slice da d.length dc] 34) = wB := ⟨_, rfl⟩
  have hX0 : Blk wB w.heap.size 34 #[.slice pa p.length pc, .int .i64 k, .int .i64 m, .slice da d.length dc] := by rw [← hwB]; exact Blk.new _ _ _
  have hE0 : Below w.heap.size w wB := by rw [← hwB]; exact below_al (Below.refl _ _) _
  have hs0 : wB.heap.size = w.heap.size + 1 := by rw [← hwB]; simp
  go_enter Tryd.func21, Tryd.ntmps21
  go_wp2_with fail
  clear hwB
  refine (checks_any _).mono ?_
  rintro e w1 ⟨rfl, hw1⟩
  have hG1 : Blk w1 (w.heap.size + 1) 85 chkV := by rw [hw1, ← hs0]; exact Blk.new _ _ _
  have hX1 : Blk w1 w.heap.size 34 #[.slice pa p.length pc, .int .i64 k, .int .i64 m, .slice da d.length dc] := by rw [hw1]; exact hX0.alloc _
  have hE1 : Below w.heap.size w w1 := by rw [hw1]; exact below_al hE0 _
  rw [hs0]
  clear hw1 hX0 hE0 hs0
  go_wp2_with fail
  go_loopw [6, 7, 10] (fun _ _ v10 wr => ∃ i : Nat, i ≤ 6 ∧ v10 = .int .i64 i ∧ Sl (∀ j, j < i → chkE ⟨p, k, m, d⟩ l j = 0) ∧ Blk wr (w.heap.size + 1) 85 chkV ∧ Blk wr w.heap.size 34 #[.slice pa p.length pc, .int .i64 k, .int .i64 m, .slice da d.length dc] ∧ Below w.heap.size w wr) (fun _ _ v10 _ => 6 - (intOf v10).toNat)
  case atStart => exact ⟨0, by omega, rfl, ⟨fun j hj => absurd hj (by omega)⟩, hG1, hX1, hE1⟩
  case round =>
    clear hG1 hX1 hE1
    obtain ⟨i, hi, rfl, HZ, hG, hX, hB⟩ := hrel
    have x0 := hX.cell 0
    have x1 := hX.cell 1
    have x2 := hX.cell 2
    have x3 := hX.cell 3
    obtain rfl | rfl | rfl | rfl | rfl | rfl | rfl : i = 0 ∨ i = 1 ∨ i = 2 ∨ i = 3 ∨ i = 4 ∨ i = 5 ∨ i = 6 := by omega
    · have HC := Sl.mk (paths_any ⟨⟨p, k, m, d⟩, pa, pc, da, dc⟩ A n c wr (HX.out.be hB))
      have c0 := hG.cell 0
      have hne0 : chkE ⟨p, k, m, d⟩ l 0 = chkE ⟨p, k, m, d⟩ l 0 := rfl
      by_cases hz : chkE ⟨p, k, m, d⟩ l 0 = 0
      · have HC2 : Sl (Calls Tryd.prog 48 #[.agg #[.slice pa p.length pc, .int .i64 k, .int .i64 m, .slice da d.length dc, .slice A n c]] wr fun e w' => e = .returned (.int .i64 0) ∧ Below wr.heap.size wr w') := Sl.mk (by rw [← hz]; exact HC.out)
        have HZ2 := Sl.mk (chk_step HZ.out hz)
        clear hz HC hne0 HZ
        go_wp2_with fail
        refine HC2.out.mono ?_
        rintro e w2 ⟨rfl, hB2⟩
        have hG2 := hG.be hB2
        have hX2 := hX.be hB2
        have hE2 := below_tr hB hB2
        clear hG hX hB hB2 c0 x0 x1 x2 x3
        go_wp2_with fail
        go_roundw
        case rel => exact ⟨1, by omega, by go_num, HZ2, hG2, hX2, hE2⟩
        case measure => simp [intOf]
      · have HR := Sl.mk (ref_bad HZ.out hz (by omega))
        obtain ⟨E, hEE⟩ : ∃ E, chkE ⟨p, k, m, d⟩ l 0 = E := ⟨_, rfl⟩
        have HC2 : Sl (Calls Tryd.prog 48 #[.agg #[.slice pa p.length pc, .int .i64 k, .int .i64 m, .slice da d.length dc, .slice A n c]] wr fun e w' => e = .returned (.int .i64 E) ∧ Below wr.heap.size wr w') := Sl.mk (by rw [← hEE]; exact HC.out)
        rw [hEE] at HR hz
        have hE1 : (E != 0) = true := by simpa using hz
        clear hz hEE HC hne0 HZ
        go_wp2_with fail
        refine HC2.out.mono ?_
        rintro e w2 ⟨rfl, hB2⟩
        have hE2 := below_tr hB hB2
        clear hG hX hB hB2 c0 x0 x1 x2 x3
        go_wp2_with fail
        go_ret
        exact ⟨by rw [HR.out]; rfl, hE2⟩
    · have HC := Sl.mk (kind_any ⟨⟨p, k, m, d⟩, pa, pc, da, dc⟩ A n c wr)
      have c1 := hG.cell 1
      have hne1 : chkE ⟨p, k, m, d⟩ l 1 = chkE ⟨p, k, m, d⟩ l 1 := rfl
      by_cases hz : chkE ⟨p, k, m, d⟩ l 1 = 0
      · have HC2 : Sl (Calls Tryd.prog 49 #[.agg #[.slice pa p.length pc, .int .i64 k, .int .i64 m, .slice da d.length dc, .slice A n c]] wr fun e w' => e = .returned (.int .i64 0) ∧ Below wr.heap.size wr w') := Sl.mk (by rw [← hz]; exact HC.out)
        have HZ2 := Sl.mk (chk_step HZ.out hz)
        clear hz HC hne1 HZ
        go_wp2_with fail
        refine HC2.out.mono ?_
        rintro e w2 ⟨rfl, hB2⟩
        have hG2 := hG.be hB2
        have hX2 := hX.be hB2
        have hE2 := below_tr hB hB2
        clear hG hX hB hB2 c1 x0 x1 x2 x3
        go_wp2_with fail
        go_roundw
        case rel => exact ⟨2, by omega, by go_num, HZ2, hG2, hX2, hE2⟩
        case measure => simp [intOf]
      · have HR := Sl.mk (ref_bad HZ.out hz (by omega))
        obtain ⟨E, hEE⟩ : ∃ E, chkE ⟨p, k, m, d⟩ l 1 = E := ⟨_, rfl⟩
        have HC2 : Sl (Calls Tryd.prog 49 #[.agg #[.slice pa p.length pc, .int .i64 k, .int .i64 m, .slice da d.length dc, .slice A n c]] wr fun e w' => e = .returned (.int .i64 E) ∧ Below wr.heap.size wr w') := Sl.mk (by rw [← hEE]; exact HC.out)
        rw [hEE] at HR hz
        have hE1 : (E != 0) = true := by simpa using hz
        clear hz hEE HC hne1 HZ
        go_wp2_with fail
        refine HC2.out.mono ?_
        rintro e w2 ⟨rfl, hB2⟩
        have hE2 := below_tr hB hB2
        clear hG hX hB hB2 c1 x0 x1 x2 x3
        go_wp2_with fail
        go_ret
        exact ⟨by rw [HR.out]; rfl, hE2⟩
    · have HC := Sl.mk (modes_any ⟨⟨p, k, m, d⟩, pa, pc, da, dc⟩ A n c wr)
      have c2 := hG.cell 2
      have hne2 : chkE ⟨p, k, m, d⟩ l 2 = chkE ⟨p, k, m, d⟩ l 2 := rfl
      by_cases hz : chkE ⟨p, k, m, d⟩ l 2 = 0
      · have HC2 : Sl (Calls Tryd.prog 50 #[.agg #[.slice pa p.length pc, .int .i64 k, .int .i64 m, .slice da d.length dc, .slice A n c]] wr fun e w' => e = .returned (.int .i64 0) ∧ Below wr.heap.size wr w') := Sl.mk (by rw [← hz]; exact HC.out)
        have HZ2 := Sl.mk (chk_step HZ.out hz)
        clear hz HC hne2 HZ
        go_wp2_with fail
        refine HC2.out.mono ?_
        rintro e w2 ⟨rfl, hB2⟩
        have hG2 := hG.be hB2
        have hX2 := hX.be hB2
        have hE2 := below_tr hB hB2
        clear hG hX hB hB2 c2 x0 x1 x2 x3
        go_wp2_with fail
        go_roundw
        case rel => exact ⟨3, by omega, by go_num, HZ2, hG2, hX2, hE2⟩
        case measure => simp [intOf]
      · have HR := Sl.mk (ref_bad HZ.out hz (by omega))
        obtain ⟨E, hEE⟩ : ∃ E, chkE ⟨p, k, m, d⟩ l 2 = E := ⟨_, rfl⟩
        have HC2 : Sl (Calls Tryd.prog 50 #[.agg #[.slice pa p.length pc, .int .i64 k, .int .i64 m, .slice da d.length dc, .slice A n c]] wr fun e w' => e = .returned (.int .i64 E) ∧ Below wr.heap.size wr w') := Sl.mk (by rw [← hEE]; exact HC.out)
        rw [hEE] at HR hz
        have hE1 : (E != 0) = true := by simpa using hz
        clear hz hEE HC hne2 HZ
        go_wp2_with fail
        refine HC2.out.mono ?_
        rintro e w2 ⟨rfl, hB2⟩
        have hE2 := below_tr hB hB2
        clear hG hX hB hB2 c2 x0 x1 x2 x3
        go_wp2_with fail
        go_ret
        exact ⟨by rw [HR.out]; rfl, hE2⟩
    · have HC := Sl.mk (size_any ⟨⟨p, k, m, d⟩, pa, pc, da, dc⟩ A n c wr HX.out.dlen)
      have c3 := hG.cell 3
      have hne3 : chkE ⟨p, k, m, d⟩ l 3 = chkE ⟨p, k, m, d⟩ l 3 := rfl
      by_cases hz : chkE ⟨p, k, m, d⟩ l 3 = 0
      · have HC2 : Sl (Calls Tryd.prog 51 #[.agg #[.slice pa p.length pc, .int .i64 k, .int .i64 m, .slice da d.length dc, .slice A n c]] wr fun e w' => e = .returned (.int .i64 0) ∧ Below wr.heap.size wr w') := Sl.mk (by rw [← hz]; exact HC.out)
        have HZ2 := Sl.mk (chk_step HZ.out hz)
        clear hz HC hne3 HZ
        go_wp2_with fail
        refine HC2.out.mono ?_
        rintro e w2 ⟨rfl, hB2⟩
        have hG2 := hG.be hB2
        have hX2 := hX.be hB2
        have hE2 := below_tr hB hB2
        clear hG hX hB hB2 c3 x0 x1 x2 x3
        go_wp2_with fail
        go_roundw
        case rel => exact ⟨4, by omega, by go_num, HZ2, hG2, hX2, hE2⟩
        case measure => simp [intOf]
      · have HR := Sl.mk (ref_bad HZ.out hz (by omega))
        obtain ⟨E, hEE⟩ : ∃ E, chkE ⟨p, k, m, d⟩ l 3 = E := ⟨_, rfl⟩
        have HC2 : Sl (Calls Tryd.prog 51 #[.agg #[.slice pa p.length pc, .int .i64 k, .int .i64 m, .slice da d.length dc, .slice A n c]] wr fun e w' => e = .returned (.int .i64 E) ∧ Below wr.heap.size wr w') := Sl.mk (by rw [← hEE]; exact HC.out)
        rw [hEE] at HR hz
        have hE1 : (E != 0) = true := by simpa using hz
        clear hz hEE HC hne3 HZ
        go_wp2_with fail
        refine HC2.out.mono ?_
        rintro e w2 ⟨rfl, hB2⟩
        have hE2 := below_tr hB hB2
        clear hG hX hB hB2 c3 x0 x1 x2 x3
        go_wp2_with fail
        go_ret
        exact ⟨by rw [HR.out]; rfl, hE2⟩
    · have HC := Sl.mk (link_any ⟨⟨p, k, m, d⟩, pa, pc, da, dc⟩ A n c wr (HX.out.be hB) (HPN.out (HZ.out 0 (by omega))) (HM.out.be hB))
      have c4 := hG.cell 4
      have hne4 : chkE ⟨p, k, m, d⟩ l 4 = chkE ⟨p, k, m, d⟩ l 4 := rfl
      by_cases hz : chkE ⟨p, k, m, d⟩ l 4 = 0
      · have HC2 : Sl (Calls Tryd.prog 52 #[.agg #[.slice pa p.length pc, .int .i64 k, .int .i64 m, .slice da d.length dc, .slice A n c]] wr fun e w' => e = .returned (.int .i64 0) ∧ Below wr.heap.size wr w') := Sl.mk (by rw [← hz]; exact HC.out)
        have HZ2 := Sl.mk (chk_step HZ.out hz)
        clear hz HC hne4 HZ
        go_wp2_with fail
        refine HC2.out.mono ?_
        rintro e w2 ⟨rfl, hB2⟩
        have hG2 := hG.be hB2
        have hX2 := hX.be hB2
        have hE2 := below_tr hB hB2
        clear hG hX hB hB2 c4 x0 x1 x2 x3
        go_wp2_with fail
        go_roundw
        case rel => exact ⟨5, by omega, by go_num, HZ2, hG2, hX2, hE2⟩
        case measure => simp [intOf]
      · have HR := Sl.mk (ref_bad HZ.out hz (by omega))
        obtain ⟨E, hEE⟩ : ∃ E, chkE ⟨p, k, m, d⟩ l 4 = E := ⟨_, rfl⟩
        have HC2 : Sl (Calls Tryd.prog 52 #[.agg #[.slice pa p.length pc, .int .i64 k, .int .i64 m, .slice da d.length dc, .slice A n c]] wr fun e w' => e = .returned (.int .i64 E) ∧ Below wr.heap.size wr w') := Sl.mk (by rw [← hEE]; exact HC.out)
        rw [hEE] at HR hz
        have hE1 : (E != 0) = true := by simpa using hz
        clear hz hEE HC hne4 HZ
        go_wp2_with fail
        refine HC2.out.mono ?_
        rintro e w2 ⟨rfl, hB2⟩
        have hE2 := below_tr hB hB2
        clear hG hX hB hB2 c4 x0 x1 x2 x3
        go_wp2_with fail
        go_ret
        exact ⟨by rw [HR.out]; rfl, hE2⟩
    · have HC := Sl.mk (place_any ⟨⟨p, k, m, d⟩, pa, pc, da, dc⟩ A n c l wr (HX.out.be hB) (HPN.out (HZ.out 0 (by omega))) hn (HL.out.be hB))
      have c5 := hG.cell 5
      have hne5 : chkE ⟨p, k, m, d⟩ l 5 = chkE ⟨p, k, m, d⟩ l 5 := rfl
      by_cases hz : chkE ⟨p, k, m, d⟩ l 5 = 0
      · have HC2 : Sl (Calls Tryd.prog 53 #[.agg #[.slice pa p.length pc, .int .i64 k, .int .i64 m, .slice da d.length dc, .slice A n c]] wr fun e w' => e = .returned (.int .i64 0) ∧ Below wr.heap.size wr w') := Sl.mk (by rw [← hz]; exact HC.out)
        have HZ2 := Sl.mk (chk_step HZ.out hz)
        clear hz HC hne5 HZ
        go_wp2_with fail
        refine HC2.out.mono ?_
        rintro e w2 ⟨rfl, hB2⟩
        have hG2 := hG.be hB2
        have hX2 := hX.be hB2
        have hE2 := below_tr hB hB2
        clear hG hX hB hB2 c5 x0 x1 x2 x3
        go_wp2_with fail
        go_roundw
        case rel => exact ⟨6, by omega, by go_num, HZ2, hG2, hX2, hE2⟩
        case measure => simp [intOf]
      · have HR := Sl.mk (ref_bad HZ.out hz (by omega))
        obtain ⟨E, hEE⟩ : ∃ E, chkE ⟨p, k, m, d⟩ l 5 = E := ⟨_, rfl⟩
        have HC2 : Sl (Calls Tryd.prog 53 #[.agg #[.slice pa p.length pc, .int .i64 k, .int .i64 m, .slice da d.length dc, .slice A n c]] wr fun e w' => e = .returned (.int .i64 E) ∧ Below wr.heap.size wr w') := Sl.mk (by rw [← hEE]; exact HC.out)
        rw [hEE] at HR hz
        have hE1 : (E != 0) = true := by simpa using hz
        clear hz hEE HC hne5 HZ
        go_wp2_with fail
        refine HC2.out.mono ?_
        rintro e w2 ⟨rfl, hB2⟩
        have hE2 := below_tr hB hB2
        clear hG hX hB hB2 c5 x0 x1 x2 x3
        go_wp2_with fail
        go_ret
        exact ⟨by rw [HR.out]; rfl, hE2⟩
    · have HR := Sl.mk (ref_good HZ.out)
      clear x0 x1 x2 x3 HZ
      go_wp2_with fail
      go_ret
      exact ⟨by rw [HR.out]; rfl, hB⟩

end Go.Proofs.YticcphppnmoogaaDoor
