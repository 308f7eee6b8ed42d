/-
  The contracts of checks, refused.
  The contract of archive.Check.
  The contracts of creelref01.Same and creellaw05.Few.
-/
import Derived.Test.YticcphppnmoogaaDoorBm6

namespace Go.Proofs.YticcphppnmoogaaDoor
open Go.RowKit
attribute [local go_sem ↓] Go.wp_at_zero Go.wp_at_succ

/-- What the i-th check says. -/
def chkE (e : En) (l : List Ex) : Nat → Int
  | 0 => pathsE e.path
  | 1 => kindE e.kind
  | 2 => modesE e.kind e.mode
  | 3 => sizeE e.kind e.data.length
  | 4 => linkE e
  | _ => placeE e.path l
def refusedE (e : En) (l : List Ex) : Int :=
  if chkE e l 0 ≠ 0 then chkE e l 0 else if chkE e l 1 ≠ 0 then chkE e l 1 else if chkE e l 2 ≠ 0 then chkE e l 2 else if chkE e l 3 ≠ 0 then chkE e l 3 else if chkE e l 4 ≠ 0 then chkE e l 4 else chkE e l 5
theorem chk_step {e : En} {l : List Ex} {i : Nat} (h : ∀ j, j < i → chkE e l j = 0) (hz : chkE e l i = 0) : ∀ j, j < i + 1 → chkE e l j = 0 := fun j hj => by
  rcases Nat.lt_or_ge j i with h1 | h1
  · exact h j h1
  · obtain rfl : j = i := by omega
    exact hz
theorem ref_bad {e : En} {l : List Ex} {i : Nat} (h : ∀ j, j < i → chkE e l j = 0) (hz : ¬ chkE e l i = 0) (hi : i < 6) : refusedE e l = chkE e l i := by
  unfold refusedE
  match i, hi with
  | 0, _ => rw [if_pos hz]
  | 1, _ => rw [if_neg (by simp [h 0 (by omega)]), if_pos hz]
  | 2, _ => rw [if_neg (by simp [h 0 (by omega)]), if_neg (by simp [h 1 (by omega)]), if_pos hz]
  | 3, _ => rw [if_neg (by simp [h 0 (by omega)]), if_neg (by simp [h 1 (by omega)]), if_neg (by simp [h 2 (by omega)]), if_pos hz]
  | 4, _ => rw [if_neg (by simp [h 0 (by omega)]), if_neg (by simp [h 1 (by omega)]), if_neg (by simp [h 2 (by omega)]), if_neg (by simp [h 3 (by omega)]), if_pos hz]
  | 5, _ => rw [if_neg (by simp [h 0 (by omega)]), if_neg (by simp [h 1 (by omega)]), if_neg (by simp [h 2 (by omega)]), if_neg (by simp [h 3 (by omega)]), if_neg (by simp [h 4 (by omega)])]
theorem ref_good {e : En} {l : List Ex} (h : ∀ j, j < 6 → chkE e l j = 0) : refusedE e l = 0 := by
  unfold refusedE
  rw [if_neg (by simp [h 0 (by omega)]), if_neg (by simp [h 1 (by omega)]), if_neg (by simp [h 2 (by omega)]), if_neg (by simp [h 3 (by omega)]), if_neg (by simp [h 4 (by omega)])]
  exact h 5 (by omega)
theorem paths_ne {p : List ByteArray} (h : pathsE p = 0) : p ≠ [] := fun e => by
  subst e
  unfold pathsE at h
  split at h
  · cases h
  · rw [if_pos rfl] at h; cases h

abbrev chkV : Array Value := #[.func (.func 48) #[] #[], .func (.func 49) #[] #[], .func (.func 50) #[] #[], .func (.func 51) #[] #[], .func (.func 52) #[] #[], .func (.func 53) #[] #[]]
theorem checks_any (w : World) : Calls Tryd.prog 36 #[] w fun e w' => e = .returned (.slice (some ⟨w.heap.size, 0, none⟩) 6 6) ∧ w' = w.alloc (.cells chkV 85) := by
  go_enter Tryd.func36, Tryd.ntmps36
  go_wp2_with fail
  go_ret
  exact ⟨rfl, rfl⟩

set_option maxRecDepth 100000 in
set_option maxHeartbeats 8000000 in
theorem refused_any (x : Ex) (A : Option Addr) (n c : Nat) (l : List Ex) (w : World) (hx : ExOk w w.heap.size x) (hn : n ≤ 1000000) (hL : Exs w A n l) (hM : Mx w) :
    Calls Tryd.prog 21 #[.agg (exC x).toArray, .slice A n c] w fun e w' => e = .returned (.int .i64 (refusedE x.e l)) ∧ Below w.heap.size w w' := by
  obtain ⟨⟨p, k, m, d⟩, pa, pc, da, dc⟩ := x
  have HX := Sl.mk hx
  have HL := Sl.mk hL
  have HM := Sl.mk hM
  have HPN := Sl.mk (fun h : chkE ⟨p, k, m, d⟩ l 0 = 0 => paths_ne (p := p) h)
  clear hx hL hM
  show Calls Tryd.prog 21 #[.agg #[.slice pa p.length pc, .int .i64 k, .int .i64 m, .slice da d.length dc], .slice A n c] w fun e w' => e = .returned (.int .i64 (refusedE ⟨p, k, m, d⟩ l)) ∧ Below w.heap.size w w'
  obtain ⟨wB, hwB⟩ : ∃ wB, w.alloc (.cells #[.slice pa p.length pc, .int .i64 k, .int .i64 m, .slice da d.length dc] 34) = wB := ⟨_, rfl⟩
  have hX0 : Blk wB w.heap.size 34 #[.slice pa p.length pc, .int .i64 k, .int .i64 m, .slice da d.length dc] := by rw [← hwB]; exact Blk.new _ _ _
  have hE0 : Below w.heap.size w wB := by rw [← hwB]; exact below_al (Below.refl _ _) _
  have hs0 : wB.heap.size = w.heap.size + 1 := by rw [← hwB]; simp
  go_enter Tryd.func21, Tryd.ntmps21
  go_wp2_with fail
  clear hwB
  refine (checks_any _).mono ?_
  rintro e w1 ⟨rfl, hw1⟩
  have hG1 : Blk w1 (w.heap.size + 1) 85 chkV := by rw [hw1, ← hs0]; exact Blk.new _ _ _
  have hX1 : Blk w1 w.heap.size 34 #[.slice pa p.length pc, .int .i64 k, .int .i64 m, .slice da d.length dc] := by rw [hw1]; exact hX0.alloc _
  have hE1 : Below w.heap.size w w1 := by rw [hw1]; exact below_al hE0 _
  rw [hs0]
  clear hw1 hX0 hE0 hs0
  go_wp2_with fail
  go_loopw [6, 7, 10] (fun _ _ v10 wr => ∃ i : Nat, i ≤ 6 ∧ v10 = .int .i64 i ∧ Sl (∀ j, j < i → chkE ⟨p, k, m, d⟩ l j = 0) ∧ Blk wr (w.heap.size + 1) 85 chkV ∧ Blk wr w.heap.size 34 #[.slice pa p.length pc, .int .i64 k, .int .i64 m, .slice da d.length dc] ∧ Below w.heap.size w wr) (fun _ _ v10 _ => 6 - (intOf v10).toNat)
  case atStart => exact ⟨0, by omega, rfl, ⟨fun j hj => absurd hj (by omega)⟩, hG1, hX1, hE1⟩
  case round =>
    clear hG1 hX1 hE1
    obtain ⟨i, hi, rfl, HZ, hG, hX, hB⟩ := hrel
    have x0 := hX.cell 0
    have x1 := hX.cell 1
    have x2 := hX.cell 2
    have x3 := hX.cell 3
    obtain rfl | rfl | rfl | rfl | rfl | rfl | rfl : i = 0 ∨ i = 1 ∨ i = 2 ∨ i = 3 ∨ i = 4 ∨ i = 5 ∨ i = 6 := by omega
    · have HC := Sl.mk (paths_any ⟨⟨p, k, m, d⟩, pa, pc, da, dc⟩ A n c wr (HX.out.be hB))
      have c0 := hG.cell 0
      have hne0 : chkE ⟨p, k, m, d⟩ l 0 = chkE ⟨p, k, m, d⟩ l 0 := rfl
      by_cases hz : chkE ⟨p, k, m, d⟩ l 0 = 0
      · have HC2 : Sl (Calls Tryd.prog 48 #[.agg #[.slice pa p.length pc, .int .i64 k, .int .i64 m, .slice da d.length dc, .slice A n c]] wr fun e w' => e = .returned (.int .i64 0) ∧ Below wr.heap.size wr w') := Sl.mk (by rw [← hz]; exact HC.out)
        have HZ2 := Sl.mk (chk_step HZ.out hz)
        clear hz HC hne0 HZ
        go_wp2_with fail
        refine HC2.out.mono ?_
        rintro e w2 ⟨rfl, hB2⟩
        have hG2 := hG.be hB2
        have hX2 := hX.be hB2
        have hE2 := below_tr hB hB2
        clear hG hX hB hB2 c0 x0 x1 x2 x3
        go_wp2_with fail
        go_roundw
        case rel => exact ⟨1, by omega, by go_num, HZ2, hG2, hX2, hE2⟩
        case measure => simp [intOf]
      · have HR := Sl.mk (ref_bad HZ.out hz (by omega))
        obtain ⟨E, hEE⟩ : ∃ E, chkE ⟨p, k, m, d⟩ l 0 = E := ⟨_, rfl⟩
        have HC2 : Sl (Calls Tryd.prog 48 #[.agg #[.slice pa p.length pc, .int .i64 k, .int .i64 m, .slice da d.length dc, .slice A n c]] wr fun e w' => e = .returned (.int .i64 E) ∧ Below wr.heap.size wr w') := Sl.mk (by rw [← hEE]; exact HC.out)
        rw [hEE] at HR hz
        have hE1 : (E != 0) = true := by simpa using hz
        clear hz hEE HC hne0 HZ
        go_wp2_with fail
        refine HC2.out.mono ?_
        rintro e w2 ⟨rfl, hB2⟩
        have hE2 := below_tr hB hB2
        clear hG hX hB hB2 c0 x0 x1 x2 x3
        go_wp2_with fail
        go_ret
        exact ⟨by rw [HR.out]; rfl, hE2⟩
    · have HC := Sl.mk (kind_any ⟨⟨p, k, m, d⟩, pa, pc, da, dc⟩ A n c wr)
      have c1 := hG.cell 1
      have hne1 : chkE ⟨p, k, m, d⟩ l 1 = chkE ⟨p, k, m, d⟩ l 1 := rfl
      by_cases hz : chkE ⟨p, k, m, d⟩ l 1 = 0
      · have HC2 : Sl (Calls Tryd.prog 49 #[.agg #[.slice pa p.length pc, .int .i64 k, .int .i64 m, .slice da d.length dc, .slice A n c]] wr fun e w' => e = .returned (.int .i64 0) ∧ Below wr.heap.size wr w') := Sl.mk (by rw [← hz]; exact HC.out)
        have HZ2 := Sl.mk (chk_step HZ.out hz)
        clear hz HC hne1 HZ
        go_wp2_with fail
        refine HC2.out.mono ?_
        rintro e w2 ⟨rfl, hB2⟩
        have hG2 := hG.be hB2
        have hX2 := hX.be hB2
        have hE2 := below_tr hB hB2
        clear hG hX hB hB2 c1 x0 x1 x2 x3
        go_wp2_with fail
        go_roundw
        case rel => exact ⟨2, by omega, by go_num, HZ2, hG2, hX2, hE2⟩
        case measure => simp [intOf]
      · have HR := Sl.mk (ref_bad HZ.out hz (by omega))
        obtain ⟨E, hEE⟩ : ∃ E, chkE ⟨p, k, m, d⟩ l 1 = E := ⟨_, rfl⟩
        have HC2 : Sl (Calls Tryd.prog 49 #[.agg #[.slice pa p.length pc, .int .i64 k, .int .i64 m, .slice da d.length dc, .slice A n c]] wr fun e w' => e = .returned (.int .i64 E) ∧ Below wr.heap.size wr w') := Sl.mk (by rw [← hEE]; exact HC.out)
        rw [hEE] at HR hz
        have hE1 : (E != 0) = true := by simpa using hz
        clear hz hEE HC hne1 HZ
        go_wp2_with fail
        refine HC2.out.mono ?_
        rintro e w2 ⟨rfl, hB2⟩
        have hE2 := below_tr hB hB2
        clear hG hX hB hB2 c1 x0 x1 x2 x3
        go_wp2_with fail
        go_ret
        exact ⟨by rw [HR.out]; rfl, hE2⟩
    · have HC := Sl.mk (modes_any ⟨⟨p, k, m, d⟩, pa, pc, da, dc⟩ A n c wr)
      have c2 := hG.cell 2
      have hne2 : chkE ⟨p, k, m, d⟩ l 2 = chkE ⟨p, k, m, d⟩ l 2 := rfl
      by_cases hz : chkE ⟨p, k, m, d⟩ l 2 = 0
      · have HC2 : Sl (Calls Tryd.prog 50 #[.agg #[.slice pa p.length pc, .int .i64 k, .int .i64 m, .slice da d.length dc, .slice A n c]] wr fun e w' => e = .returned (.int .i64 0) ∧ Below wr.heap.size wr w') := Sl.mk (by rw [← hz]; exact HC.out)
        have HZ2 := Sl.mk (chk_step HZ.out hz)
        clear hz HC hne2 HZ
        go_wp2_with fail
        refine HC2.out.mono ?_
        rintro e w2 ⟨rfl, hB2⟩
        have hG2 := hG.be hB2
        have hX2 := hX.be hB2
        have hE2 := below_tr hB hB2
        clear hG hX hB hB2 c2 x0 x1 x2 x3
        go_wp2_with fail
        go_roundw
        case rel => exact ⟨3, by omega, by go_num, HZ2, hG2, hX2, hE2⟩
        case measure => simp [intOf]
      · have HR := Sl.mk (ref_bad HZ.out hz (by omega))
        obtain ⟨E, hEE⟩ : ∃ E, chkE ⟨p, k, m, d⟩ l 2 = E := ⟨_, rfl⟩
        have HC2 : Sl (Calls Tryd.prog 50 #[.agg #[.slice pa p.length pc, .int .i64 k, .int .i64 m, .slice da d.length dc, .slice A n c]] wr fun e w' => e = .returned (.int .i64 E) ∧ Below wr.heap.size wr w') := Sl.mk (by rw [← hEE]; exact HC.out)
        rw [hEE] at HR hz
        have hE1 : (E != 0) = true := by simpa using hz
        clear hz hEE HC hne2 HZ
        go_wp2_with fail
        refine HC2.out.mono ?_
        rintro e w2 ⟨rfl, hB2⟩
        have hE2 := below_tr hB hB2
        clear hG hX hB hB2 c2 x0 x1 x2 x3
        go_wp2_with fail
        go_ret
        exact ⟨by rw [HR.out]; rfl, hE2⟩
    · have HC := Sl.mk (size_any ⟨⟨p, k, m, d⟩, pa, pc, da, dc⟩ A n c wr HX.out.dlen)
      have c3 := hG.cell 3
      have hne3 : chkE ⟨p, k, m, d⟩ l 3 = chkE ⟨p, k, m, d⟩ l 3 := rfl
      by_cases hz : chkE ⟨p, k, m, d⟩ l 3 = 0
      · have HC2 : Sl (Calls Tryd.prog 51 #[.agg #[.slice pa p.length pc, .int .i64 k, .int .i64 m, .slice da d.length dc, .slice A n c]] wr fun e w' => e = .returned (.int .i64 0) ∧ Below wr.heap.size wr w') := Sl.mk (by rw [← hz]; exact HC.out)
        have HZ2 := Sl.mk (chk_step HZ.out hz)
        clear hz HC hne3 HZ
        go_wp2_with fail
        refine HC2.out.mono ?_
        rintro e w2 ⟨rfl, hB2⟩
        have hG2 := hG.be hB2
        have hX2 := hX.be hB2
        have hE2 := below_tr hB hB2
        clear hG hX hB hB2 c3 x0 x1 x2 x3
        go_wp2_with fail
        go_roundw
        case rel => exact ⟨4, by omega, by go_num, HZ2, hG2, hX2, hE2⟩
        case measure => simp [intOf]
      · have HR := Sl.mk (ref_bad HZ.out hz (by omega))
        obtain ⟨E, hEE⟩ : ∃ E, chkE ⟨p, k, m, d⟩ l 3 = E := ⟨_, rfl⟩
        have HC2 : Sl (Calls Tryd.prog 51 #[.agg #[.slice pa p.length pc, .int .i64 k, .int .i64 m, .slice da d.length dc, .slice A n c]] wr fun e w' => e = .returned (.int .i64 E) ∧ Below wr.heap.size wr w') := Sl.mk (by rw [← hEE]; exact HC.out)
        rw [hEE] at HR hz
        have hE1 : (E != 0) = true := by simpa using hz
        clear hz hEE HC hne3 HZ
        go_wp2_with fail
        refine HC2.out.mono ?_
        rintro e w2 ⟨rfl, hB2⟩
        have hE2 := below_tr hB hB2
        clear hG hX hB hB2 c3 x0 x1 x2 x3
        go_wp2_with fail
        go_ret
        exact ⟨by rw [HR.out]; rfl, hE2⟩
    · have HC := Sl.mk (link_any ⟨⟨p, k, m, d⟩, pa, pc, da, dc⟩ A n c wr (HX.out.be hB) (HPN.out (HZ.out 0 (by omega))) (HM.out.be hB))
      have c4 := hG.cell 4
      have hne4 : chkE ⟨p, k, m, d⟩ l 4 = chkE ⟨p, k, m, d⟩ l 4 := rfl
      by_cases hz : chkE ⟨p, k, m, d⟩ l 4 = 0
      · have HC2 : Sl (Calls Tryd.prog 52 #[.agg #[.slice pa p.length pc, .int .i64 k, .int .i64 m, .slice da d.length dc, .slice A n c]] wr fun e w' => e = .returned (.int .i64 0) ∧ Below wr.heap.size wr w') := Sl.mk (by rw [← hz]; exact HC.out)
        have HZ2 := Sl.mk (chk_step HZ.out hz)
        clear hz HC hne4 HZ
        go_wp2_with fail
        refine HC2.out.mono ?_
        rintro e w2 ⟨rfl, hB2⟩
        have hG2 := hG.be hB2
        have hX2 := hX.be hB2
        have hE2 := below_tr hB hB2
        clear hG hX hB hB2 c4 x0 x1 x2 x3
        go_wp2_with fail
        go_roundw
        case rel => exact ⟨5, by omega, by go_num, HZ2, hG2, hX2, hE2⟩
        case measure => simp [intOf]
      · have HR := Sl.mk (ref_bad HZ.out hz (by omega))
        obtain ⟨E, hEE⟩ : ∃ E, chkE ⟨p, k, m, d⟩ l 4 = E := ⟨_, rfl⟩
        have HC2 : Sl (Calls Tryd.prog 52 #[.agg #[.slice pa p.length pc, .int .i64 k, .int .i64 m, .slice da d.length dc, .slice A n c]] wr fun e w' => e = .returned (.int .i64 E) ∧ Below wr.heap.size wr w') := Sl.mk (by rw [← hEE]; exact HC.out)
        rw [hEE] at HR hz
        have hE1 : (E != 0) = true := by simpa using hz
        clear hz hEE HC hne4 HZ
        go_wp2_with fail
        refine HC2.out.mono ?_
        rintro e w2 ⟨rfl, hB2⟩
        have hE2 := below_tr hB hB2
        clear hG hX hB hB2 c4 x0 x1 x2 x3
        go_wp2_with fail
        go_ret
        exact ⟨by rw [HR.out]; rfl, hE2⟩
    · have HC := Sl.mk (place_any ⟨⟨p, k, m, d⟩, pa, pc, da, dc⟩ A n c l wr (HX.out.be hB) (HPN.out (HZ.out 0 (by omega))) hn (HL.out.be hB))
      have c5 := hG.cell 5
      have hne5 : chkE ⟨p, k, m, d⟩ l 5 = chkE ⟨p, k, m, d⟩ l 5 := rfl
      by_cases hz : chkE ⟨p, k, m, d⟩ l 5 = 0
      · have HC2 : Sl (Calls Tryd.prog 53 #[.agg #[.slice pa p.length pc, .int .i64 k, .int .i64 m, .slice da d.length dc, .slice A n c]] wr fun e w' => e = .returned (.int .i64 0) ∧ Below wr.heap.size wr w') := Sl.mk (by rw [← hz]; exact HC.out)
        have HZ2 := Sl.mk (chk_step HZ.out hz)
        clear hz HC hne5 HZ
        go_wp2_with fail
        refine HC2.out.mono ?_
        rintro e w2 ⟨rfl, hB2⟩
        have hG2 := hG.be hB2
        have hX2 := hX.be hB2
        have hE2 := below_tr hB hB2
        clear hG hX hB hB2 c5 x0 x1 x2 x3
        go_wp2_with fail
        go_roundw
        case rel => exact ⟨6, by omega, by go_num, HZ2, hG2, hX2, hE2⟩
        case measure => simp [intOf]
      · have HR := Sl.mk (ref_bad HZ.out hz (by omega))
        obtain ⟨E, hEE⟩ : ∃ E, chkE ⟨p, k, m, d⟩ l 5 = E := ⟨_, rfl⟩
        have HC2 : Sl (Calls Tryd.prog 53 #[.agg #[.slice pa p.length pc, .int .i64 k, .int .i64 m, .slice da d.length dc, .slice A n c]] wr fun e w' => e = .returned (.int .i64 E) ∧ Below wr.heap.size wr w') := Sl.mk (by rw [← hEE]; exact HC.out)
        rw [hEE] at HR hz
        have hE1 : (E != 0) = true := by simpa using hz
        clear hz hEE HC hne5 HZ
        go_wp2_with fail
        refine HC2.out.mono ?_
        rintro e w2 ⟨rfl, hB2⟩
        have hE2 := below_tr hB hB2
        clear hG hX hB hB2 c5 x0 x1 x2 x3
        go_wp2_with fail
        go_ret
        exact ⟨by rw [HR.out]; rfl, hE2⟩
    · have HR := Sl.mk (ref_good HZ.out)
      clear x0 x1 x2 x3 HZ
      go_wp2_with fail
      go_ret
      exact ⟨by rw [HR.out]; rfl, hB⟩

end Go.Proofs.YticcphppnmoogaaDoor

namespace Go.Proofs.YticcphppnmoogaaDoor
open Go.RowKit
attribute [local go_sem ↓] Go.wp_at_zero Go.wp_at_succ

/-- What Check tells: the first entry that is refused, and why. -/
def CheckR (l : List Ex) (N : Nat) (E : Int) : Prop :=
  (40 < l.length ∧ N = 40 ∧ E = 2) ∨ (l.length ≤ 40 ∧ N ≤ l.length ∧ (∀ j x, j < N → l[j]? = some x → refusedE x.e (l.take j) = 0) ∧ ((N = l.length ∧ E = 0) ∨ (∃ x, l[N]? = some x ∧ E = refusedE x.e (l.take N) ∧ E ≠ 0)))
def CheckPost (w : World) (l : List Ex) (e : Ending) (w' : World) : Prop := ∃ (N : Nat) (E : Int), e = .returned (.tuple #[.int .i64 N, .int .i64 E]) ∧ CheckR l N E ∧ Below w.heap.size w w'

theorem ld_exl {ops : Array Oper} {rest : List Oper} {op : Oper} {a : Act} {w : World} {Q : Exit → Act → World → Prop} {ad : Addr} {x : Ex} (hc : ∀ j v, (exC x)[j]? = some v → w.cell? (ad.add j) = some v) (hgd : op.guard = none) (y : Operand) (ho : op.op = .load 34 y) (hy : a.eval y = .pointer (some ad))
    (h : wpList Tryd.prog ops Q rest (a.put op.dst (.agg #[.slice x.pa x.e.path.length x.pc, .int .i64 x.e.kind, .int .i64 x.e.mode, .slice x.da x.e.data.length x.dc])) w) : wpList Tryd.prog ops Q (op :: rest) a w :=
  ld_ex hc hgd y ho hy h

set_option maxRecDepth 100000 in
set_option maxHeartbeats 4000000 in
theorem acheck_any (A : Option Addr) (n c : Nat) (l : List Ex) (w : World) (hn : n ≤ 1000000) (hnc : n ≤ c ∧ c ≤ 9223372036854775807) (hL : Exs w A n l) (hM : Mx w) :
    Calls Tryd.prog 8 #[.slice A n c] w (CheckPost w l) := by
  have HN := Sl.mk hL.n_
  have HL := Sl.mk hL
  have HM := Sl.mk hM
  clear hL hM
  by_cases h40 : 40 < n
  · have h40' : (40 : Int) < (n : Int) := by omega
    go_enter Tryd.func8, Tryd.ntmps8
    go_wp2_with fail
    go_ret2
    exact ⟨40, 2, rfl, .inl ⟨by rw [HN.out]; exact h40, rfl, rfl⟩, Below.refl _ _⟩
  · have h40' : ¬ (40 : Int) < (n : Int) := by omega
    go_enter Tryd.func8, Tryd.ntmps8
    go_wp2_with fail
    go_loopw [4, 5, 6, 12] (fun _ _ _ v12 wr => ∃ i : Nat, i ≤ n ∧ v12 = .int .i64 i ∧ Sl (∀ j x, j < i → l[j]? = some x → refusedE x.e (l.take j) = 0) ∧ Below w.heap.size w wr) (fun _ _ _ v12 _ => n - (intOf v12).toNat)
    case atStart => exact ⟨0, Nat.zero_le _, rfl, ⟨fun j x hj => absurd hj (by omega)⟩, Below.refl _ _⟩
    case round =>
      obtain ⟨i, hi, rfl, HZ, hB⟩ := hrel
      by_cases hil : i < n
      · obtain ⟨x, hx⟩ : ∃ x, l[i]? = some x := ⟨_, List.getElem?_eq_getElem (by rw [HN.out]; exact hil)⟩
        obtain ⟨ad, rfl, hbl, hld, hok⟩ := (HL.out.be hB).at_ hx
        have hd0 : wr.cell? (ad.add (i * 4)) = some (.slice x.pa x.e.path.length x.pc) := by have := hld 0 _ rfl; simpa [Addr.add] using this
        have HXI := Sl.mk hx
        have HR := Sl.mk (show ∀ W, Below wr.heap.size wr W → Calls Tryd.prog 21 #[.agg #[.slice x.pa x.e.path.length x.pc, .int .i64 x.e.kind, .int .i64 x.e.mode, .slice x.da x.e.data.length x.dc], .slice (some ad) i c] W fun e w' => e = .returned (.int .i64 (refusedE x.e (l.take i))) ∧ Below W.heap.size W w' from fun W hW =>
          refused_any x (some ad) i c (l.take i) W (hok.be hW) (by omega) (((HL.out.be hB).be hW).take_ hi) ((HM.out.be hB).be hW))
        have hwa := below_al (Below.refl wr.heap.size wr) (.cells #[.slice x.pa x.e.path.length x.pc, .int .i64 x.e.kind, .int .i64 x.e.mode, .slice x.da x.e.data.length x.dc] 34)
        clear hx hok
        go_wp2_with (refine ld_exl hld rfl (.tmp 15) rfl rfl ?_)
        refine wp_region_quiet_tail 4 (by kernel_rfl) (by kernel_rfl) ?_
        simp only [List.take_succ_cons, List.take_zero, List.drop_succ_cons, List.drop_zero]
        repeat (any_goals (first | go_big_quiet_step (fail) | quiet_step (fail)))
        refine wpQuiet_nil ?_
        intro _ hw'
        obtain ⟨nq, hw''⟩ := hw'
        subst hw''
        go_wp2_with fail
        refine (HR.out _ (below_drN hwa nq)).mono ?_
        rintro e w2 ⟨rfl, hB2⟩
        have hE2 := below_tr hB (below_tr (below_drN hwa nq) hB2)
        clear hB hld hd0 hwa hB2
        by_cases hz : refusedE x.e (l.take i) = 0
        · have HZ2 := Sl.mk (show ∀ j x, j < i + 1 → l[j]? = some x → refusedE x.e (l.take j) = 0 from fun j y hj hy => by
            rcases Nat.lt_or_ge j i with h | h
            · exact HZ.out j y h hy
            · obtain rfl : j = i := by omega
              rw [HXI.out] at hy
              injection hy with hy
              subst hy
              exact hz)
          rw [hz]
          clear hz HZ
          go_wp2_with fail
          go_roundw
          case rel => exact ⟨i + 1, by omega, by go_num, HZ2, hE2⟩
          case measure => simp [intOf]; omega
        · have HB := Sl.mk hz
          obtain ⟨E, hEE⟩ : ∃ E, refusedE x.e (l.take i) = E := ⟨_, rfl⟩
          have HEE := Sl.mk hEE
          rw [hEE] at hz ⊢
          have hne : (E != 0) = true := by simpa using hz
          clear hz hEE
          go_wp2_with fail
          go_ret2
          exact ⟨i, E, rfl, .inr ⟨by rw [HN.out]; omega, by rw [HN.out]; exact hi, HZ.out, .inr ⟨x, HXI.out, HEE.out.symm, by rw [← HEE.out]; exact HB.out⟩⟩, hE2⟩
      · obtain rfl : i = n := by omega
        go_wp2_with fail
        go_ret2
        exact ⟨i, 0, rfl, .inr ⟨by rw [HN.out]; omega, by rw [HN.out]; exact hi, HZ.out, .inl ⟨HN.out.symm, rfl⟩⟩, hB⟩

end Go.Proofs.YticcphppnmoogaaDoor

namespace Go.Proofs.YticcphppnmoogaaDoor
open Go.RowKit
attribute [local go_sem ↓] Go.wp_at_zero Go.wp_at_succ

def eqB (p q : List Nat) : Bool := decide (p = q)
theorem bytes_at {w : World} {B n : Nat} {A : Option Addr} {p : List Nat} (h : Reads w B 1 A n (u8s p)) {i : Nat} {s : Nat} (hi : p[i]? = some s) :
    ∃ ad, A = some ad ∧ ad.block < B ∧ w.cell? (ad.add i) = some (.int .u8 (s : Int)) := by
  have hl := bytes_n h
  have hil : i < p.length := (List.getElem?_eq_some_iff.1 hi).1
  obtain ⟨ad, e, hb, hc⟩ := h.2 (by omega)
  exact ⟨ad, e, hb, hc i _ (by simp [u8s, hi])⟩

set_option maxHeartbeats 1000000 in
theorem bsame_any (A1 A2 : Option Addr) (n c m d : Nat) (p q : List Nat) (w : World) (hn : n ≤ 1000000000) (hm : m ≤ 1000000000) (hR1 : Reads w w.heap.size 1 A1 n (u8s p)) (hR2 : Reads w w.heap.size 1 A2 m (u8s q)) :
    Calls Tryd.prog 20 #[.slice A1 n c, .slice A2 m d] w fun e w' => e = .returned (.bool (eqB p q)) ∧ ∃ k, w' = w.drewN k := by
  have HL1 := Sl.mk (bytes_n hR1)
  have HL2 := Sl.mk (bytes_n hR2)
  have HR1 := Sl.mk hR1
  have HR2 := Sl.mk hR2
  clear hR1 hR2
  by_cases hnm : n = m
  · subst hnm
    go_enter Tryd.func20, Tryd.ntmps20
    go_wp2_with fail
    go_loopw [5] (fun s5 wr => ∃ i k : Nat, i ≤ n ∧ s5 = .int .i64 i ∧ Sl (p.take i = q.take i) ∧ wr = w.drewN k) (fun s5 _ => n - (intOf s5).toNat)
    case atStart => exact ⟨0, 0, Nat.zero_le _, rfl, ⟨rfl⟩, rfl⟩
    case round =>
      obtain ⟨i, k, hi, rfl, HT, rfl⟩ := hrel
      by_cases hil : i < n
      · obtain ⟨s, hs⟩ : ∃ s, p[i]? = some s := ⟨_, List.getElem?_eq_getElem (by rw [HL1.out]; exact hil)⟩
        obtain ⟨t, ht⟩ : ∃ t, q[i]? = some t := ⟨_, List.getElem?_eq_getElem (by rw [HL2.out]; exact hil)⟩
        obtain ⟨a1, rfl, hb1, hc1⟩ := bytes_at HR1.out hs
        obtain ⟨a2, rfl, hb2, hc2⟩ := bytes_at HR2.out ht
        by_cases hst : s = t
        · subst hst
          have HT2 := Sl.mk (show p.take (i + 1) = q.take (i + 1) by rw [take_snoc' hs, take_snoc' ht, HT.out])
          clear hs ht
          go_wp2_with fail
          go_quiet (fail)
          go_wp2_with fail
          go_roundw
          case rel => exact ⟨i + 1, _, by omega, by go_num, HT2, rfl⟩
          case measure => simp [intOf]; omega
        · have HF := Sl.mk (show eqB p q = false from decide_eq_false fun e => hst (by rw [e, ht] at hs; injection hs with hs; exact hs.symm))
          have hbb : ((s : Int) == (t : Int)) = false := by simp; omega
          have hbn : ((s : Int) != (t : Int)) = true := by simp; omega
          clear hs ht hst
          go_wp2_with fail
          go_quiet (fail)
          go_wp2_with fail
          go_ret
          exact ⟨by rw [HF.out]; rfl, k + nq, by rw [World.drewN_drewN]⟩
      · obtain rfl : i = n := by omega
        have HF := Sl.mk (show eqB p q = true by
          have h := HT.out
          rw [List.take_of_length_le (by rw [HL1.out]; omega), List.take_of_length_le (by rw [HL2.out]; omega)] at h
          exact decide_eq_true h)
        go_wp2_with fail
        go_ret
        exact ⟨by rw [HF.out]; rfl, k, rfl⟩
  · have HF := Sl.mk (show eqB p q = false from decide_eq_false fun e => hnm (by rw [← HL1.out, ← HL2.out, e]))
    have h1 : ((n : Int) != (m : Int)) = true := by simp; omega
    have h2 : ((n : Int) == (m : Int)) = false := by simp; omega
    clear hnm
    go_enter Tryd.func20, Tryd.ntmps20
    go_wp2_with fail
    go_ret
    exact ⟨by rw [HF.out]; rfl, 0, rfl⟩

def FewPost (w : World) (e : Ending) (w' : World) : Prop :=
  ∃ (A : Option Addr) (n c : Nat) (q : List ByteArray), e = .returned (.slice A n c) ∧ w'.ownsRow w.heap.size 9 1 (.slice A n c) n (strV q) ∧ n ≤ 12 ∧ (∀ s ∈ q, s.size ≤ 40) ∧ Below w.heap.size w w'

theorem few_step {q : List ByteArray} {t : ByteArray} (h : ∀ s ∈ q, s.size ≤ 40) (ht : t.size ≤ 40) : ∀ s ∈ q ++ [t], s.size ≤ 40 := fun x hx => by
  rcases List.mem_append.1 hx with h1 | h1
  · exact h x h1
  · simp at h1; subst h1; exact ht

set_option maxRecDepth 100000 in
set_option maxHeartbeats 2000000 in
theorem few_any (A : Option Addr) (n c : Nat) (p : List ByteArray) (w : World) (hn : n ≤ 9223372036854775807) (hs : ∀ s ∈ p, s.size ≤ 9223372036854775807) (hR : Reads w w.heap.size 1 A n (strV p)) :
    Calls Tryd.prog 9 #[.slice A n c] w (FewPost w) := by
  have HL := Sl.mk (strs_n hR)
  have HR := Sl.mk hR
  have HS := Sl.mk hs
  obtain ⟨i0, hi0, hz0, hz1, hz2⟩ := info_parts strInfo
  clear hR hs
  go_enter Tryd.func9, Tryd.ntmps9
  go_wp2_with fail
  go_loopw [3, 4] (fun v3 v4 wr => ∃ (i : Nat) (q : List ByteArray), i ≤ n ∧ i ≤ 12 ∧ v4 = .int .i64 i ∧ wr.ownsRow w.heap.size 9 1 v3 i (strV q) ∧ Sl (∀ s ∈ q, s.size ≤ 40) ∧ Below w.heap.size w wr) (fun _ v4 _ => 12 - (intOf v4).toNat)
  case atStart => exact ⟨0, [], by omega, by omega, rfl, World.ownsRow_nil _ _ _ _, ⟨fun s hs => by cases hs⟩, Below.refl _ _⟩
  case round =>
    obtain ⟨i, q, hi, hi12, rfl, hown, HQ, hB⟩ := hrel
    obtain ⟨A3, c3, rfl⟩ := ownForm hown
    by_cases hlt : i < n
    · by_cases h12 : i < 12
      · obtain ⟨s, hs⟩ : ∃ s, p[i]? = some s := ⟨_, List.getElem?_eq_getElem (by rw [HL.out]; exact hlt)⟩
        obtain ⟨ad, rfl, hb, hc⟩ := strs_at (HR.out.below hB) hs
        have hsz := HS.out s (List.mem_of_getElem? hs)
        clear hs
        go_wp2_with fail
        obtain ⟨t, ht⟩ : ∃ t, s.extract 0 (min (s.size : Int) 40).toNat = t := ⟨_, rfl⟩
        have ht40 : t.size ≤ 40 := by rw [← ht, ByteArray.size_extract]; omega
        have hm0 : (0 : Int) ≤ min (s.size : Int) 40 := by omega
        have hm1 : ¬ ((s.size : Int) < min (s.size : Int) 40) := by omega
        obtain ⟨wd, hwd⟩ : ∃ wd, wr.drew = wd := ⟨_, rfl⟩
        have hown1 : wd.ownsRow w.heap.size 9 1 (.slice A3 i c3) i (strV q) := by rw [← hwd]; exact hown
        have hB1 : Below w.heap.size w wd := by rw [← hwd]; exact hB.drew
        have hcd : wd.cell? (ad.add i) = some (.string s) := by rw [← hwd]; exact hc
        have hcb : ad.block < wd.heap.size := Nat.lt_of_lt_of_le hb hB1.size
        have HSF : Sl (∀ W, Below wd.heap.size wd W → W.cell? (ad.add i) = some (.string s)) := Sl.mk (fun W hW => (hW.cell (p := ad.add i) (by rw [block_of_add]; exact hcb)).trans hcd)
        refine wp_region_X (fun W => Below wd.heap.size wd W) [13, 14] (by kernel_rfl) (by rw [hwd]; exact Below.refl _ _) (fun hS => ?_)
        rw [hwd] at hS ⊢
        clear hwd hc hown hB hcd
        refine wpAnyX_S (i := 0) (v := ?_) rfl (by kernel_rfl) (by kernel_rfl) (by kernel_rfl) (by kernel_rfl) (fun _ _ _ h => h) (Or.inl ⟨by rfl, ?_⟩) hS ?_
        rotate_left 1
        · (intro w' hw'; (first | rw [hw'] | (have hw2 := HSF.out w' hw') | skip); go_simp; (try with_reducible rfl))
        simp only [Act.put, List.setIfInBounds_toArray, List.set_cons_zero, List.set_cons_succ]
        refine wpAnyX_S (i := 1) (v := ?_) rfl (by kernel_rfl) (by kernel_rfl) (by kernel_rfl) (by kernel_rfl) (fun _ _ _ h => h) (Or.inl ⟨by rfl, ?_⟩) hS ?_
        rotate_left 1
        · (intro w' hw'; (first | rw [hw'] | (have hw2 := HSF.out w' hw') | skip); go_simp; (try with_reducible rfl))
        simp only [Act.put, List.setIfInBounds_toArray, List.set_cons_zero, List.set_cons_succ]
        refine wpAnyX_S (i := 2) (v := ?_) rfl (by kernel_rfl) (by kernel_rfl) (by kernel_rfl) (by kernel_rfl) (fun _ _ _ h => h) (Or.inl ⟨by rfl, ?_⟩) hS ?_
        rotate_left 1
        · (intro w' hw'; (first | rw [hw'] | (have hw2 := HSF.out w' hw') | skip); go_simp; (try with_reducible rfl))
        simp only [Act.put, List.setIfInBounds_toArray, List.set_cons_zero, List.set_cons_succ]
        refine wpAnyX_S (i := 3) (v := ?_) rfl (by kernel_rfl) (by kernel_rfl) (by kernel_rfl) (by kernel_rfl) (fun _ _ _ h => h) (Or.inl ⟨by rfl, ?_⟩) hS ?_
        rotate_left 1
        · (intro w' hw'; (first | rw [hw'] | (have hw2 := HSF.out w' hw') | skip); go_simp; (try with_reducible rfl))
        simp only [Act.put, List.setIfInBounds_toArray, List.set_cons_zero, List.set_cons_succ]
        refine wpAnyX_S (i := 4) (v := ?_) rfl (by kernel_rfl) (by kernel_rfl) (by kernel_rfl) (by kernel_rfl) (fun _ _ _ h => h) (Or.inl ⟨by rfl, ?_⟩) hS ?_
        rotate_left 1
        · (intro w' hw'; (first | rw [hw'] | (have hw2 := HSF.out w' hw') | skip); go_simp; (try with_reducible rfl))
        simp only [Act.put, List.setIfInBounds_toArray, List.set_cons_zero, List.set_cons_succ]
        refine wpAnyX_S (i := 5) (v := ?_) rfl (by kernel_rfl) (by kernel_rfl) (by kernel_rfl) (by kernel_rfl) (fun _ _ _ h => h) (Or.inl ⟨by rfl, ?_⟩) hS ?_
        rotate_left 1
        · (intro w' hw'; (first | rw [hw'] | (have hw2 := HSF.out w' hw') | skip); go_simp; (try with_reducible rfl))
        simp only [Act.put, List.setIfInBounds_toArray, List.set_cons_zero, List.set_cons_succ]
        refine wpAnyX_S (i := 6) (v := ?_) rfl (by kernel_rfl) (by kernel_rfl) (by kernel_rfl) (by kernel_rfl) (fun _ _ _ h => h) (Or.inl ⟨by rfl, ?_⟩) hS ?_
        rotate_left 1
        · (intro w' hw'; (first | rw [hw'] | (have hw2 := HSF.out w' hw') | skip); go_simp; (try with_reducible rfl))
        simp only [Act.put, List.setIfInBounds_toArray, List.set_cons_zero, List.set_cons_succ]
        refine wpAnyX_S (i := 7) (v := ?_) rfl (by kernel_rfl) (by kernel_rfl) (by kernel_rfl) (by kernel_rfl) (fun _ _ _ h => h) (Or.inl ⟨by rfl, ?_⟩) hS ?_
        rotate_left 1
        · (intro w' hw'; (first | rw [hw'] | (have hw2 := HSF.out w' hw') | skip); go_simp; (try with_reducible rfl))
        simp only [Act.put, List.setIfInBounds_toArray, List.set_cons_zero, List.set_cons_succ]
        refine wpAnyX_S (i := 8) (v := ?_) rfl (by kernel_rfl) (by kernel_rfl) (by kernel_rfl) (by kernel_rfl) (fun _ _ _ h => h) (Or.inl ⟨by rfl, ?_⟩) hS ?_
        rotate_left 1
        · (intro w' hw'; (first | rw [hw'] | (have hw2 := HSF.out w' hw') | skip); go_simp; (try with_reducible rfl))
        simp only [Act.put, List.setIfInBounds_toArray, List.set_cons_zero, List.set_cons_succ]
        refine wpAnyX_S (i := 9) (v := ?_) rfl (by kernel_rfl) (by kernel_rfl) (by kernel_rfl) (by kernel_rfl) (fun _ _ _ h => h) (Or.inl ⟨by rfl, ?_⟩) hS ?_
        rotate_left 1
        · (intro w' hw'; (first | rw [hw'] | (have hw2 := HSF.out w' hw') | skip); go_simp; (try with_reducible rfl))
        simp only [Act.put, List.setIfInBounds_toArray, List.set_cons_zero, List.set_cons_succ]
        refine wpAnyX_S (i := 10) (v := ?_) rfl (by kernel_rfl) (by kernel_rfl) (by kernel_rfl) (by kernel_rfl) (fun _ _ _ h => h) (Or.inl ⟨by rfl, ?_⟩) hS ?_
        rotate_left 1
        · (intro w' hw'; (first | rw [hw'] | (have hw2 := HSF.out w' hw') | skip); go_simp; (try with_reducible rfl))
        simp only [Act.put, List.setIfInBounds_toArray, List.set_cons_zero, List.set_cons_succ]
        refine wpAnyX_S (i := 11) (v := .string t) rfl (by kernel_rfl) (by kernel_rfl) (by kernel_rfl) (by kernel_rfl) (fun _ _ _ h => h) (.inl ⟨by rfl, fun w' _ => by go_simp⟩) hS ?_
        simp only [Act.put, List.setIfInBounds_toArray, List.set_cons_zero, List.set_cons_succ]
        refine wpAnyX_oneL (k := 12) rfl (by kernel_rfl) rfl ?_
        refine wp_of_run (v := .slice (some ⟨wd.heap.size, 0, none⟩) 1 1) (w' := wd.alloc (.cells #[.string t] 9)) (by go_simp) ⟨fun _ => (Below.refl _ _).alloc (Nat.le_refl _) _, ?_⟩
        simp only [Act.put, List.setIfInBounds_toArray, List.set_cons_zero, List.set_cons_succ]
        refine wpAnyX_tailF [13, 14] (by kernel_rfl) (by rfl) (by rfl) (by rfl) ?_
        simp only [List.filterMap_cons, List.filterMap_nil, List.getElem?_cons_succ, List.getElem?_cons_zero]
        refine wpList_append_anyG _ rfl (.tmp 15) (.tmp 27) 31 rfl w.heap.size 9 i0 (.string ByteArray.empty) 1 16 Tryd.underlying31 hi0 hz0 hz1 hz2 rfl (by decide) (.slice A3 i c3) i (strV q) rfl (hown1.alloc _) (wd.heap.size + 1) (some ⟨wd.heap.size, 0, none⟩) 1 1 [.string t] rfl (reads_new1 _ _ _ (Nat.lt_succ_self _)) (by intro u hu; simp at hu; subst hu; rfl) (by unfold maxLen; omega) (by omega) (by have := hB1.size; simp; omega) ?_
        intro v1 w1 hown2 hg1 hb1
        have hE2 := (below_al hB1 (.cells #[.string t] 9)).grown hg1 (by have := hB1.size; simp; omega) (fun q hq => ownGe hown1 hq)
        have HQ2 := Sl.mk (few_step HQ.out ht40)
        have HO := Sl.mk (show w1.ownsRow w.heap.size 9 1 v1 (i + 1) (strV (q ++ [t])) by rw [strV_app]; exact hown2)
        obtain ⟨A5, c5, rfl⟩ := ownForm hown2
        clear hown1 hB1 hown2 hg1 hb1 HSF
        go_wp2_with fail
        refine NoPanic.normal ?_
        go_wp2_with fail
        go_roundw
        case rel => exact ⟨i + 1, q ++ [t], by omega, by omega, by go_num, HO.out, HQ2, hE2⟩
        case measure => simp [intOf]; omega
      · obtain rfl : i = 12 := by omega
        have h1 : decide ((12 : Int) < (n : Int)) = true := by simp; omega
        go_wp2_with fail
        go_ret
        exact ⟨A3, 12, c3, q, rfl, hown, by omega, HQ.out, hB⟩
    · obtain rfl : i = n := by omega
      go_wp2_with fail
      go_ret
      exact ⟨A3, i, c3, q, rfl, hown, hi12, HQ.out, hB⟩

end Go.Proofs.YticcphppnmoogaaDoor
