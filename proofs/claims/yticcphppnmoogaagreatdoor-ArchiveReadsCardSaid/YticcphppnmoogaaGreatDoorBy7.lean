/-
  The contracts of lead and place.
  The contracts of checks, refused.
  The contract of archive.Check.
-/
import Derived.Test.YticcphppnmoogaaGreatDoorBy6

namespace Go.Proofs.YticcphppnmoogaaGreatDoor
open Go.RowKit
attribute [local go_sem ↓] Go.wp_at_zero Go.wp_at_succ

theorem strV_drop (p : List ByteArray) : strV p.dropLast = (strV p).take (p.length - 1) := by
  rw [List.dropLast_eq_take]; simp [strV, List.map_take]
theorem reads_drop {w : World} {B n : Nat} {A : Option Addr} {p : List ByteArray} (h : Reads w B 1 A (n + 1) (strV p)) : Reads w B 1 A n (strV p.dropLast) := by
  have hl := strs_n h
  rw [strV_drop, hl, Nat.add_sub_cancel]
  exact reads_take h (by omega)
theorem hasp_any (s : ByteArray) (w : World) : Calls Tryz.prog 81 #[.string s, .string ⟨#[47]⟩] w fun e w' => e = .returned (.bool (isAbs s)) ∧ w' = w := strings_HasPrefix s ⟨#[47]⟩ w

set_option maxHeartbeats 2000000 in
theorem link_any (x : Ex) (A : Option Addr) (n c : Nat) (w : World) (hx : ExOk w w.heap.size x) (hp1 : x.e.path ≠ []) (hM : Mx w) :
    Calls Tryz.prog 65 #[.agg (askC x A n c).toArray] w fun e w' => e = .returned (.int .i64 (linkE x.e)) ∧ Below w.heap.size w w' := by
  obtain ⟨⟨p, k, m, d⟩, pa, pc, da, dc⟩ := x
  have hp : Reads w w.heap.size 1 pa p.length (strV p) := hx.path
  have hd : Reads w w.heap.size 1 da d.length (u8s d) := hx.data
  have hpl : p.length ≤ 100 := hx.plen
  have hpc : p.length ≤ pc ∧ pc ≤ 9223372036854775807 := hx.pcap
  have hps : ∀ s ∈ p, s.size ≤ 1000 := hx.slen
  have hdl : d.length ≤ 100000 := hx.dlen
  have hby : ∀ b ∈ d, b < 256 := hx.byte
  have hpos : 0 < p.length := List.length_pos_iff.2 hp1
  have hss := strN_size d
  clear hx hp1
  show Calls Tryz.prog 65 #[.agg #[.slice pa p.length pc, .int .i64 k, .int .i64 m, .slice da d.length dc, .slice A n c]] w fun e w' => e = .returned (.int .i64 (linkE ⟨p, k, m, d⟩)) ∧ Below w.heap.size w w'
  obtain ⟨dl, hdle⟩ : ∃ dl, d.length = dl := ⟨_, rfl⟩
  obtain ⟨pl, hple⟩ : ∃ pl, p.length = pl := ⟨_, rfl⟩
  rw [hple] at hp hpl hpc hpos ⊢
  rw [hdle] at hd hdl hss ⊢
  obtain ⟨q, rfl⟩ : ∃ q, pl = q + 1 := ⟨pl - 1, by omega⟩
  have hE := below_al (Below.refl w.heap.size w) (.cells #[.slice pa (q + 1) pc, .int .i64 k, .int .i64 m, .slice da dl dc, .slice A n c] 102)
  by_cases hk : k = 2
  · subst hk
    obtain ⟨S, hS⟩ : ∃ S, strN d = S := ⟨_, rfl⟩
    rw [hS] at hss
    obtain ⟨wB, hwB⟩ : ∃ wB, w.alloc (.cells #[.slice pa (q + 1) pc, .int .i64 2, .int .i64 m, .slice da dl dc, .slice A n c] 102) = wB := ⟨_, rfl⟩
    have hX : Blk wB w.heap.size 102 #[.slice pa (q + 1) pc, .int .i64 2, .int .i64 m, .slice da dl dc, .slice A n c] := by rw [← hwB]; exact Blk.new _ _ _
    rw [hwB] at hE
    have hcv : (convert 22 9 (.slice da dl dc)).run Tryz.prog wB = .ok (.string S) wB := by
      have := conv_str (c := dc) ((hd.below hE).more hE.size) hby
      rw [hS] at this
      exact this
    have HLD := Sl.mk (lead_any pa q pc p.dropLast S wB (by omega) (fun x hx => by have := hps x ((List.dropLast_sublist p).subset hx); omega) (by omega) (reads_drop ((hp.below hE).more hE.size)) (hM.be hE))
    have HF := Sl.mk (show linkE ⟨p, 2, m, d⟩ = if leadE p.dropLast S = 0 ∧ isAbs S = false then 0 else 10 by unfold linkE; rw [if_pos rfl]; show (if leadE p.dropLast (strN d) = 0 ∧ isAbs (strN d) = false then (0 : Int) else 10) = _; rw [hS])
    have c0 := hX.cell 0
    have c1 := hX.cell 1
    have c3 := hX.cell 3
    clear hp hd hps hby hM hS hss hple hdle
    unfold LeadPost at HLD
    by_cases hz : leadE p.dropLast S = 0
    · rw [hz] at HLD
      have HZ := Sl.mk hz
      clear hz
      cases eA : isAbs S
      all_goals
        go_enter Tryz.func65, Tryz.ntmps65
        go_wp2_with fail
        refine HLD.out.mono ?_
        rintro e w1 ⟨A', kk, c', rfl, hB1, -, -⟩
        go_wp2_with fail
        refine (hasp_any S _).mono ?_
        rintro e w2 ⟨rfl, rfl⟩
        rw [eA]
        go_wp2_with fail
        go_ret
        exact ⟨by rw [HF.out, HZ.out, eA]; rfl, below_tr hE hB1⟩
    · have HZ := Sl.mk hz
      obtain ⟨E, hEE⟩ : ∃ E, leadE p.dropLast S = E := ⟨_, rfl⟩
      rw [hEE] at HLD hz
      have hzz : (E != 0) = true := by simpa using hz
      clear hz hEE
      go_enter Tryz.func65, Tryz.ntmps65
      go_wp2_with fail
      refine HLD.out.mono ?_
      rintro e w1 ⟨A', kk, c', rfl, hB1, -, -⟩
      go_wp2_with fail
      go_ret
      exact ⟨by rw [HF.out, if_neg (fun h => HZ.out h.1)]; rfl, below_tr hE hB1⟩
  · have HF := Sl.mk (show linkE ⟨p, k, m, d⟩ = 0 from if_neg hk)
    have hk' : (k != 2) = true := by simpa using hk
    clear hk
    go_enter Tryz.func65, Tryz.ntmps65
    go_wp2_with fail
    go_ret
    exact ⟨by rw [HF.out]; rfl, hE⟩

def parK (q : List ByteArray) (l : List Ex) : Bool := match l[idxE q l]? with
  | some y => y.e.kind == 1
  | none => false
def placeE (p : List ByteArray) (l : List Ex) : Int := if idxE p l < l.length then 8 else if 0 < p.dropLast.length ∧ parK p.dropLast l = false then 7 else 0

set_option maxRecDepth 100000 in
set_option maxHeartbeats 4000000 in
theorem place_any (x : Ex) (A : Option Addr) (n c : Nat) (l : List Ex) (w : World) (hx : ExOk w w.heap.size x) (hp1 : x.e.path ≠ []) (hn : n ≤ 1000000) (hL : Exs w A n l) :
    Calls Tryz.prog 66 #[.agg (askC x A n c).toArray] w fun e w' => e = .returned (.int .i64 (placeE x.e.path l)) ∧ Below w.heap.size w w' := by
  obtain ⟨⟨p, k, m, d⟩, pa, pc, da, dc⟩ := x
  have hp : Reads w w.heap.size 1 pa p.length (strV p) := hx.path
  have hpl : p.length ≤ 100 := hx.plen
  have hpc : p.length ≤ pc ∧ pc ≤ 9223372036854775807 := hx.pcap
  have hpos : 0 < p.length := List.length_pos_iff.2 hp1
  clear hx hp1
  show Calls Tryz.prog 66 #[.agg #[.slice pa p.length pc, .int .i64 k, .int .i64 m, .slice da d.length dc, .slice A n c]] w fun e w' => e = .returned (.int .i64 (placeE p l)) ∧ Below w.heap.size w w'
  obtain ⟨dl, hdle⟩ : ∃ dl, d.length = dl := ⟨_, rfl⟩
  obtain ⟨pl, hple⟩ : ∃ pl, p.length = pl := ⟨_, rfl⟩
  rw [hple] at hp hpl hpc hpos ⊢
  rw [hdle]
  obtain ⟨q, rfl⟩ : ∃ q, pl = q + 1 := ⟨pl - 1, by omega⟩
  have HDL := Sl.mk (show p.dropLast.length = q by rw [List.length_dropLast, hple]; omega)
  have hE := below_al (Below.refl w.heap.size w) (.cells #[.slice pa (q + 1) pc, .int .i64 k, .int .i64 m, .slice da dl dc, .slice A n c] 102)
  obtain ⟨wB, hwB⟩ : ∃ wB, w.alloc (.cells #[.slice pa (q + 1) pc, .int .i64 k, .int .i64 m, .slice da dl dc, .slice A n c] 102) = wB := ⟨_, rfl⟩
  have hX : Blk wB w.heap.size 102 #[.slice pa (q + 1) pc, .int .i64 k, .int .i64 m, .slice da dl dc, .slice A n c] := by rw [← hwB]; exact Blk.new _ _ _
  rw [hwB] at hE
  have HLB := hL.be hE
  have HPB := (hp.below hE).more hE.size
  have HF1 := Sl.mk (find_any pa (q + 1) pc p A n c l wB hn HLB (by omega) HPB)
  have HF2 := Sl.mk (show ∀ W, Below wB.heap.size wB W → Calls Tryz.prog 82 #[.slice A n c, .slice pa q pc] W (FindPost W p.dropLast l) from fun W hb =>
    find_any pa q pc p.dropLast A n c l W hn (HLB.be hb) (by omega) ((reads_drop HPB |>.below hb).more hb.size))
  have c0 := hX.cell 0
  have c4 := hX.cell 4
  clear hp hL hple hdle HLB HPB
  unfold FindPost at HF1 HF2
  go_enter Tryz.func66, Tryz.ntmps66
  go_wp2_with fail
  clear hwB
  refine HF1.out.mono ?_
  rintro e w1 ⟨hB1, (⟨y, y', hy, hye, ho, he⟩ | ⟨hno, rfl⟩)⟩
  · obtain ⟨⟨p', k', m', d'⟩, pa', pc', da', dc'⟩ := y'
    obtain rfl : e = .returned (.tuple #[.agg #[.slice pa' p'.length pc', .int .i64 k', .int .i64 m', .slice da' d'.length dc'], .int .i64 0]) := he
    have HF := Sl.mk (show placeE p l = 8 by unfold placeE; rw [if_pos (List.getElem?_eq_some_iff.1 hy).1])
    have hE1 := below_tr hE hB1
    clear hy hye ho hB1 hE c0 c4
    go_wp2_with fail
    go_ret
    exact ⟨by rw [HF.out]; rfl, below_al hE1 _⟩
  · have HN := Sl.mk (show placeE p l = if 0 < p.dropLast.length ∧ parK p.dropLast l = false then 7 else 0 by unfold placeE; rw [if_neg (by omega)])
    have hX1 := hX.be hB1
    have hX2 := hX1.alloc (.cells #[.slice none 0 0, .int .i64 0, .int .i64 0, .slice none 0 0] 40)
    have hE1 := below_tr hE hB1
    have hEw := below_al (below_tr (Below.refl wB.heap.size wB) hB1) (.cells #[.slice none 0 0, .int .i64 0, .int .i64 0, .slice none 0 0] 40)
    have hE2 := below_al hE1 (.cells #[.slice none 0 0, .int .i64 0, .int .i64 0, .slice none 0 0] 40)
    clear c0 c4 hno hE hB1
    have c0 := hX1.cell 0
    have c4 := hX1.cell 4
    have d0 := hX2.cell 0
    have d4 := hX2.cell 4
    have hlt := hX1.lt
    go_wp2_with fail
    refine (HF2.out _ hEw).mono ?_
    have hq0 : decide ((0 : Int) < (q : Int)) = decide (0 < q) := by rw [decide_eq_decide]; omega
    rintro e w2 ⟨hB2, (⟨y, y', hy, hye, ho, he⟩ | ⟨hno, rfl⟩)⟩
    · obtain ⟨⟨p', k', m', d'⟩, pa', pc', da', dc'⟩ := y'
      obtain rfl : e = .returned (.tuple #[.agg #[.slice pa' p'.length pc', .int .i64 k', .int .i64 m', .slice da' d'.length dc'], .int .i64 0]) := he
      have hk : y.e.kind = k' := by rw [← hye]
      have HK := Sl.mk (show parK p.dropLast l = (k' == 1) by unfold parK; rw [hy, ← hk])
      have hE3 := below_tr hE2 hB2
      clear hy hye ho hk hE1 hE2 hEw hB2 c0 c4 d0 d4 hX1 hX2 hlt
      by_cases h0 : 0 < q
      · have h0' : (0 : Int) < (q : Int) := by omega
        have hq : decide (0 < q) = true := decide_eq_true h0
        by_cases h1 : k' = 1
        · subst h1
          clear hq0
          go_wp2_with fail
          go_ret
          exact ⟨by rw [HN.out, HK.out, if_neg (by simp)]; rfl, below_al hE3 _⟩
        · have h1' : (k' != 1) = true := by simpa using h1
          have HK2 := Sl.mk (show parK p.dropLast l = false by rw [HK.out]; simpa using h1)
          clear h1 hq0
          go_wp2_with fail
          go_ret
          exact ⟨by rw [HN.out, if_pos ⟨by rw [HDL.out]; exact h0, HK2.out⟩]; rfl, below_al hE3 _⟩
      · obtain rfl : q = 0 := by omega
        clear hq0
        go_wp2_with fail
        go_ret
        exact ⟨by rw [HN.out, if_neg (fun h => by rw [HDL.out] at h; exact absurd h.1 (by omega))]; rfl, below_al hE3 _⟩
    · have HK := Sl.mk (show parK p.dropLast l = false by unfold parK; rw [List.getElem?_eq_none (by omega)])
      have hE3 := below_tr hE2 hB2
      clear hno hE1 hE2 hEw hB2 c0 c4 d0 d4 hX1 hX2 hlt
      by_cases h0 : 0 < q
      · have h0' : (0 : Int) < (q : Int) := by omega
        clear hq0
        go_wp2_with fail
        go_ret
        exact ⟨by rw [HN.out, if_pos ⟨by rw [HDL.out]; exact h0, HK.out⟩]; rfl, below_al hE3 _⟩
      · obtain rfl : q = 0 := by omega
        clear hq0
        go_wp2_with fail
        go_ret
        exact ⟨by rw [HN.out, if_neg (fun h => by rw [HDL.out] at h; exact absurd h.1 (by omega))]; rfl, below_al hE3 _⟩

end Go.Proofs.YticcphppnmoogaaGreatDoor

namespace Go.Proofs.YticcphppnmoogaaGreatDoor
open Go.RowKit
attribute [local go_sem ↓] Go.wp_at_zero Go.wp_at_succ

/-- What the i-th check says. -/
def chkE (e : En) (l : List Ex) : Nat → Int
  | 0 => pathsE e.path
  | 1 => kindE e.kind
  | 2 => modesE e.kind e.mode
  | 3 => sizeE e.kind e.data.length
  | 4 => linkE e
  | _ => placeE e.path l
def refusedE (e : En) (l : List Ex) : Int :=
  if chkE e l 0 ≠ 0 then chkE e l 0 else if chkE e l 1 ≠ 0 then chkE e l 1 else if chkE e l 2 ≠ 0 then chkE e l 2 else if chkE e l 3 ≠ 0 then chkE e l 3 else if chkE e l 4 ≠ 0 then chkE e l 4 else chkE e l 5
theorem chk_step {e : En} {l : List Ex} {i : Nat} (h : ∀ j, j < i → chkE e l j = 0) (hz : chkE e l i = 0) : ∀ j, j < i + 1 → chkE e l j = 0 := fun j hj => by
  rcases Nat.lt_or_ge j i with h1 | h1
  · exact h j h1
  · obtain rfl : j = i := by omega
    exact hz
theorem ref_bad {e : En} {l : List Ex} {i : Nat} (h : ∀ j, j < i → chkE e l j = 0) (hz : ¬ chkE e l i = 0) (hi : i < 6) : refusedE e l = chkE e l i := by
  unfold refusedE
  match i, hi with
  | 0, _ => rw [if_pos hz]
  | 1, _ => rw [if_neg (by simp [h 0 (by omega)]), if_pos hz]
  | 2, _ => rw [if_neg (by simp [h 0 (by omega)]), if_neg (by simp [h 1 (by omega)]), if_pos hz]
  | 3, _ => rw [if_neg (by simp [h 0 (by omega)]), if_neg (by simp [h 1 (by omega)]), if_neg (by simp [h 2 (by omega)]), if_pos hz]
  | 4, _ => rw [if_neg (by simp [h 0 (by omega)]), if_neg (by simp [h 1 (by omega)]), if_neg (by simp [h 2 (by omega)]), if_neg (by simp [h 3 (by omega)]), if_pos hz]
  | 5, _ => rw [if_neg (by simp [h 0 (by omega)]), if_neg (by simp [h 1 (by omega)]), if_neg (by simp [h 2 (by omega)]), if_neg (by simp [h 3 (by omega)]), if_neg (by simp [h 4 (by omega)])]
theorem ref_good {e : En} {l : List Ex} (h : ∀ j, j < 6 → chkE e l j = 0) : refusedE e l = 0 := by
  unfold refusedE
  rw [if_neg (by simp [h 0 (by omega)]), if_neg (by simp [h 1 (by omega)]), if_neg (by simp [h 2 (by omega)]), if_neg (by simp [h 3 (by omega)]), if_neg (by simp [h 4 (by omega)])]
  exact h 5 (by omega)
theorem paths_ne {p : List ByteArray} (h : pathsE p = 0) : p ≠ [] := fun e => by
  subst e
  unfold pathsE at h
  split at h
  · cases h
  · rw [if_pos rfl] at h; cases h

abbrev chkV : Array Value := #[.func (.func 61) #[] #[], .func (.func 62) #[] #[], .func (.func 63) #[] #[], .func (.func 64) #[] #[], .func (.func 65) #[] #[], .func (.func 66) #[] #[]]
theorem checks_any (w : World) : Calls Tryz.prog 49 #[] w fun e w' => e = .returned (.slice (some ⟨w.heap.size, 0, none⟩) 6 6) ∧ w' = w.alloc (.cells chkV 100) := by
  go_enter Tryz.func49, Tryz.ntmps49
  go_wp2_with fail
  go_ret
  exact ⟨rfl, rfl⟩

set_option maxRecDepth 100000 in
set_option maxHeartbeats 8000000 in
theorem refused_any (x : Ex) (A : Option Addr) (n c : Nat) (l : List Ex) (w : World) (hx : ExOk w w.heap.size x) (hn : n ≤ 1000000) (hL : Exs w A n l) (hM : Mx w) :
    Calls Tryz.prog 33 #[.agg (exC x).toArray, .slice A n c] w fun e w' => e = .returned (.int .i64 (refusedE x.e l)) ∧ Below w.heap.size w w' := by
  obtain ⟨⟨p, k, m, d⟩, pa, pc, da, dc⟩ := x
  have HX := Sl.mk hx
  have HL := Sl.mk hL
  have HM := Sl.mk hM
  have HPN := Sl.mk (fun h : chkE ⟨p, k, m, d⟩ l 0 = 0 => paths_ne (p := p) h)
  clear hx hL hM
  show Calls Tryz.prog 33 #[.agg #[.slice pa p.length pc, .int .i64 k, .int .i64 m, .slice da d.length dc], .slice A n c] w fun e w' => e = .returned (.int .i64 (refusedE ⟨p, k, m, d⟩ l)) ∧ Below w.heap.size w w'
  obtain ⟨wB, hwB⟩ : ∃ wB, w.alloc (.cells #[.slice pa p.length pc, .int .i64 k, .int .i64 m, .slice da d.length dc] 40) = wB := ⟨_, rfl⟩
  have hX0 : Blk wB w.heap.size 40 #[.slice pa p.length pc, .int .i64 k, .int .i64 m, .slice da d.length dc] := by rw [← hwB]; exact Blk.new _ _ _
  have hE0 : Below w.heap.size w wB := by rw [← hwB]; exact below_al (Below.refl _ _) _
  have hs0 : wB.heap.size = w.heap.size + 1 := by rw [← hwB]; simp
  go_enter Tryz.func33, Tryz.ntmps33
  go_wp2_with fail
  clear hwB
  refine (checks_any _).mono ?_
  rintro e w1 ⟨rfl, hw1⟩
  have hG1 : Blk w1 (w.heap.size + 1) 100 chkV := by rw [hw1, ← hs0]; exact Blk.new _ _ _
  have hX1 : Blk w1 w.heap.size 40 #[.slice pa p.length pc, .int .i64 k, .int .i64 m, .slice da d.length dc] := by rw [hw1]; exact hX0.alloc _
  have hE1 : Below w.heap.size w w1 := by rw [hw1]; exact below_al hE0 _
  rw [hs0]
  clear hw1 hX0 hE0 hs0
  go_wp2_with fail
  go_loopw [6, 7, 10] (fun _ _ v10 wr => ∃ i : Nat, i ≤ 6 ∧ v10 = .int .i64 i ∧ Sl (∀ j, j < i → chkE ⟨p, k, m, d⟩ l j = 0) ∧ Blk wr (w.heap.size + 1) 100 chkV ∧ Blk wr w.heap.size 40 #[.slice pa p.length pc, .int .i64 k, .int .i64 m, .slice da d.length dc] ∧ Below w.heap.size w wr) (fun _ _ v10 _ => 6 - (intOf v10).toNat)
  case atStart => exact ⟨0, by omega, rfl, ⟨fun j hj => absurd hj (by omega)⟩, hG1, hX1, hE1⟩
  case round =>
    clear hG1 hX1 hE1
    obtain ⟨i, hi, rfl, HZ, hG, hX, hB⟩ := hrel
    have x0 := hX.cell 0
    have x1 := hX.cell 1
    have x2 := hX.cell 2
    have x3 := hX.cell 3
    obtain rfl | rfl | rfl | rfl | rfl | rfl | rfl : i = 0 ∨ i = 1 ∨ i = 2 ∨ i = 3 ∨ i = 4 ∨ i = 5 ∨ i = 6 := by omega
    · have HC := Sl.mk (paths_any ⟨⟨p, k, m, d⟩, pa, pc, da, dc⟩ A n c wr (HX.out.be hB))
      have c0 := hG.cell 0
      have hne0 : chkE ⟨p, k, m, d⟩ l 0 = chkE ⟨p, k, m, d⟩ l 0 := rfl
      by_cases hz : chkE ⟨p, k, m, d⟩ l 0 = 0
      · have HC2 : Sl (Calls Tryz.prog 61 #[.agg #[.slice pa p.length pc, .int .i64 k, .int .i64 m, .slice da d.length dc, .slice A n c]] wr fun e w' => e = .returned (.int .i64 0) ∧ Below wr.heap.size wr w') := Sl.mk (by rw [← hz]; exact HC.out)
        have HZ2 := Sl.mk (chk_step HZ.out hz)
        clear hz HC hne0 HZ
        go_wp2_with fail
        refine HC2.out.mono ?_
        rintro e w2 ⟨rfl, hB2⟩
        have hG2 := hG.be hB2
        have hX2 := hX.be hB2
        have hE2 := below_tr hB hB2
        clear hG hX hB hB2 c0 x0 x1 x2 x3
        go_wp2_with fail
        go_roundw
        case rel => exact ⟨1, by omega, by go_num, HZ2, hG2, hX2, hE2⟩
        case measure => simp [intOf]
      · have HR := Sl.mk (ref_bad HZ.out hz (by omega))
        obtain ⟨E, hEE⟩ : ∃ E, chkE ⟨p, k, m, d⟩ l 0 = E := ⟨_, rfl⟩
        have HC2 : Sl (Calls Tryz.prog 61 #[.agg #[.slice pa p.length pc, .int .i64 k, .int .i64 m, .slice da d.length dc, .slice A n c]] wr fun e w' => e = .returned (.int .i64 E) ∧ Below wr.heap.size wr w') := Sl.mk (by rw [← hEE]; exact HC.out)
        rw [hEE] at HR hz
        have hE1 : (E != 0) = true := by simpa using hz
        clear hz hEE HC hne0 HZ
        go_wp2_with fail
        refine HC2.out.mono ?_
        rintro e w2 ⟨rfl, hB2⟩
        have hE2 := below_tr hB hB2
        clear hG hX hB hB2 c0 x0 x1 x2 x3
        go_wp2_with fail
        go_ret
        exact ⟨by rw [HR.out]; rfl, hE2⟩
    · have HC := Sl.mk (kind_any ⟨⟨p, k, m, d⟩, pa, pc, da, dc⟩ A n c wr)
      have c1 := hG.cell 1
      have hne1 : chkE ⟨p, k, m, d⟩ l 1 = chkE ⟨p, k, m, d⟩ l 1 := rfl
      by_cases hz : chkE ⟨p, k, m, d⟩ l 1 = 0
      · have HC2 : Sl (Calls Tryz.prog 62 #[.agg #[.slice pa p.length pc, .int .i64 k, .int .i64 m, .slice da d.length dc, .slice A n c]] wr fun e w' => e = .returned (.int .i64 0) ∧ Below wr.heap.size wr w') := Sl.mk (by rw [← hz]; exact HC.out)
        have HZ2 := Sl.mk (chk_step HZ.out hz)
        clear hz HC hne1 HZ
        go_wp2_with fail
        refine HC2.out.mono ?_
        rintro e w2 ⟨rfl, hB2⟩
        have hG2 := hG.be hB2
        have hX2 := hX.be hB2
        have hE2 := below_tr hB hB2
        clear hG hX hB hB2 c1 x0 x1 x2 x3
        go_wp2_with fail
        go_roundw
        case rel => exact ⟨2, by omega, by go_num, HZ2, hG2, hX2, hE2⟩
        case measure => simp [intOf]
      · have HR := Sl.mk (ref_bad HZ.out hz (by omega))
        obtain ⟨E, hEE⟩ : ∃ E, chkE ⟨p, k, m, d⟩ l 1 = E := ⟨_, rfl⟩
        have HC2 : Sl (Calls Tryz.prog 62 #[.agg #[.slice pa p.length pc, .int .i64 k, .int .i64 m, .slice da d.length dc, .slice A n c]] wr fun e w' => e = .returned (.int .i64 E) ∧ Below wr.heap.size wr w') := Sl.mk (by rw [← hEE]; exact HC.out)
        rw [hEE] at HR hz
        have hE1 : (E != 0) = true := by simpa using hz
        clear hz hEE HC hne1 HZ
        go_wp2_with fail
        refine HC2.out.mono ?_
        rintro e w2 ⟨rfl, hB2⟩
        have hE2 := below_tr hB hB2
        clear hG hX hB hB2 c1 x0 x1 x2 x3
        go_wp2_with fail
        go_ret
        exact ⟨by rw [HR.out]; rfl, hE2⟩
    · have HC := Sl.mk (modes_any ⟨⟨p, k, m, d⟩, pa, pc, da, dc⟩ A n c wr)
      have c2 := hG.cell 2
      have hne2 : chkE ⟨p, k, m, d⟩ l 2 = chkE ⟨p, k, m, d⟩ l 2 := rfl
      by_cases hz : chkE ⟨p, k, m, d⟩ l 2 = 0
      · have HC2 : Sl (Calls Tryz.prog 63 #[.agg #[.slice pa p.length pc, .int .i64 k, .int .i64 m, .slice da d.length dc, .slice A n c]] wr fun e w' => e = .returned (.int .i64 0) ∧ Below wr.heap.size wr w') := Sl.mk (by rw [← hz]; exact HC.out)
        have HZ2 := Sl.mk (chk_step HZ.out hz)
        clear hz HC hne2 HZ
        go_wp2_with fail
        refine HC2.out.mono ?_
        rintro e w2 ⟨rfl, hB2⟩
        have hG2 := hG.be hB2
        have hX2 := hX.be hB2
        have hE2 := below_tr hB hB2
        clear hG hX hB hB2 c2 x0 x1 x2 x3
        go_wp2_with fail
        go_roundw
        case rel => exact ⟨3, by omega, by go_num, HZ2, hG2, hX2, hE2⟩
        case measure => simp [intOf]
      · have HR := Sl.mk (ref_bad HZ.out hz (by omega))
        obtain ⟨E, hEE⟩ : ∃ E, chkE ⟨p, k, m, d⟩ l 2 = E := ⟨_, rfl⟩
        have HC2 : Sl (Calls Tryz.prog 63 #[.agg #[.slice pa p.length pc, .int .i64 k, .int .i64 m, .slice da d.length dc, .slice A n c]] wr fun e w' => e = .returned (.int .i64 E) ∧ Below wr.heap.size wr w') := Sl.mk (by rw [← hEE]; exact HC.out)
        rw [hEE] at HR hz
        have hE1 : (E != 0) = true := by simpa using hz
        clear hz hEE HC hne2 HZ
        go_wp2_with fail
        refine HC2.out.mono ?_
        rintro e w2 ⟨rfl, hB2⟩
        have hE2 := below_tr hB hB2
        clear hG hX hB hB2 c2 x0 x1 x2 x3
        go_wp2_with fail
        go_ret
        exact ⟨by rw [HR.out]; rfl, hE2⟩
    · have HC := Sl.mk (size_any ⟨⟨p, k, m, d⟩, pa, pc, da, dc⟩ A n c wr HX.out.dlen)
      have c3 := hG.cell 3
      have hne3 : chkE ⟨p, k, m, d⟩ l 3 = chkE ⟨p, k, m, d⟩ l 3 := rfl
      by_cases hz : chkE ⟨p, k, m, d⟩ l 3 = 0
      · have HC2 : Sl (Calls Tryz.prog 64 #[.agg #[.slice pa p.length pc, .int .i64 k, .int .i64 m, .slice da d.length dc, .slice A n c]] wr fun e w' => e = .returned (.int .i64 0) ∧ Below wr.heap.size wr w') := Sl.mk (by rw [← hz]; exact HC.out)
        have HZ2 := Sl.mk (chk_step HZ.out hz)
        clear hz HC hne3 HZ
        go_wp2_with fail
        refine HC2.out.mono ?_
        rintro e w2 ⟨rfl, hB2⟩
        have hG2 := hG.be hB2
        have hX2 := hX.be hB2
        have hE2 := below_tr hB hB2
        clear hG hX hB hB2 c3 x0 x1 x2 x3
        go_wp2_with fail
        go_roundw
        case rel => exact ⟨4, by omega, by go_num, HZ2, hG2, hX2, hE2⟩
        case measure => simp [intOf]
      · have HR := Sl.mk (ref_bad HZ.out hz (by omega))
        obtain ⟨E, hEE⟩ : ∃ E, chkE ⟨p, k, m, d⟩ l 3 = E := ⟨_, rfl⟩
        have HC2 : Sl (Calls Tryz.prog 64 #[.agg #[.slice pa p.length pc, .int .i64 k, .int .i64 m, .slice da d.length dc, .slice A n c]] wr fun e w' => e = .returned (.int .i64 E) ∧ Below wr.heap.size wr w') := Sl.mk (by rw [← hEE]; exact HC.out)
        rw [hEE] at HR hz
        have hE1 : (E != 0) = true := by simpa using hz
        clear hz hEE HC hne3 HZ
        go_wp2_with fail
        refine HC2.out.mono ?_
        rintro e w2 ⟨rfl, hB2⟩
        have hE2 := below_tr hB hB2
        clear hG hX hB hB2 c3 x0 x1 x2 x3
        go_wp2_with fail
        go_ret
        exact ⟨by rw [HR.out]; rfl, hE2⟩
    · have HC := Sl.mk (link_any ⟨⟨p, k, m, d⟩, pa, pc, da, dc⟩ A n c wr (HX.out.be hB) (HPN.out (HZ.out 0 (by omega))) (HM.out.be hB))
      have c4 := hG.cell 4
      have hne4 : chkE ⟨p, k, m, d⟩ l 4 = chkE ⟨p, k, m, d⟩ l 4 := rfl
      by_cases hz : chkE ⟨p, k, m, d⟩ l 4 = 0
      · have HC2 : Sl (Calls Tryz.prog 65 #[.agg #[.slice pa p.length pc, .int .i64 k, .int .i64 m, .slice da d.length dc, .slice A n c]] wr fun e w' => e = .returned (.int .i64 0) ∧ Below wr.heap.size wr w') := Sl.mk (by rw [← hz]; exact HC.out)
        have HZ2 := Sl.mk (chk_step HZ.out hz)
        clear hz HC hne4 HZ
        go_wp2_with fail
        refine HC2.out.mono ?_
        rintro e w2 ⟨rfl, hB2⟩
        have hG2 := hG.be hB2
        have hX2 := hX.be hB2
        have hE2 := below_tr hB hB2
        clear hG hX hB hB2 c4 x0 x1 x2 x3
        go_wp2_with fail
        go_roundw
        case rel => exact ⟨5, by omega, by go_num, HZ2, hG2, hX2, hE2⟩
        case measure => simp [intOf]
      · have HR := Sl.mk (ref_bad HZ.out hz (by omega))
        obtain ⟨E, hEE⟩ : ∃ E, chkE ⟨p, k, m, d⟩ l 4 = E := ⟨_, rfl⟩
        have HC2 : Sl (Calls Tryz.prog 65 #[.agg #[.slice pa p.length pc, .int .i64 k, .int .i64 m, .slice da d.length dc, .slice A n c]] wr fun e w' => e = .returned (.int .i64 E) ∧ Below wr.heap.size wr w') := Sl.mk (by rw [← hEE]; exact HC.out)
        rw [hEE] at HR hz
        have hE1 : (E != 0) = true := by simpa using hz
        clear hz hEE HC hne4 HZ
        go_wp2_with fail
        refine HC2.out.mono ?_
        rintro e w2 ⟨rfl, hB2⟩
        have hE2 := below_tr hB hB2
        clear hG hX hB hB2 c4 x0 x1 x2 x3
        go_wp2_with fail
        go_ret
        exact ⟨by rw [HR.out]; rfl, hE2⟩
    · have HC := Sl.mk (place_any ⟨⟨p, k, m, d⟩, pa, pc, da, dc⟩ A n c l wr (HX.out.be hB) (HPN.out (HZ.out 0 (by omega))) hn (HL.out.be hB))
      have c5 := hG.cell 5
      have hne5 : chkE ⟨p, k, m, d⟩ l 5 = chkE ⟨p, k, m, d⟩ l 5 := rfl
      by_cases hz : chkE ⟨p, k, m, d⟩ l 5 = 0
      · have HC2 : Sl (Calls Tryz.prog 66 #[.agg #[.slice pa p.length pc, .int .i64 k, .int .i64 m, .slice da d.length dc, .slice A n c]] wr fun e w' => e = .returned (.int .i64 0) ∧ Below wr.heap.size wr w') := Sl.mk (by rw [← hz]; exact HC.out)
        have HZ2 := Sl.mk (chk_step HZ.out hz)
        clear hz HC hne5 HZ
        go_wp2_with fail
        refine HC2.out.mono ?_
        rintro e w2 ⟨rfl, hB2⟩
        have hG2 := hG.be hB2
        have hX2 := hX.be hB2
        have hE2 := below_tr hB hB2
        clear hG hX hB hB2 c5 x0 x1 x2 x3
        go_wp2_with fail
        go_roundw
        case rel => exact ⟨6, by omega, by go_num, HZ2, hG2, hX2, hE2⟩
        case measure => simp [intOf]
      · have HR := Sl.mk (ref_bad HZ.out hz (by omega))
        obtain ⟨E, hEE⟩ : ∃ E, chkE ⟨p, k, m, d⟩ l 5 = E := ⟨_, rfl⟩
        have HC2 : Sl (Calls Tryz.prog 66 #[.agg #[.slice pa p.length pc, .int .i64 k, .int .i64 m, .slice da d.length dc, .slice A n c]] wr fun e w' => e = .returned (.int .i64 E) ∧ Below wr.heap.size wr w') := Sl.mk (by rw [← hEE]; exact HC.out)
        rw [hEE] at HR hz
        have hE1 : (E != 0) = true := by simpa using hz
        clear hz hEE HC hne5 HZ
        go_wp2_with fail
        refine HC2.out.mono ?_
        rintro e w2 ⟨rfl, hB2⟩
        have hE2 := below_tr hB hB2
        clear hG hX hB hB2 c5 x0 x1 x2 x3
        go_wp2_with fail
        go_ret
        exact ⟨by rw [HR.out]; rfl, hE2⟩
    · have HR := Sl.mk (ref_good HZ.out)
      clear x0 x1 x2 x3 HZ
      go_wp2_with fail
      go_ret
      exact ⟨by rw [HR.out]; rfl, hB⟩

end Go.Proofs.YticcphppnmoogaaGreatDoor

namespace Go.Proofs.YticcphppnmoogaaGreatDoor
open Go.RowKit
attribute [local go_sem ↓] Go.wp_at_zero Go.wp_at_succ

/-- What Check tells: the first entry that is refused, and why. -/
def CheckR (l : List Ex) (N : Nat) (E : Int) : Prop :=
  (40 < l.length ∧ N = 40 ∧ E = 2) ∨ (l.length ≤ 40 ∧ N ≤ l.length ∧ (∀ j x, j < N → l[j]? = some x → refusedE x.e (l.take j) = 0) ∧ ((N = l.length ∧ E = 0) ∨ (∃ x, l[N]? = some x ∧ E = refusedE x.e (l.take N) ∧ E ≠ 0)))
def CheckPost (w : World) (l : List Ex) (e : Ending) (w' : World) : Prop := ∃ (N : Nat) (E : Int), e = .returned (.tuple #[.int .i64 N, .int .i64 E]) ∧ CheckR l N E ∧ Below w.heap.size w w'

theorem ld_exl {ops : Array Oper} {rest : List Oper} {op : Oper} {a : Act} {w : World} {Q : Exit → Act → World → Prop} {ad : Addr} {x : Ex} (hc : ∀ j v, (exC x)[j]? = some v → w.cell? (ad.add j) = some v) (hgd : op.guard = none) (y : Operand) (ho : op.op = .load 40 y) (hy : a.eval y = .pointer (some ad))
    (h : wpList Tryz.prog ops Q rest (a.put op.dst (.agg #[.slice x.pa x.e.path.length x.pc, .int .i64 x.e.kind, .int .i64 x.e.mode, .slice x.da x.e.data.length x.dc])) w) : wpList Tryz.prog ops Q (op :: rest) a w :=
  ld_ex hc hgd y ho hy h

set_option maxRecDepth 100000 in
set_option maxHeartbeats 4000000 in
theorem acheck_any (A : Option Addr) (n c : Nat) (l : List Ex) (w : World) (hn : n ≤ 1000000) (hnc : n ≤ c ∧ c ≤ 9223372036854775807) (hL : Exs w A n l) (hM : Mx w) :
    Calls Tryz.prog 15 #[.slice A n c] w (CheckPost w l) := by
  have HN := Sl.mk hL.n_
  have HL := Sl.mk hL
  have HM := Sl.mk hM
  clear hL hM
  by_cases h40 : 40 < n
  · have h40' : (40 : Int) < (n : Int) := by omega
    go_enter Tryz.func15, Tryz.ntmps15
    go_wp2_with fail
    go_ret2
    exact ⟨40, 2, rfl, .inl ⟨by rw [HN.out]; exact h40, rfl, rfl⟩, Below.refl _ _⟩
  · have h40' : ¬ (40 : Int) < (n : Int) := by omega
    go_enter Tryz.func15, Tryz.ntmps15
    go_wp2_with fail
    go_loopw [4, 5, 6, 12] (fun _ _ _ v12 wr => ∃ i : Nat, i ≤ n ∧ v12 = .int .i64 i ∧ Sl (∀ j x, j < i → l[j]? = some x → refusedE x.e (l.take j) = 0) ∧ Below w.heap.size w wr) (fun _ _ _ v12 _ => n - (intOf v12).toNat)
    case atStart => exact ⟨0, Nat.zero_le _, rfl, ⟨fun j x hj => absurd hj (by omega)⟩, Below.refl _ _⟩
    case round =>
      obtain ⟨i, hi, rfl, HZ, hB⟩ := hrel
      by_cases hil : i < n
      · obtain ⟨x, hx⟩ : ∃ x, l[i]? = some x := ⟨_, List.getElem?_eq_getElem (by rw [HN.out]; exact hil)⟩
        obtain ⟨ad, rfl, hbl, hld, hok⟩ := (HL.out.be hB).at_ hx
        have hd0 : wr.cell? (ad.add (i * 4)) = some (.slice x.pa x.e.path.length x.pc) := by have := hld 0 _ rfl; simpa [Addr.add] using this
        have HXI := Sl.mk hx
        have HR := Sl.mk (show ∀ W, Below wr.heap.size wr W → Calls Tryz.prog 33 #[.agg #[.slice x.pa x.e.path.length x.pc, .int .i64 x.e.kind, .int .i64 x.e.mode, .slice x.da x.e.data.length x.dc], .slice (some ad) i c] W fun e w' => e = .returned (.int .i64 (refusedE x.e (l.take i))) ∧ Below W.heap.size W w' from fun W hW =>
          refused_any x (some ad) i c (l.take i) W (hok.be hW) (by omega) (((HL.out.be hB).be hW).take_ hi) ((HM.out.be hB).be hW))
        have hwa := below_al (Below.refl wr.heap.size wr) (.cells #[.slice x.pa x.e.path.length x.pc, .int .i64 x.e.kind, .int .i64 x.e.mode, .slice x.da x.e.data.length x.dc] 40)
        clear hx hok
        go_wp2_with (refine ld_exl hld rfl (.tmp 15) rfl rfl ?_)
        refine wp_region_quiet_tail 4 (by kernel_rfl) (by kernel_rfl) ?_
        simp only [List.take_succ_cons, List.take_zero, List.drop_succ_cons, List.drop_zero]
        repeat (any_goals (first | go_big_quiet_step (fail) | quiet_step (fail)))
        refine wpQuiet_nil ?_
        intro _ hw'
        obtain ⟨nq, hw''⟩ := hw'
        subst hw''
        go_wp2_with fail
        refine (HR.out _ (below_drN hwa nq)).mono ?_
        rintro e w2 ⟨rfl, hB2⟩
        have hE2 := below_tr hB (below_tr (below_drN hwa nq) hB2)
        clear hB hld hd0 hwa hB2
        by_cases hz : refusedE x.e (l.take i) = 0
        · have HZ2 := Sl.mk (show ∀ j x, j < i + 1 → l[j]? = some x → refusedE x.e (l.take j) = 0 from fun j y hj hy => by
            rcases Nat.lt_or_ge j i with h | h
            · exact HZ.out j y h hy
            · obtain rfl : j = i := by omega
              rw [HXI.out] at hy
              injection hy with hy
              subst hy
              exact hz)
          rw [hz]
          clear hz HZ
          go_wp2_with fail
          go_roundw
          case rel => exact ⟨i + 1, by omega, by go_num, HZ2, hE2⟩
          case measure => simp [intOf]; omega
        · have HB := Sl.mk hz
          obtain ⟨E, hEE⟩ : ∃ E, refusedE x.e (l.take i) = E := ⟨_, rfl⟩
          have HEE := Sl.mk hEE
          rw [hEE] at hz ⊢
          have hne : (E != 0) = true := by simpa using hz
          clear hz hEE
          go_wp2_with fail
          go_ret2
          exact ⟨i, E, rfl, .inr ⟨by rw [HN.out]; omega, by rw [HN.out]; exact hi, HZ.out, .inr ⟨x, HXI.out, HEE.out.symm, by rw [← HEE.out]; exact HB.out⟩⟩, hE2⟩
      · obtain rfl : i = n := by omega
        go_wp2_with fail
        go_ret2
        exact ⟨i, 0, rfl, .inr ⟨by rw [HN.out]; omega, by rw [HN.out]; exact hi, HZ.out, .inl ⟨HN.out.symm, rfl⟩⟩, hB⟩

end Go.Proofs.YticcphppnmoogaaGreatDoor
