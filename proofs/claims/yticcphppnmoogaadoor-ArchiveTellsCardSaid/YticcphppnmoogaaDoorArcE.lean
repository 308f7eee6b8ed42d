/-
  The contracts of lead and place.
-/
import Derived.Test.YticcphppnmoogaaDoorArcD
namespace Go.Proofs.YticcphppnmoogaaDoor
open Go.RowKit
attribute [local go_sem ↓] Go.wp_at_zero Go.wp_at_succ

theorem strV_drop (p : List ByteArray) : strV p.dropLast = (strV p).take (p.length - 1) := by
  rw [List.dropLast_eq_take]; simp [strV, List.map_take]
theorem reads_drop {w : World} {B n : Nat} {A : Option Addr} {p : List ByteArray} (h : Reads w B 1 A (n + 1) (strV p)) : Reads w B 1 A n (strV p.dropLast) := by
  have hl := strs_n h
  rw [strV_drop, hl, Nat.add_sub_cancel]
  exact reads_take h (by omega)
theorem hasp_any (s : ByteArray) (w : World) : Calls Tryd.prog 63 #[.string s, .string ⟨#[47]⟩] w fun e w' => e = .returned (.bool (isAbs s)) ∧ w' = w := strings_HasPrefix s ⟨#[47]⟩ w

set_option maxHeartbeats 2000000 in
theorem link_any (x : Ex) (A : Option Addr) (n c : Nat) (w : World) (hx : ExOk w w.heap.size x) (hp1 : x.e.path ≠ []) (hM : Mx w) :
    Calls Tryd.prog 52 #[.agg (askC x A n c).toArray] w fun e w' => e = .returned (.int .i64 (linkE x.e)) ∧ Below w.heap.size w w' := by
  obtain ⟨⟨p, k, m, d⟩, pa, pc, da, dc⟩ := x
  have hp : Reads w w.heap.size 1 pa p.length (strV p) := hx.path
  have hd : Reads w w.heap.size 1 da d.length (u8s d) := hx.data
  have hpl : p.length ≤ 100 := hx.plen
  have hpc : p.length ≤ pc ∧ pc ≤ 9223372036854775807 := hx.pcap
  have hps : ∀ s ∈ p, s.size ≤ 1000 := hx.slen
  have hdl : d.length ≤ 100000 := hx.dlen
  have hby : ∀ b ∈ d, b < 256 := hx.byte
  have hpos : 0 < p.length := List.length_pos_iff.2 hp1
  have hss := strN_size d
  clear hx hp1
  show Calls Tryd.prog 52 #[.agg #[.slice pa p.length pc, .int .i64 k, .int .i64 m, .slice da d.length dc, .slice A n c]] w fun e w' => e = .returned (.int .i64 (linkE ⟨p, k, m, d⟩)) ∧ Below w.heap.size w w'
  obtain ⟨dl, hdle⟩ : ∃ dl, d.length = dl := ⟨_, rfl⟩
  obtain ⟨pl, hple⟩ : ∃ pl, p.length = pl := ⟨_, rfl⟩
  rw [hple] at hp hpl hpc hpos ⊢
  rw [hdle] at hd hdl hss ⊢
  obtain ⟨q, rfl⟩ : ∃ q, pl = q + 1 := ⟨pl - 1, by omega⟩
  have hE := below_al (Below.refl w.heap.size w) (.cells #[.slice pa (q + 1) pc, .int .i64 k, .int .i64 m, .slice da dl dc, .slice A n c] 87)
  by_cases hk : k = 2
  · subst hk
    obtain ⟨S, hS⟩ : ∃ S, strN d = S := ⟨_, rfl⟩
    rw [hS] at hss
    obtain ⟨wB, hwB⟩ : ∃ wB, w.alloc (.cells #[.slice pa (q + 1) pc, .int .i64 2, .int .i64 m, .slice da dl dc, .slice A n c] 87) = wB := ⟨_, rfl⟩
    have hX : Blk wB w.heap.size 87 #[.slice pa (q + 1) pc, .int .i64 2, .int .i64 m, .slice da dl dc, .slice A n c] := by rw [← hwB]; exact Blk.new _ _ _
    rw [hwB] at hE
    have hcv : (convert 32 9 (.slice da dl dc)).run Tryd.prog wB = .ok (.string S) wB := by
      have := conv_str (c := dc) ((hd.below hE).more hE.size) hby
      rw [hS] at this
      exact this
    have HLD := Sl.mk (lead_any pa q pc p.dropLast S wB (by omega) (fun x hx => by have := hps x ((List.dropLast_sublist p).subset hx); omega) (by omega) (reads_drop ((hp.below hE).more hE.size)) (hM.be hE))
    have HF := Sl.mk (show linkE ⟨p, 2, m, d⟩ = if leadE p.dropLast S = 0 ∧ isAbs S = false then 0 else 10 by unfold linkE; rw [if_pos rfl]; show (if leadE p.dropLast (strN d) = 0 ∧ isAbs (strN d) = false then (0 : Int) else 10) = _; rw [hS])
    have c0 := hX.cell 0
    have c1 := hX.cell 1
    have c3 := hX.cell 3
    clear hp hd hps hby hM hS hss hple hdle
    unfold LeadPost at HLD
    by_cases hz : leadE p.dropLast S = 0
    · rw [hz] at HLD
      have HZ := Sl.mk hz
      clear hz
      cases eA : isAbs S
      all_goals
        go_enter Tryd.func52, Tryd.ntmps52
        go_wp2_with fail
        refine HLD.out.mono ?_
        rintro e w1 ⟨A', kk, c', rfl, hB1, -, -⟩
        go_wp2_with fail
        refine (hasp_any S _).mono ?_
        rintro e w2 ⟨rfl, rfl⟩
        rw [eA]
        go_wp2_with fail
        go_ret
        exact ⟨by rw [HF.out, HZ.out, eA]; rfl, below_tr hE hB1⟩
    · have HZ := Sl.mk hz
      obtain ⟨E, hEE⟩ : ∃ E, leadE p.dropLast S = E := ⟨_, rfl⟩
      rw [hEE] at HLD hz
      have hzz : (E != 0) = true := by simpa using hz
      clear hz hEE
      go_enter Tryd.func52, Tryd.ntmps52
      go_wp2_with fail
      refine HLD.out.mono ?_
      rintro e w1 ⟨A', kk, c', rfl, hB1, -, -⟩
      go_wp2_with fail
      go_ret
      exact ⟨by rw [HF.out, if_neg (fun h => HZ.out h.1)]; rfl, below_tr hE hB1⟩
  · have HF := Sl.mk (show linkE ⟨p, k, m, d⟩ = 0 from if_neg hk)
    have hk' : (k != 2) = true := by simpa using hk
    clear hk
    go_enter Tryd.func52, Tryd.ntmps52
    go_wp2_with fail
    go_ret
    exact ⟨by rw [HF.out]; rfl, hE⟩

def parK (q : List ByteArray) (l : List Ex) : Bool := match l[idxE q l]? with
  | some y => y.e.kind == 1
  | none => false
def placeE (p : List ByteArray) (l : List Ex) : Int := if idxE p l < l.length then 8 else if 0 < p.dropLast.length ∧ parK p.dropLast l = false then 7 else 0

set_option maxRecDepth 100000 in
set_option maxHeartbeats 4000000 in
theorem place_any (x : Ex) (A : Option Addr) (n c : Nat) (l : List Ex) (w : World) (hx : ExOk w w.heap.size x) (hp1 : x.e.path ≠ []) (hn : n ≤ 1000000) (hL : Exs w A n l) :
    Calls Tryd.prog 53 #[.agg (askC x A n c).toArray] w fun e w' => e = .returned (.int .i64 (placeE x.e.path l)) ∧ Below w.heap.size w w' := by
  obtain ⟨⟨p, k, m, d⟩, pa, pc, da, dc⟩ := x
  have hp : Reads w w.heap.size 1 pa p.length (strV p) := hx.path
  have hpl : p.length ≤ 100 := hx.plen
  have hpc : p.length ≤ pc ∧ pc ≤ 9223372036854775807 := hx.pcap
  have hpos : 0 < p.length := List.length_pos_iff.2 hp1
  clear hx hp1
  show Calls Tryd.prog 53 #[.agg #[.slice pa p.length pc, .int .i64 k, .int .i64 m, .slice da d.length dc, .slice A n c]] w fun e w' => e = .returned (.int .i64 (placeE p l)) ∧ Below w.heap.size w w'
  obtain ⟨dl, hdle⟩ : ∃ dl, d.length = dl := ⟨_, rfl⟩
  obtain ⟨pl, hple⟩ : ∃ pl, p.length = pl := ⟨_, rfl⟩
  rw [hple] at hp hpl hpc hpos ⊢
  rw [hdle]
  obtain ⟨q, rfl⟩ : ∃ q, pl = q + 1 := ⟨pl - 1, by omega⟩
  have HDL := Sl.mk (show p.dropLast.length = q by rw [List.length_dropLast, hple]; omega)
  have hE := below_al (Below.refl w.heap.size w) (.cells #[.slice pa (q + 1) pc, .int .i64 k, .int .i64 m, .slice da dl dc, .slice A n c] 87)
  obtain ⟨wB, hwB⟩ : ∃ wB, w.alloc (.cells #[.slice pa (q + 1) pc, .int .i64 k, .int .i64 m, .slice da dl dc, .slice A n c] 87) = wB := ⟨_, rfl⟩
  have hX : Blk wB w.heap.size 87 #[.slice pa (q + 1) pc, .int .i64 k, .int .i64 m, .slice da dl dc, .slice A n c] := by rw [← hwB]; exact Blk.new _ _ _
  rw [hwB] at hE
  have HLB := hL.be hE
  have HPB := (hp.below hE).more hE.size
  have HF1 := Sl.mk (find_any pa (q + 1) pc p A n c l wB hn HLB (by omega) HPB)
  have HF2 := Sl.mk (show ∀ W, Below wB.heap.size wB W → Calls Tryd.prog 10 #[.slice A n c, .slice pa q pc] W (FindPost W p.dropLast l) from fun W hb =>
    find_any pa q pc p.dropLast A n c l W hn (HLB.be hb) (by omega) ((reads_drop HPB |>.below hb).more hb.size))
  have c0 := hX.cell 0
  have c4 := hX.cell 4
  clear hp hL hple hdle HLB HPB
  unfold FindPost at HF1 HF2
  go_enter Tryd.func53, Tryd.ntmps53
  go_wp2_with fail
  clear hwB
  refine HF1.out.mono ?_
  rintro e w1 ⟨hB1, (⟨y, y', hy, hye, ho, he⟩ | ⟨hno, rfl⟩)⟩
  · obtain ⟨⟨p', k', m', d'⟩, pa', pc', da', dc'⟩ := y'
    obtain rfl : e = .returned (.tuple #[.agg #[.slice pa' p'.length pc', .int .i64 k', .int .i64 m', .slice da' d'.length dc'], .int .i64 0]) := he
    have HF := Sl.mk (show placeE p l = 8 by unfold placeE; rw [if_pos (List.getElem?_eq_some_iff.1 hy).1])
    have hE1 := below_tr hE hB1
    clear hy hye ho hB1 hE c0 c4
    go_wp2_with fail
    go_ret
    exact ⟨by rw [HF.out]; rfl, below_al hE1 _⟩
  · have HN := Sl.mk (show placeE p l = if 0 < p.dropLast.length ∧ parK p.dropLast l = false then 7 else 0 by unfold placeE; rw [if_neg (by omega)])
    have hX1 := hX.be hB1
    have hX2 := hX1.alloc (.cells #[.slice none 0 0, .int .i64 0, .int .i64 0, .slice none 0 0] 34)
    have hE1 := below_tr hE hB1
    have hEw := below_al (below_tr (Below.refl wB.heap.size wB) hB1) (.cells #[.slice none 0 0, .int .i64 0, .int .i64 0, .slice none 0 0] 34)
    have hE2 := below_al hE1 (.cells #[.slice none 0 0, .int .i64 0, .int .i64 0, .slice none 0 0] 34)
    clear c0 c4 hno hE hB1
    have c0 := hX1.cell 0
    have c4 := hX1.cell 4
    have d0 := hX2.cell 0
    have d4 := hX2.cell 4
    have hlt := hX1.lt
    go_wp2_with fail
    refine (HF2.out _ hEw).mono ?_
    have hq0 : decide ((0 : Int) < (q : Int)) = decide (0 < q) := by rw [decide_eq_decide]; omega
    rintro e w2 ⟨hB2, (⟨y, y', hy, hye, ho, he⟩ | ⟨hno, rfl⟩)⟩
    · obtain ⟨⟨p', k', m', d'⟩, pa', pc', da', dc'⟩ := y'
      obtain rfl : e = .returned (.tuple #[.agg #[.slice pa' p'.length pc', .int .i64 k', .int .i64 m', .slice da' d'.length dc'], .int .i64 0]) := he
      have hk : y.e.kind = k' := by rw [← hye]
      have HK := Sl.mk (show parK p.dropLast l = (k' == 1) by unfold parK; rw [hy, ← hk])
      have hE3 := below_tr hE2 hB2
      clear hy hye ho hk hE1 hE2 hEw hB2 c0 c4 d0 d4 hX1 hX2 hlt
      by_cases h0 : 0 < q
      · have h0' : (0 : Int) < (q : Int) := by omega
        have hq : decide (0 < q) = true := decide_eq_true h0
        by_cases h1 : k' = 1
        · subst h1
          clear hq0
          go_wp2_with fail
          go_ret
          exact ⟨by rw [HN.out, HK.out, if_neg (by simp)]; rfl, below_al hE3 _⟩
        · have h1' : (k' != 1) = true := by simpa using h1
          have HK2 := Sl.mk (show parK p.dropLast l = false by rw [HK.out]; simpa using h1)
          clear h1 hq0
          go_wp2_with fail
          go_ret
          exact ⟨by rw [HN.out, if_pos ⟨by rw [HDL.out]; exact h0, HK2.out⟩]; rfl, below_al hE3 _⟩
      · obtain rfl : q = 0 := by omega
        clear hq0
        go_wp2_with fail
        go_ret
        exact ⟨by rw [HN.out, if_neg (fun h => by rw [HDL.out] at h; exact absurd h.1 (by omega))]; rfl, below_al hE3 _⟩
    · have HK := Sl.mk (show parK p.dropLast l = false by unfold parK; rw [List.getElem?_eq_none (by omega)])
      have hE3 := below_tr hE2 hB2
      clear hno hE1 hE2 hEw hB2 c0 c4 d0 d4 hX1 hX2 hlt
      by_cases h0 : 0 < q
      · have h0' : (0 : Int) < (q : Int) := by omega
        clear hq0
        go_wp2_with fail
        go_ret
        exact ⟨by rw [HN.out, if_pos ⟨by rw [HDL.out]; exact h0, HK.out⟩]; rfl, below_al hE3 _⟩
      · obtain rfl : q = 0 := by omega
        clear hq0
        go_wp2_with fail
        go_ret
        exact ⟨by rw [HN.out, if_neg (fun h => by rw [HDL.out] at h; exact absurd h.1 (by omega))]; rfl, below_al hE3 _⟩

end Go.Proofs.YticcphppnmoogaaDoor
