/-
  The contract of creellaw13's items.
  The contract of creellaw13's To.
  A manifest's text, row by row (plain); the contract of Text's line.
-/
import Derived.Test.YtmgblbkmbiiofaaDoorMd16
import Derived.Test.YtmgblbkmbiiofaaDoorMd17
import Derived.Test.YtmgblbkmbiiofaaDoorMd15

namespace Go.Proofs.YtmgblbkmbiiofaaDoor
open Go.RowKit
attribute [local go_sem ↓] Go.wp_at_zero Go.wp_at_succ
set_option linter.unusedVariables false
set_option linter.unusedSimpArgs false

def cutIt (x : It) : It := ⟨x.a.take 60, x.b.take 60⟩
def itemsF (l : List It) : List It := (l.take 21).map cutIt
theorem itsR_lit {w : World} {B n : Nat} {A : Option Addr} {l : List It} (h : Reads w B 2 A n (itsC l)) {i : Nat} {x : It} (hi : l[i]? = some x) :
    ∃ b o, A = some ⟨b, o, none⟩ ∧ b < B ∧ w.cell? ⟨b, o + i * 2, none⟩ = some (.string (bsS x.a)) ∧ w.cell? ⟨b, o + i * 2 + 1, none⟩ = some (.string (bsS x.b)) := by
  have hil : i < l.length := (List.getElem?_eq_some_iff.1 hi).1
  have hl := h.1
  rw [itsC_len] at hl
  obtain ⟨ad, e', hb, hcc⟩ := h.2 (by omega)
  have hlen : 0 < (itsC l).length := by rw [itsC_len]; omega
  have e := addr_lit (hcc 0 _ (List.getElem?_eq_getElem hlen))
  have h0 := hcc _ _ (itsC_at l i x hi 0 _ rfl)
  have h1 := hcc _ _ (itsC_at l i x hi 1 _ rfl)
  rw [e, Addr.add_lit] at h0 h1
  exact ⟨ad.block, ad.off, by rw [← e]; exact e', hb, h0, h1⟩
theorem items_next {l : List It} {i : Nat} {x : It} (hx : l[i]? = some x) : (l.take (i + 1)).map cutIt = (l.take i).map cutIt ++ [cutIt x] := by
  rw [take_snoc' hx]; simp
set_option maxRecDepth 100000 in
set_option maxHeartbeats 16000000 in
theorem items_any (A : Option Addr) (n c : Nat) (l : List It) (w : World) (hn : n ≤ 9223372036854775807) (hR : Reads w w.heap.size 2 A n (itsC l)) (hs : ∀ x ∈ l, x.a.length ≤ 9223372036854775807 ∧ x.b.length ≤ 9223372036854775807) :
    Calls Tryd.prog 10 #[.slice A n c] w fun e w' => Below w.heap.size w w' ∧ ∃ A' c', e = .returned (.slice A' (itemsF l).length c') ∧ OwnI w' w.heap.size A' (itemsF l).length c' (itemsF l) := by
  have hln : l.length = n := by
    have h1 := hR.1
    rw [itsC_len] at h1
    omega
  obtain ⟨M, hM⟩ : ∃ M : Nat, min n 21 = M := ⟨_, rfl⟩
  have hM1 : M ≤ 21 ∧ M ≤ n := by omega
  have HMF := Sl.mk (show (l.take M).map cutIt = itemsF l ∧ (itemsF l).length = M by
    unfold itemsF
    rcases Nat.lt_or_ge n 21 with h | h
    · have e : M = n := by omega
      rw [List.take_of_length_le (by omega), List.take_of_length_le (by omega)]
      exact ⟨rfl, by rw [List.length_map]; omega⟩
    · have e : M = 21 := by omega
      rw [e]
      exact ⟨rfl, by rw [List.length_map, List.length_take]; omega⟩)
  obtain ⟨i0, hi0, hz0, hz1, hz2⟩ := info_it
  have HR := Sl.mk hR
  have HS := Sl.mk hs
  have HLN := Sl.mk hln
  have HMM := Sl.mk hM
  clear hR hs hln hM
  go_enter Tryd.func10, Tryd.ntmps10
  go_wp2_with fail
  go_loopg [3, 4] M (fun q v3 v4 wr => ∃ (i : Nat) (B : Option Addr) (c2 : Nat), q = M - i ∧ i ≤ M ∧ v4 = .int .i64 i ∧ v3 = .slice B i c2 ∧ Sl (Below w.heap.size w wr) ∧ Sl (OwnI wr w.heap.size B i c2 ((l.take i).map cutIt)))
  case atStart => exact ⟨0, none, 0, rfl, Nat.zero_le _, rfl, rfl, ⟨Below.refl _ _⟩, ⟨World.ownsRow_nil _ _ _ _⟩⟩
  case round =>
    obtain ⟨i, B, c2, hq, hi, rfl, rfl, HB, HO⟩ := hrel
    by_cases hlt : i < M
    · obtain ⟨x, hx⟩ : ∃ x, l[i]? = some x := ⟨_, List.getElem?_eq_getElem (by rw [HLN.out]; omega)⟩
      obtain ⟨ab, ao, hAe, hbl, c0w, c1w⟩ := itsR_lit HR.out hx
      obtain ⟨hxa, hxb⟩ := HS.out x (List.mem_of_getElem? hx)
      have HNX := Sl.mk (items_next hx)
      obtain ⟨xa, xb⟩ := x
      subst hAe
      have HIc := Sl.mk (fun (W : World) (hW : Below w.heap.size w W) => show W.cell? ⟨ab, ao + i * 2, none⟩ = some (.string (bsS xa)) ∧ W.cell? ⟨ab, ao + i * 2 + 1, none⟩ = some (.string (bsS xb)) from
        ⟨(hW.cell (p := ⟨ab, ao + i * 2, none⟩) hbl).trans c0w, (hW.cell (p := ⟨ab, ao + i * 2 + 1, none⟩) hbl).trans c1w⟩)
      have HBL := Sl.mk hbl
      clear hx hbl c0w c1w
      have hin : (i : Int) < (n : Int) := by omega
      have hi21 : (i : Int) < 21 := by omega
      obtain ⟨ka, hka⟩ : ∃ k : Nat, min (xa.length : Int) 60 = k := ⟨(min (xa.length : Int) 60).toNat, by omega⟩
      obtain ⟨kb, hkb⟩ : ∃ k : Nat, min (xb.length : Int) 60 = k := ⟨(min (xb.length : Int) 60).toNat, by omega⟩
      have hka1 : ka ≤ xa.length := by omega
      have hkb1 : kb ≤ xb.length := by omega
      have eka : (bsS xa).extract 0 ka = bsS (xa.take 60) := by
        rw [bs_cut, List.drop_zero, Nat.sub_zero]
        rcases Nat.lt_or_ge xa.length 60 with h | h
        · rw [List.take_of_length_le (by omega), List.take_of_length_le (by omega)]
        · rw [show ka = 60 by omega]
      have ekb : (bsS xb).extract 0 kb = bsS (xb.take 60) := by
        rw [bs_cut, List.drop_zero, Nat.sub_zero]
        rcases Nat.lt_or_ge xb.length 60 with h | h
        · rw [List.take_of_length_le (by omega), List.take_of_length_le (by omega)]
        · rw [show kb = 60 by omega]
      have hza := bs_size xa
      have hzb := bs_size xb
      go_wp2_with fail
      obtain ⟨wd, hwd⟩ : ∃ wd, wr.drew = wd := ⟨_, rfl⟩
      have HBd := Sl.mk (show Below w.heap.size w wd by rw [← hwd]; exact HB.out.drew)
      have hOw : OwnI wd w.heap.size B i c2 ((l.take i).map cutIt) := by rw [← hwd]; exact own_below HO.out (Below.refl _ _).drew
      have HSF : Sl (∀ W : World, (W.cell? ⟨ab, ao + i * 2, none⟩ = some (.string (bsS xa)) ∧ W.cell? ⟨ab, ao + i * 2 + 1, none⟩ = some (.string (bsS xb))) → W.cell? ⟨ab, ao + i * 2, none⟩ = some (.string (bsS xa)) ∧ W.cell? ⟨ab, ao + i * 2 + 1, none⟩ = some (.string (bsS xb))) := Sl.mk (fun W hW => hW)
      refine wp_region_X (fun W : World => W.cell? ⟨ab, ao + i * 2, none⟩ = some (.string (bsS xa)) ∧ W.cell? ⟨ab, ao + i * 2 + 1, none⟩ = some (.string (bsS xb))) [30] (by kernel_rfl) (by rw [hwd]; exact HIc.out _ HBd.out) (fun hS => ?_)
      rw [hwd] at hS ⊢
      clear hwd
      refine wpAnyX_S (i := 0) (v := ?_) rfl (by kernel_rfl) (by kernel_rfl) (by kernel_rfl) (by kernel_rfl) (fun _ _ _ h => h) (Or.inl ⟨by rfl, ?_⟩) hS ?_
      rotate_left 1
      · (intro w' hw'; (first | rw [hw'] | (have hw2 := HSF.out w' hw'; (try obtain ⟨hw2, hw3⟩ := hw2)) | skip); go_simp; (try with_reducible rfl))
      simp only [Act.put, List.setIfInBounds_toArray, List.set_cons_zero, List.set_cons_succ]
      refine wpAnyX_S (i := 1) (v := ?_) rfl (by kernel_rfl) (by kernel_rfl) (by kernel_rfl) (by kernel_rfl) (fun _ _ _ h => h) (Or.inl ⟨by rfl, ?_⟩) hS ?_
      rotate_left 1
      · (intro w' hw'; (first | rw [hw'] | (have hw2 := HSF.out w' hw'; (try obtain ⟨hw2, hw3⟩ := hw2)) | skip); go_simp; (try with_reducible rfl))
      simp only [Act.put, List.setIfInBounds_toArray, List.set_cons_zero, List.set_cons_succ]
      refine wpAnyX_S (i := 2) (v := ?_) rfl (by kernel_rfl) (by kernel_rfl) (by kernel_rfl) (by kernel_rfl) (fun _ _ _ h => h) (Or.inl ⟨by rfl, ?_⟩) hS ?_
      rotate_left 1
      · (intro w' hw'; (first | rw [hw'] | (have hw2 := HSF.out w' hw'; (try obtain ⟨hw2, hw3⟩ := hw2)) | skip); go_simp; (try with_reducible rfl))
      simp only [Act.put, List.setIfInBounds_toArray, List.set_cons_zero, List.set_cons_succ]
      refine wpAnyX_S (i := 3) (v := ?_) rfl (by kernel_rfl) (by kernel_rfl) (by kernel_rfl) (by kernel_rfl) (fun _ _ _ h => h) (Or.inl ⟨by rfl, ?_⟩) hS ?_
      rotate_left 1
      · (intro w' hw'; (first | rw [hw'] | (have hw2 := HSF.out w' hw'; (try obtain ⟨hw2, hw3⟩ := hw2)) | skip); go_simp; (try with_reducible rfl))
      simp only [Act.put, List.setIfInBounds_toArray, List.set_cons_zero, List.set_cons_succ]
      refine wpAnyX_S (i := 4) (v := ?_) rfl (by kernel_rfl) (by kernel_rfl) (by kernel_rfl) (by kernel_rfl) (fun _ _ _ h => h) (Or.inl ⟨by rfl, ?_⟩) hS ?_
      rotate_left 1
      · (intro w' hw'; (first | rw [hw'] | (have hw2 := HSF.out w' hw'; (try obtain ⟨hw2, hw3⟩ := hw2)) | skip); go_simp; (try with_reducible rfl))
      simp only [Act.put, List.setIfInBounds_toArray, List.set_cons_zero, List.set_cons_succ]
      refine wpAnyX_S (i := 5) (v := ?_) rfl (by kernel_rfl) (by kernel_rfl) (by kernel_rfl) (by kernel_rfl) (fun _ _ _ h => h) (Or.inl ⟨by rfl, ?_⟩) hS ?_
      rotate_left 1
      · (intro w' hw'; (first | rw [hw'] | (have hw2 := HSF.out w' hw'; (try obtain ⟨hw2, hw3⟩ := hw2)) | skip); go_simp; (try with_reducible rfl))
      simp only [Act.put, List.setIfInBounds_toArray, List.set_cons_zero, List.set_cons_succ]
      refine wpAnyX_S (i := 6) (v := ?_) rfl (by kernel_rfl) (by kernel_rfl) (by kernel_rfl) (by kernel_rfl) (fun _ _ _ h => h) (Or.inl ⟨by rfl, ?_⟩) hS ?_
      rotate_left 1
      · (intro w' hw'; (first | rw [hw'] | (have hw2 := HSF.out w' hw'; (try obtain ⟨hw2, hw3⟩ := hw2)) | skip); go_simp; (try with_reducible rfl))
      simp only [Act.put, List.setIfInBounds_toArray, List.set_cons_zero, List.set_cons_succ]
      refine wpAnyX_S (i := 7) (v := ?_) rfl (by kernel_rfl) (by kernel_rfl) (by kernel_rfl) (by kernel_rfl) (fun _ _ _ h => h) (Or.inl ⟨by rfl, ?_⟩) hS ?_
      rotate_left 1
      · (intro w' hw'; (first | rw [hw'] | (have hw2 := HSF.out w' hw'; (try obtain ⟨hw2, hw3⟩ := hw2)) | skip); go_simp; (try with_reducible rfl))
      simp only [Act.put, List.setIfInBounds_toArray, List.set_cons_zero, List.set_cons_succ]
      refine wpAnyX_S (i := 8) (v := ?_) rfl (by kernel_rfl) (by kernel_rfl) (by kernel_rfl) (by kernel_rfl) (fun _ _ _ h => h) (Or.inl ⟨by rfl, ?_⟩) hS ?_
      rotate_left 1
      · (intro w' hw'; (first | rw [hw'] | (have hw2 := HSF.out w' hw'; (try obtain ⟨hw2, hw3⟩ := hw2)) | skip); go_simp; (try with_reducible rfl))
      simp only [Act.put, List.setIfInBounds_toArray, List.set_cons_zero, List.set_cons_succ]
      refine wpAnyX_S (i := 9) (v := ?_) rfl (by kernel_rfl) (by kernel_rfl) (by kernel_rfl) (by kernel_rfl) (fun _ _ _ h => h) (Or.inl ⟨by rfl, ?_⟩) hS ?_
      rotate_left 1
      · (intro w' hw'; (first | rw [hw'] | (have hw2 := HSF.out w' hw'; (try obtain ⟨hw2, hw3⟩ := hw2)) | skip); go_simp; (try with_reducible rfl))
      simp only [Act.put, List.setIfInBounds_toArray, List.set_cons_zero, List.set_cons_succ]
      refine wpAnyX_S (i := 10) (v := ?_) rfl (by kernel_rfl) (by kernel_rfl) (by kernel_rfl) (by kernel_rfl) (fun _ _ _ h => h) (Or.inl ⟨by rfl, ?_⟩) hS ?_
      rotate_left 1
      · (intro w' hw'; (first | rw [hw'] | (have hw2 := HSF.out w' hw'; (try obtain ⟨hw2, hw3⟩ := hw2)) | skip); go_simp; (try with_reducible rfl))
      simp only [Act.put, List.setIfInBounds_toArray, List.set_cons_zero, List.set_cons_succ]
      refine wpAnyX_S (i := 11) (v := ?_) rfl (by kernel_rfl) (by kernel_rfl) (by kernel_rfl) (by kernel_rfl) (fun _ _ _ h => h) (Or.inl ⟨by rfl, ?_⟩) hS ?_
      rotate_left 1
      · (intro w' hw'; (first | rw [hw'] | (have hw2 := HSF.out w' hw'; (try obtain ⟨hw2, hw3⟩ := hw2)) | skip); go_simp; (try with_reducible rfl))
      simp only [Act.put, List.setIfInBounds_toArray, List.set_cons_zero, List.set_cons_succ]
      refine wpAnyX_S (i := 12) (v := ?_) rfl (by kernel_rfl) (by kernel_rfl) (by kernel_rfl) (by kernel_rfl) (fun _ _ _ h => h) (Or.inl ⟨by rfl, ?_⟩) hS ?_
      rotate_left 1
      · (intro w' hw'; (first | rw [hw'] | (have hw2 := HSF.out w' hw'; (try obtain ⟨hw2, hw3⟩ := hw2)) | skip); go_simp; (try with_reducible rfl))
      simp only [Act.put, List.setIfInBounds_toArray, List.set_cons_zero, List.set_cons_succ]
      refine wpAnyX_S (i := 13) (v := ?_) rfl (by kernel_rfl) (by kernel_rfl) (by kernel_rfl) (by kernel_rfl) (fun _ _ _ h => h) (Or.inl ⟨by rfl, ?_⟩) hS ?_
      rotate_left 1
      · (intro w' hw'; (first | rw [hw'] | (have hw2 := HSF.out w' hw'; (try obtain ⟨hw2, hw3⟩ := hw2)) | skip); go_simp; (try with_reducible rfl))
      simp only [Act.put, List.setIfInBounds_toArray, List.set_cons_zero, List.set_cons_succ]
      refine wpAnyX_S (i := 14) (v := ?_) rfl (by kernel_rfl) (by kernel_rfl) (by kernel_rfl) (by kernel_rfl) (fun _ _ _ h => h) (Or.inl ⟨by rfl, ?_⟩) hS ?_
      rotate_left 1
      · (intro w' hw'; (first | rw [hw'] | (have hw2 := HSF.out w' hw'; (try obtain ⟨hw2, hw3⟩ := hw2)) | skip); go_simp; (try with_reducible rfl))
      simp only [Act.put, List.setIfInBounds_toArray, List.set_cons_zero, List.set_cons_succ]
      refine wpAnyX_S (i := 15) (v := ?_) rfl (by kernel_rfl) (by kernel_rfl) (by kernel_rfl) (by kernel_rfl) (fun _ _ _ h => h) (Or.inl ⟨by rfl, ?_⟩) hS ?_
      rotate_left 1
      · (intro w' hw'; (first | rw [hw'] | (have hw2 := HSF.out w' hw'; (try obtain ⟨hw2, hw3⟩ := hw2)) | skip); go_simp; (try with_reducible rfl))
      simp only [Act.put, List.setIfInBounds_toArray, List.set_cons_zero, List.set_cons_succ]
      refine wpAnyX_S (i := 16) (v := ?_) rfl (by kernel_rfl) (by kernel_rfl) (by kernel_rfl) (by kernel_rfl) (fun _ _ _ h => h) (Or.inl ⟨by rfl, ?_⟩) hS ?_
      rotate_left 1
      · (intro w' hw'; (first | rw [hw'] | (have hw2 := HSF.out w' hw'; (try obtain ⟨hw2, hw3⟩ := hw2)) | skip); go_simp; (try with_reducible rfl))
      simp only [Act.put, List.setIfInBounds_toArray, List.set_cons_zero, List.set_cons_succ]
      refine wpAnyX_S (i := 17) (v := ?_) rfl (by kernel_rfl) (by kernel_rfl) (by kernel_rfl) (by kernel_rfl) (fun _ _ _ h => h) (Or.inl ⟨by rfl, ?_⟩) hS ?_
      rotate_left 1
      · (intro w' hw'; (first | rw [hw'] | (have hw2 := HSF.out w' hw'; (try obtain ⟨hw2, hw3⟩ := hw2)) | skip); go_simp; (try with_reducible rfl))
      simp only [Act.put, List.setIfInBounds_toArray, List.set_cons_zero, List.set_cons_succ]
      refine wpAnyX_S (i := 18) (v := ?_) rfl (by kernel_rfl) (by kernel_rfl) (by kernel_rfl) (by kernel_rfl) (fun _ _ _ h => h) (Or.inl ⟨by rfl, ?_⟩) hS ?_
      rotate_left 1
      · (intro w' hw'; (first | rw [hw'] | (have hw2 := HSF.out w' hw'; (try obtain ⟨hw2, hw3⟩ := hw2)) | skip); go_simp; (try with_reducible rfl))
      simp only [Act.put, List.setIfInBounds_toArray, List.set_cons_zero, List.set_cons_succ]
      refine wpAnyX_S (i := 19) (v := ?_) rfl (by kernel_rfl) (by kernel_rfl) (by kernel_rfl) (by kernel_rfl) (fun _ _ _ h => h) (Or.inl ⟨by rfl, ?_⟩) hS ?_
      rotate_left 1
      · (intro w' hw'; (first | rw [hw'] | (have hw2 := HSF.out w' hw'; (try obtain ⟨hw2, hw3⟩ := hw2)) | skip); go_simp; (try with_reducible rfl))
      simp only [Act.put, List.setIfInBounds_toArray, List.set_cons_zero, List.set_cons_succ]
      refine wpAnyX_S (i := 20) (v := ?_) rfl (by kernel_rfl) (by kernel_rfl) (by kernel_rfl) (by kernel_rfl) (fun _ _ _ h => h) (Or.inl ⟨by rfl, ?_⟩) hS ?_
      rotate_left 1
      · (intro w' hw'; (first | rw [hw'] | (have hw2 := HSF.out w' hw'; (try obtain ⟨hw2, hw3⟩ := hw2)) | skip); go_simp; (try with_reducible rfl))
      simp only [Act.put, List.setIfInBounds_toArray, List.set_cons_zero, List.set_cons_succ]
      refine wpAnyX_S (i := 21) (v := ?_) rfl (by kernel_rfl) (by kernel_rfl) (by kernel_rfl) (by kernel_rfl) (fun _ _ _ h => h) (Or.inl ⟨by rfl, ?_⟩) hS ?_
      rotate_left 1
      · (intro w' hw'; (first | rw [hw'] | (have hw2 := HSF.out w' hw'; (try obtain ⟨hw2, hw3⟩ := hw2)) | skip); go_simp; (try with_reducible rfl))
      simp only [Act.put, List.setIfInBounds_toArray, List.set_cons_zero, List.set_cons_succ]
      refine wpAnyX_S (i := 22) (v := ?_) rfl (by kernel_rfl) (by kernel_rfl) (by kernel_rfl) (by kernel_rfl) (fun _ _ _ h => h) (Or.inl ⟨by rfl, ?_⟩) hS ?_
      rotate_left 1
      · (intro w' hw'; (first | rw [hw'] | (have hw2 := HSF.out w' hw'; (try obtain ⟨hw2, hw3⟩ := hw2)) | skip); go_simp; (try with_reducible rfl))
      simp only [Act.put, List.setIfInBounds_toArray, List.set_cons_zero, List.set_cons_succ]
      refine wpAnyX_S (i := 23) (v := ?_) rfl (by kernel_rfl) (by kernel_rfl) (by kernel_rfl) (by kernel_rfl) (fun _ _ _ h => h) (Or.inl ⟨by rfl, ?_⟩) hS ?_
      rotate_left 1
      · (intro w' hw'; (first | rw [hw'] | (have hw2 := HSF.out w' hw'; (try obtain ⟨hw2, hw3⟩ := hw2)) | skip); go_simp; (try with_reducible rfl))
      simp only [Act.put, List.setIfInBounds_toArray, List.set_cons_zero, List.set_cons_succ]
      refine wpAnyX_S (i := 24) (v := ?_) rfl (by kernel_rfl) (by kernel_rfl) (by kernel_rfl) (by kernel_rfl) (fun _ _ _ h => h) (Or.inl ⟨by rfl, ?_⟩) hS ?_
      rotate_left 1
      · (intro w' hw'; (first | rw [hw'] | (have hw2 := HSF.out w' hw'; (try obtain ⟨hw2, hw3⟩ := hw2)) | skip); go_simp; (try with_reducible rfl))
      simp only [Act.put, List.setIfInBounds_toArray, List.set_cons_zero, List.set_cons_succ]
      refine wpAnyX_S (i := 25) (v := ?_) rfl (by kernel_rfl) (by kernel_rfl) (by kernel_rfl) (by kernel_rfl) (fun _ _ _ h => h) (Or.inl ⟨by rfl, ?_⟩) hS ?_
      rotate_left 1
      · (intro w' hw'; (first | rw [hw'] | (have hw2 := HSF.out w' hw'; (try obtain ⟨hw2, hw3⟩ := hw2)) | skip); go_simp; (try with_reducible rfl))
      simp only [Act.put, List.setIfInBounds_toArray, List.set_cons_zero, List.set_cons_succ]
      refine wpAnyX_S (i := 26) (v := ?_) rfl (by kernel_rfl) (by kernel_rfl) (by kernel_rfl) (by kernel_rfl) (fun _ _ _ h => h) (Or.inl ⟨by rfl, ?_⟩) hS ?_
      rotate_left 1
      · (intro w' hw'; (first | rw [hw'] | (have hw2 := HSF.out w' hw'; (try obtain ⟨hw2, hw3⟩ := hw2)) | skip); go_simp; (try with_reducible rfl))
      simp only [Act.put, List.setIfInBounds_toArray, List.set_cons_zero, List.set_cons_succ]
      refine wpAnyX_S (i := 27) (v := ?_) rfl (by kernel_rfl) (by kernel_rfl) (by kernel_rfl) (by kernel_rfl) (fun _ _ _ h => h) (Or.inl ⟨by rfl, ?_⟩) hS ?_
      rotate_left 1
      · (intro w' hw'; (first | rw [hw'] | (have hw2 := HSF.out w' hw'; (try obtain ⟨hw2, hw3⟩ := hw2)) | skip); go_simp; (try with_reducible rfl))
      simp only [Act.put, List.setIfInBounds_toArray, List.set_cons_zero, List.set_cons_succ]
      refine wpAnyX_oneL (k := 28) rfl (by kernel_rfl) rfl ?_
      refine wp_of_run (v := .slice (some ⟨wd.heap.size, 0, none⟩) 1 1) (w' := wd.alloc (.cells #[.string (bsS (xa.take 60)), .string (bsS (xb.take 60))] 62)) (by go_simp) ⟨fun _ => ⟨Lib.cell?_alloc_some _ hS.1, Lib.cell?_alloc_some _ hS.2⟩, ?_⟩
      simp only [Act.put, List.setIfInBounds_toArray, List.set_cons_zero, List.set_cons_succ]
      refine wpAnyX_oneL (k := 29) rfl (by kernel_rfl) rfl ?_
      have hbd : w.heap.size ≤ (wd.alloc (.cells #[.string (bsS (xa.take 60)), .string (bsS (xb.take 60))] 62)).heap.size := by have := HBd.out.size; simp; omega
      refine wp_append_any _ (.tmp 15) (.tmp 43) 26 rfl w.heap.size 62 i0 (.agg #[.string ⟨#[]⟩, .string ⟨#[]⟩]) 2 32 Tryd.underlying26 hi0 hz0 hz1 hz2 rfl (by decide) _ _ _ rfl (hOw.alloc _) (wd.heap.size + 1) _ 1 1 [.string (bsS (xa.take 60)), .string (bsS (xb.take 60))] rfl (reads_row2 wd _ _ _ (Nat.lt_succ_self _)) (itC_one ⟨xa.take 60, xb.take 60⟩) (by unfold maxLen; omega) (by omega) hbd ?_
      intro v9 w9 ho9 hg9 hb9
      obtain ⟨A9, c9, hv9, hO9⟩ := ownI_form (l := (l.take (i + 1)).map cutIt) (by rw [HNX.out, itsC_app, itsC_sing]; exact ho9)
      subst hv9
      have HO9 := Sl.mk hO9
      have HB9 := Sl.mk (show Below w.heap.size w w9 from (HBd.out.alloc HBd.out.size _).trans ((Below.refl _ _).grown hg9 hbd (fun g hg => ownGe hOw hg)))
      have hic : ∀ (q : Nat) (v : Value), wd.cell? ⟨ab, q, none⟩ = some v → w9.cell? ⟨ab, q, none⟩ = some v := fun q v hq => hg9.cell (Lib.cell?_alloc_some _ hq) (fun e => by
        have h1 := ownGe hOw (g := ab) e.symm
        have h2 := HBL.out
        omega)
      refine ⟨fun _ => ⟨hic _ _ hS.1, hic _ _ hS.2⟩, ?_⟩
      simp only [Act.put, List.setIfInBounds_toArray, List.set_cons_zero, List.set_cons_succ]
      clear hS hbd ho9 hg9 hb9 hO9 hic hOw HSF
      refine wpAnyX_tailF [30] (by kernel_rfl) (by rfl) (by rfl) (by rfl) ?_
      simp only [List.filterMap_cons, List.filterMap_nil, List.getElem?_cons_succ, List.getElem?_cons_zero]
      go_wp2_with fail
      refine NoPanic.normal ?_
      go_wp2_with fail
      go_roundg (M - (i + 1))
      case measure => omega
      case rel => exact ⟨i + 1, A9, c9, rfl, by omega, by go_num, rfl, HB9, HO9⟩
    · obtain rfl : i = M := by omega
      have HOF := Sl.mk (show OwnI wr w.heap.size B (itemsF l).length c2 (itemsF l) by
        have h1 := HO.out
        rw [HMF.out.1] at h1
        rw [HMF.out.2]
        exact h1)
      have HLF := Sl.mk HMF.out.2
      by_cases hin : i < n
      · have hin' : (i : Int) < (n : Int) := by omega
        have hi21 : ¬ (i : Int) < 21 := by have := HMM.out; omega
        clear hin
        go_wp2_with fail
        go_ret
        exact ⟨HB.out, B, c2, by rw [HLF.out]; rfl, HOF.out⟩
      · have hin' : ¬ (i : Int) < (n : Int) := by omega
        clear hin
        go_wp2_with fail
        go_ret
        exact ⟨HB.out, B, c2, by rw [HLF.out]; rfl, HOF.out⟩
end Go.Proofs.YtmgblbkmbiiofaaDoor

namespace Go.Proofs.YtmgblbkmbiiofaaDoor
open Go.RowKit
attribute [local go_sem ↓] Go.wp_at_zero Go.wp_at_succ
set_option linter.unusedVariables false
set_option linter.unusedSimpArgs false

def toM (m : Mf) : Mf := ⟨m.pkg.take 60, m.pub.take 60, m.rev, itemsF m.p, itemsF m.s, itemsF m.h, itemsF m.w⟩
/-- A manifest that comes in. -/
structure MfI (w : World) (m : Mf) (p s h k : Hd) : Prop where
  ip : Reads w w.heap.size 2 p.A p.n (itsC m.p)
  iq : Reads w w.heap.size 2 s.A s.n (itsC m.s)
  ir : Reads w w.heap.size 2 h.A h.n (itsC m.h)
  iw : Reads w w.heap.size 2 k.A k.n (itsC m.w)
  pn : p.n ≤ 9223372036854775807 ∧ s.n ≤ 9223372036854775807 ∧ h.n ≤ 9223372036854775807 ∧ k.n ≤ 9223372036854775807
  tx : ∀ j, j < 4 → ∀ x ∈ m.at j, x.a.length ≤ 9223372036854775807 ∧ x.b.length ≤ 9223372036854775807
  pk : m.pkg.length ≤ 9223372036854775807 ∧ m.pub.length ≤ 9223372036854775807
theorem wp_of_callZ {P : Program} {o : Oper} {a : Act} {w : World} {K : Act → World → Prop} {Q : Exit → Act → World → Prop} {f : FuncId} {args : Array Value} {R : Ending → World → Prop} (hrun : (execOp a.eval o).run P w = .ok (.enter f args) w)
    (hc : Calls P f args w R) (h : ∀ e w', R e w' → ∃ v, e = .returned v ∧ K (a.put o.dst v) w') : o.wp P a w K Q := by
  unfold Oper.wp
  rw [hrun]
  refine hc.mono fun e w' hr => ?_
  obtain ⟨v, rfl, hk⟩ := h e w' hr
  exact hk
theorem itemsF_len (l : List It) : (itemsF l).length ≤ 21 := by unfold itemsF; rw [List.length_map, List.length_take]; omega
theorem itemsF_small (l : List It) : ∀ x ∈ itemsF l, x.a.length ≤ 60 ∧ x.b.length ≤ 60 := fun x hx => by
  unfold itemsF at hx
  obtain ⟨y, _, rfl⟩ := List.mem_map.1 hx
  unfold cutIt
  simp only [List.length_take]
  omega
theorem toM_small (m : Mf) : SmallM (toM m) := ⟨by simp [toM]; omega, by simp [toM]; omega, fun k hk x hx => by
  match k, hk with
  | 0, _ => exact itemsF_small _ x hx
  | 1, _ => exact itemsF_small _ x hx
  | 2, _ => exact itemsF_small _ x hx
  | 3, _ => exact itemsF_small _ x hx⟩
theorem its_of {w w' : World} {base c : Nat} {A : Option Addr} {l : List It} (h : OwnI w base A (itemsF l).length c (itemsF l)) (hb : Below w.heap.size w w') : Its w' A (itemsF l).length (itemsF l) ∧ (itemsF l).length ≤ 1000000 ∧ (itemsF l).length ≤ c :=
  ⟨⟨(show OwnI w' base A _ c _ from own_below h hb).reads, fun x hx => by have := itemsF_small l x hx; omega⟩, by have := itemsF_len l; omega, (rowCap h).1⟩
def ToPost (w : World) (m : Mf) (e : Ending) (w' : World) : Prop :=
  Below w.heap.size w w' ∧ ∃ p s h k, e = .returned (mfV (toM m) p s h k) ∧ MfR w' (toM m) p s h k
set_option maxRecDepth 100000 in
set_option maxHeartbeats 32000000 in
theorem to_any (m : Mf) (p s h k : Hd) (w : World) (H : MfI w m p s h k) : Calls Tryd.prog 4 #[mfV m p s h k] w (ToPost w m) := by
  obtain ⟨pA, pn, pc⟩ := p
  obtain ⟨sA, sn, sc⟩ := s
  obtain ⟨hA, hn, hc⟩ := h
  obtain ⟨kA, kn, kc⟩ := k
  have HH := Sl.mk H
  have hpk := H.pk
  have HI0 := Sl.mk (fun (W : World) (hW : Below w.heap.size w W) => items_any pA pn pc m.p W H.pn.1 ((H.ip.below hW).more hW.size) (H.tx 0 (by decide)))
  have HI1 := Sl.mk (fun (W : World) (hW : Below w.heap.size w W) => items_any sA sn sc m.s W H.pn.2.1 ((H.iq.below hW).more hW.size) (H.tx 1 (by decide)))
  have HI2 := Sl.mk (fun (W : World) (hW : Below w.heap.size w W) => items_any hA hn hc m.h W H.pn.2.2.1 ((H.ir.below hW).more hW.size) (H.tx 2 (by decide)))
  have HI3 := Sl.mk (fun (W : World) (hW : Below w.heap.size w W) => items_any kA kn kc m.w W H.pn.2.2.2 ((H.iw.below hW).more hW.size) (H.tx 3 (by decide)))
  clear H
  have b2 := below_al (below_al (Below.refl w.heap.size w) (.cells #[.string (bsS m.pkg), .string (bsS m.pub), .int .i64 m.rev, .slice pA pn pc, .slice sA sn sc, .slice hA hn hc, .slice kA kn kc] 25)) (.cells #[.string ⟨#[]⟩, .string ⟨#[]⟩, .int .i64 0, .slice none 0 0, .slice none 0 0, .slice none 0 0, .slice none 0 0] 28)
  obtain ⟨w1, hw1⟩ : ∃ w1, w.alloc (.cells #[.string (bsS m.pkg), .string (bsS m.pub), .int .i64 m.rev, .slice pA pn pc, .slice sA sn sc, .slice hA hn hc, .slice kA kn kc] 25) = w1 := ⟨_, rfl⟩
  obtain ⟨w2, hw2⟩ : ∃ w2, w1.alloc (.cells #[.string ⟨#[]⟩, .string ⟨#[]⟩, .int .i64 0, .slice none 0 0, .slice none 0 0, .slice none 0 0, .slice none 0 0] 28) = w2 := ⟨_, rfl⟩
  rw [hw1, hw2] at b2
  have k1 : Blk w2 w.heap.size 25 #[.string (bsS m.pkg), .string (bsS m.pub), .int .i64 m.rev, .slice pA pn pc, .slice sA sn sc, .slice hA hn hc, .slice kA kn kc] := by rw [← hw2, ← hw1]; exact (Blk.new w _ _).alloc _
  have z1 : Blk w2 w1.heap.size 28 #[.string ⟨#[]⟩, .string ⟨#[]⟩, .int .i64 0, .slice none 0 0, .slice none 0 0, .slice none 0 0, .slice none 0 0] := by rw [← hw2]; exact Blk.new w1 _ _
  have HSZ := Sl.mk (show w1.heap.size = w.heap.size + 1 by rw [← hw1]; simp)
  obtain ⟨ka, hka⟩ : ∃ q : Nat, min (m.pkg.length : Int) 60 = q := ⟨(min (m.pkg.length : Int) 60).toNat, by omega⟩
  obtain ⟨kb, hkb⟩ : ∃ q : Nat, min (m.pub.length : Int) 60 = q := ⟨(min (m.pub.length : Int) 60).toNat, by omega⟩
  have hka1 : ka ≤ m.pkg.length := by omega
  have hkb1 : kb ≤ m.pub.length := by omega
  have eka : (bsS m.pkg).extract 0 ka = bsS (m.pkg.take 60) := by
    rw [bs_cut, List.drop_zero, Nat.sub_zero]
    rcases Nat.lt_or_ge m.pkg.length 60 with h | h
    · rw [List.take_of_length_le (by omega), List.take_of_length_le (by omega)]
    · rw [show ka = 60 by omega]
  have ekb : (bsS m.pub).extract 0 kb = bsS (m.pub.take 60) := by
    rw [bs_cut, List.drop_zero, Nat.sub_zero]
    rcases Nat.lt_or_ge m.pub.length 60 with h | h
    · rw [List.take_of_length_le (by omega), List.take_of_length_le (by omega)]
    · rw [show kb = 60 by omega]
  have hza := bs_size m.pkg
  have hzb := bs_size m.pub
  have HB2 := Sl.mk b2
  have HK2 := Sl.mk k1
  have HZ2 := Sl.mk z1
  clear b2 k1 z1
  unfold mfV
  simp only [Hd.v]
  go_enter Tryd.func4, Tryd.ntmps4
  go_upto_region 1 with fail
  clear hw1 hw2
  obtain ⟨wd, hwd⟩ : ∃ wd, w2.drew = wd := ⟨_, rfl⟩
  have HBd := Sl.mk (show Below w.heap.size w wd by rw [← hwd]; exact HB2.out.drew)
  have HKd := Sl.mk (show Blk wd w.heap.size 25 _ by rw [← hwd]; exact HK2.out.drew)
  have HZd := Sl.mk (show Blk wd w1.heap.size 28 _ by rw [← hwd]; exact HZ2.out.drew)
  have HSF : Sl (∀ W : World, Blk W w.heap.size 25 #[.string (bsS m.pkg), .string (bsS m.pub), .int .i64 m.rev, .slice pA pn pc, .slice sA sn sc, .slice hA hn hc, .slice kA kn kc] → W.cell? ⟨w.heap.size, 0, none⟩ = some (.string (bsS m.pkg)) ∧ (W.cell? ⟨w.heap.size, 1, none⟩ = some (.string (bsS m.pub)) ∧ W.cell? ⟨w.heap.size, 2, none⟩ = some (.int .i64 m.rev) ∧ W.cell? ⟨w.heap.size, 3, none⟩ = some (.slice pA pn pc) ∧ W.cell? ⟨w.heap.size, 4, none⟩ = some (.slice sA sn sc) ∧ W.cell? ⟨w.heap.size, 5, none⟩ = some (.slice hA hn hc) ∧ W.cell? ⟨w.heap.size, 6, none⟩ = some (.slice kA kn kc))) :=
    Sl.mk (fun W hW => ⟨hW.cell 0, hW.cell 1, hW.cell 2, hW.cell 3, hW.cell 4, hW.cell 5, hW.cell 6⟩)
  refine wp_region_X (fun W : World => Blk W w.heap.size 25 #[.string (bsS m.pkg), .string (bsS m.pub), .int .i64 m.rev, .slice pA pn pc, .slice sA sn sc, .slice hA hn hc, .slice kA kn kc]) [32, 33] (by kernel_rfl) (by rw [hwd]; exact HKd.out) (fun hS => ?_)
  rw [hwd] at hS ⊢
  clear hwd
  refine wpAnyX_S (i := 0) (v := ?_) rfl (by kernel_rfl) (by kernel_rfl) (by kernel_rfl) (by kernel_rfl) (fun _ _ _ h => h) (Or.inl ⟨by rfl, ?_⟩) hS ?_
  rotate_left 1
  · (intro w' hw'; (first | rw [hw'] | (have hw2 := HSF.out w' hw'; (try obtain ⟨hw2, hw3⟩ := hw2)) | skip); go_simp; (try with_reducible rfl))
  simp only [Act.put, List.setIfInBounds_toArray, List.set_cons_zero, List.set_cons_succ]
  refine wpAnyX_S (i := 1) (v := ?_) rfl (by kernel_rfl) (by kernel_rfl) (by kernel_rfl) (by kernel_rfl) (fun _ _ _ h => h) (Or.inl ⟨by rfl, ?_⟩) hS ?_
  rotate_left 1
  · (intro w' hw'; (first | rw [hw'] | (have hw2 := HSF.out w' hw'; (try obtain ⟨hw2, hw3⟩ := hw2)) | skip); go_simp; (try with_reducible rfl))
  simp only [Act.put, List.setIfInBounds_toArray, List.set_cons_zero, List.set_cons_succ]
  refine wpAnyX_S (i := 2) (v := ?_) rfl (by kernel_rfl) (by kernel_rfl) (by kernel_rfl) (by kernel_rfl) (fun _ _ _ h => h) (Or.inl ⟨by rfl, ?_⟩) hS ?_
  rotate_left 1
  · (intro w' hw'; (first | rw [hw'] | (have hw2 := HSF.out w' hw'; (try obtain ⟨hw2, hw3⟩ := hw2)) | skip); go_simp; (try with_reducible rfl))
  simp only [Act.put, List.setIfInBounds_toArray, List.set_cons_zero, List.set_cons_succ]
  refine wpAnyX_S (i := 3) (v := ?_) rfl (by kernel_rfl) (by kernel_rfl) (by kernel_rfl) (by kernel_rfl) (fun _ _ _ h => h) (Or.inl ⟨by rfl, ?_⟩) hS ?_
  rotate_left 1
  · (intro w' hw'; (first | rw [hw'] | (have hw2 := HSF.out w' hw'; (try obtain ⟨hw2, hw3⟩ := hw2)) | skip); go_simp; (try with_reducible rfl))
  simp only [Act.put, List.setIfInBounds_toArray, List.set_cons_zero, List.set_cons_succ]
  refine wpAnyX_S (i := 4) (v := ?_) rfl (by kernel_rfl) (by kernel_rfl) (by kernel_rfl) (by kernel_rfl) (fun _ _ _ h => h) (Or.inl ⟨by rfl, ?_⟩) hS ?_
  rotate_left 1
  · (intro w' hw'; (first | rw [hw'] | (have hw2 := HSF.out w' hw'; (try obtain ⟨hw2, hw3⟩ := hw2)) | skip); go_simp; (try with_reducible rfl))
  simp only [Act.put, List.setIfInBounds_toArray, List.set_cons_zero, List.set_cons_succ]
  refine wpAnyX_S (i := 5) (v := ?_) rfl (by kernel_rfl) (by kernel_rfl) (by kernel_rfl) (by kernel_rfl) (fun _ _ _ h => h) (Or.inl ⟨by rfl, ?_⟩) hS ?_
  rotate_left 1
  · (intro w' hw'; (first | rw [hw'] | (have hw2 := HSF.out w' hw'; (try obtain ⟨hw2, hw3⟩ := hw2)) | skip); go_simp; (try with_reducible rfl))
  simp only [Act.put, List.setIfInBounds_toArray, List.set_cons_zero, List.set_cons_succ]
  refine wpAnyX_S (i := 6) (v := ?_) rfl (by kernel_rfl) (by kernel_rfl) (by kernel_rfl) (by kernel_rfl) (fun _ _ _ h => h) (Or.inl ⟨by rfl, ?_⟩) hS ?_
  rotate_left 1
  · (intro w' hw'; (first | rw [hw'] | (have hw2 := HSF.out w' hw'; (try obtain ⟨hw2, hw3⟩ := hw2)) | skip); go_simp; (try with_reducible rfl))
  simp only [Act.put, List.setIfInBounds_toArray, List.set_cons_zero, List.set_cons_succ]
  refine wpAnyX_S (i := 7) (v := ?_) rfl (by kernel_rfl) (by kernel_rfl) (by kernel_rfl) (by kernel_rfl) (fun _ _ _ h => h) (Or.inl ⟨by rfl, ?_⟩) hS ?_
  rotate_left 1
  · (intro w' hw'; (first | rw [hw'] | (have hw2 := HSF.out w' hw'; (try obtain ⟨hw2, hw3⟩ := hw2)) | skip); go_simp; (try with_reducible rfl))
  simp only [Act.put, List.setIfInBounds_toArray, List.set_cons_zero, List.set_cons_succ]
  refine wpAnyX_S (i := 8) (v := ?_) rfl (by kernel_rfl) (by kernel_rfl) (by kernel_rfl) (by kernel_rfl) (fun _ _ _ h => h) (Or.inl ⟨by rfl, ?_⟩) hS ?_
  rotate_left 1
  · (intro w' hw'; (first | rw [hw'] | (have hw2 := HSF.out w' hw'; (try obtain ⟨hw2, hw3⟩ := hw2)) | skip); go_simp; (try with_reducible rfl))
  simp only [Act.put, List.setIfInBounds_toArray, List.set_cons_zero, List.set_cons_succ]
  refine wpAnyX_S (i := 9) (v := ?_) rfl (by kernel_rfl) (by kernel_rfl) (by kernel_rfl) (by kernel_rfl) (fun _ _ _ h => h) (Or.inl ⟨by rfl, ?_⟩) hS ?_
  rotate_left 1
  · (intro w' hw'; (first | rw [hw'] | (have hw2 := HSF.out w' hw'; (try obtain ⟨hw2, hw3⟩ := hw2)) | skip); go_simp; (try with_reducible rfl))
  simp only [Act.put, List.setIfInBounds_toArray, List.set_cons_zero, List.set_cons_succ]
  refine wpAnyX_S (i := 10) (v := ?_) rfl (by kernel_rfl) (by kernel_rfl) (by kernel_rfl) (by kernel_rfl) (fun _ _ _ h => h) (Or.inl ⟨by rfl, ?_⟩) hS ?_
  rotate_left 1
  · (intro w' hw'; (first | rw [hw'] | (have hw2 := HSF.out w' hw'; (try obtain ⟨hw2, hw3⟩ := hw2)) | skip); go_simp; (try with_reducible rfl))
  simp only [Act.put, List.setIfInBounds_toArray, List.set_cons_zero, List.set_cons_succ]
  refine wpAnyX_S (i := 11) (v := ?_) rfl (by kernel_rfl) (by kernel_rfl) (by kernel_rfl) (by kernel_rfl) (fun _ _ _ h => h) (Or.inl ⟨by rfl, ?_⟩) hS ?_
  rotate_left 1
  · (intro w' hw'; (first | rw [hw'] | (have hw2 := HSF.out w' hw'; (try obtain ⟨hw2, hw3⟩ := hw2)) | skip); go_simp; (try with_reducible rfl))
  simp only [Act.put, List.setIfInBounds_toArray, List.set_cons_zero, List.set_cons_succ]
  refine wpAnyX_S (i := 12) (v := ?_) rfl (by kernel_rfl) (by kernel_rfl) (by kernel_rfl) (by kernel_rfl) (fun _ _ _ h => h) (Or.inl ⟨by rfl, ?_⟩) hS ?_
  rotate_left 1
  · (intro w' hw'; (first | rw [hw'] | (have hw2 := HSF.out w' hw'; (try obtain ⟨hw2, hw3⟩ := hw2)) | skip); go_simp; (try with_reducible rfl))
  simp only [Act.put, List.setIfInBounds_toArray, List.set_cons_zero, List.set_cons_succ]
  refine wpAnyX_S (i := 13) (v := ?_) rfl (by kernel_rfl) (by kernel_rfl) (by kernel_rfl) (by kernel_rfl) (fun _ _ _ h => h) (Or.inl ⟨by rfl, ?_⟩) hS ?_
  rotate_left 1
  · (intro w' hw'; (first | rw [hw'] | (have hw2 := HSF.out w' hw'; (try obtain ⟨hw2, hw3⟩ := hw2)) | skip); go_simp; (try with_reducible rfl))
  simp only [Act.put, List.setIfInBounds_toArray, List.set_cons_zero, List.set_cons_succ]
  refine wpAnyX_S (i := 14) (v := ?_) rfl (by kernel_rfl) (by kernel_rfl) (by kernel_rfl) (by kernel_rfl) (fun _ _ _ h => h) (Or.inl ⟨by rfl, ?_⟩) hS ?_
  rotate_left 1
  · (intro w' hw'; (first | rw [hw'] | (have hw2 := HSF.out w' hw'; (try obtain ⟨hw2, hw3⟩ := hw2)) | skip); go_simp; (try with_reducible rfl))
  simp only [Act.put, List.setIfInBounds_toArray, List.set_cons_zero, List.set_cons_succ]
  refine wpAnyX_S (i := 15) (v := ?_) rfl (by kernel_rfl) (by kernel_rfl) (by kernel_rfl) (by kernel_rfl) (fun _ _ _ h => h) (Or.inl ⟨by rfl, ?_⟩) hS ?_
  rotate_left 1
  · (intro w' hw'; (first | rw [hw'] | (have hw2 := HSF.out w' hw'; (try obtain ⟨hw2, hw3⟩ := hw2)) | skip); go_simp; (try with_reducible rfl))
  simp only [Act.put, List.setIfInBounds_toArray, List.set_cons_zero, List.set_cons_succ]
  refine wpAnyX_S (i := 16) (v := ?_) rfl (by kernel_rfl) (by kernel_rfl) (by kernel_rfl) (by kernel_rfl) (fun _ _ _ h => h) (Or.inl ⟨by rfl, ?_⟩) hS ?_
  rotate_left 1
  · (intro w' hw'; (first | rw [hw'] | (have hw2 := HSF.out w' hw'; (try obtain ⟨hw2, hw3⟩ := hw2)) | skip); go_simp; (try with_reducible rfl))
  simp only [Act.put, List.setIfInBounds_toArray, List.set_cons_zero, List.set_cons_succ]
  refine wpAnyX_S (i := 17) (v := ?_) rfl (by kernel_rfl) (by kernel_rfl) (by kernel_rfl) (by kernel_rfl) (fun _ _ _ h => h) (Or.inl ⟨by rfl, ?_⟩) hS ?_
  rotate_left 1
  · (intro w' hw'; (first | rw [hw'] | (have hw2 := HSF.out w' hw'; (try obtain ⟨hw2, hw3⟩ := hw2)) | skip); go_simp; (try with_reducible rfl))
  simp only [Act.put, List.setIfInBounds_toArray, List.set_cons_zero, List.set_cons_succ]
  refine wpAnyX_S (i := 18) (v := ?_) rfl (by kernel_rfl) (by kernel_rfl) (by kernel_rfl) (by kernel_rfl) (fun _ _ _ h => h) (Or.inl ⟨by rfl, ?_⟩) hS ?_
  rotate_left 1
  · (intro w' hw'; (first | rw [hw'] | (have hw2 := HSF.out w' hw'; (try obtain ⟨hw2, hw3⟩ := hw2)) | skip); go_simp; (try with_reducible rfl))
  simp only [Act.put, List.setIfInBounds_toArray, List.set_cons_zero, List.set_cons_succ]
  refine wpAnyX_S (i := 20) (v := ?_) rfl (by kernel_rfl) (by kernel_rfl) (by kernel_rfl) (by kernel_rfl) (fun _ _ _ h => h) (Or.inl ⟨by rfl, ?_⟩) hS ?_
  rotate_left 1
  · (intro w' hw'; (first | rw [hw'] | (have hw2 := HSF.out w' hw'; (try obtain ⟨hw2, hw3⟩ := hw2)) | skip); go_simp; (try with_reducible rfl))
  simp only [Act.put, List.setIfInBounds_toArray, List.set_cons_zero, List.set_cons_succ]
  refine wpAnyX_S (i := 21) (v := ?_) rfl (by kernel_rfl) (by kernel_rfl) (by kernel_rfl) (by kernel_rfl) (fun _ _ _ h => h) (Or.inl ⟨by rfl, ?_⟩) hS ?_
  rotate_left 1
  · (intro w' hw'; (first | rw [hw'] | (have hw2 := HSF.out w' hw'; (try obtain ⟨hw2, hw3⟩ := hw2)) | skip); go_simp; (try with_reducible rfl))
  simp only [Act.put, List.setIfInBounds_toArray, List.set_cons_zero, List.set_cons_succ]
  refine wpAnyX_S (i := 22) (v := ?_) rfl (by kernel_rfl) (by kernel_rfl) (by kernel_rfl) (by kernel_rfl) (fun _ _ _ h => h) (Or.inl ⟨by rfl, ?_⟩) hS ?_
  rotate_left 1
  · (intro w' hw'; (first | rw [hw'] | (have hw2 := HSF.out w' hw'; (try obtain ⟨hw2, hw3⟩ := hw2)) | skip); go_simp; (try with_reducible rfl))
  simp only [Act.put, List.setIfInBounds_toArray, List.set_cons_zero, List.set_cons_succ]
  refine wpAnyX_S (i := 24) (v := ?_) rfl (by kernel_rfl) (by kernel_rfl) (by kernel_rfl) (by kernel_rfl) (fun _ _ _ h => h) (Or.inl ⟨by rfl, ?_⟩) hS ?_
  rotate_left 1
  · (intro w' hw'; (first | rw [hw'] | (have hw2 := HSF.out w' hw'; (try obtain ⟨hw2, hw3⟩ := hw2)) | skip); go_simp; (try with_reducible rfl))
  simp only [Act.put, List.setIfInBounds_toArray, List.set_cons_zero, List.set_cons_succ]
  refine wpAnyX_S (i := 25) (v := ?_) rfl (by kernel_rfl) (by kernel_rfl) (by kernel_rfl) (by kernel_rfl) (fun _ _ _ h => h) (Or.inl ⟨by rfl, ?_⟩) hS ?_
  rotate_left 1
  · (intro w' hw'; (first | rw [hw'] | (have hw2 := HSF.out w' hw'; (try obtain ⟨hw2, hw3⟩ := hw2)) | skip); go_simp; (try with_reducible rfl))
  simp only [Act.put, List.setIfInBounds_toArray, List.set_cons_zero, List.set_cons_succ]
  refine wpAnyX_S (i := 26) (v := ?_) rfl (by kernel_rfl) (by kernel_rfl) (by kernel_rfl) (by kernel_rfl) (fun _ _ _ h => h) (Or.inl ⟨by rfl, ?_⟩) hS ?_
  rotate_left 1
  · (intro w' hw'; (first | rw [hw'] | (have hw2 := HSF.out w' hw'; (try obtain ⟨hw2, hw3⟩ := hw2)) | skip); go_simp; (try with_reducible rfl))
  simp only [Act.put, List.setIfInBounds_toArray, List.set_cons_zero, List.set_cons_succ]
  refine wpAnyX_S (i := 28) (v := ?_) rfl (by kernel_rfl) (by kernel_rfl) (by kernel_rfl) (by kernel_rfl) (fun _ _ _ h => h) (Or.inl ⟨by rfl, ?_⟩) hS ?_
  rotate_left 1
  · (intro w' hw'; (first | rw [hw'] | (have hw2 := HSF.out w' hw'; (try obtain ⟨hw2, hw3⟩ := hw2)) | skip); go_simp; (try with_reducible rfl))
  simp only [Act.put, List.setIfInBounds_toArray, List.set_cons_zero, List.set_cons_succ]
  refine wpAnyX_S (i := 29) (v := ?_) rfl (by kernel_rfl) (by kernel_rfl) (by kernel_rfl) (by kernel_rfl) (fun _ _ _ h => h) (Or.inl ⟨by rfl, ?_⟩) hS ?_
  rotate_left 1
  · (intro w' hw'; (first | rw [hw'] | (have hw2 := HSF.out w' hw'; (try obtain ⟨hw2, hw3⟩ := hw2)) | skip); go_simp; (try with_reducible rfl))
  simp only [Act.put, List.setIfInBounds_toArray, List.set_cons_zero, List.set_cons_succ]
  refine wpAnyX_S (i := 30) (v := ?_) rfl (by kernel_rfl) (by kernel_rfl) (by kernel_rfl) (by kernel_rfl) (fun _ _ _ h => h) (Or.inl ⟨by rfl, ?_⟩) hS ?_
  rotate_left 1
  · (intro w' hw'; (first | rw [hw'] | (have hw2 := HSF.out w' hw'; (try obtain ⟨hw2, hw3⟩ := hw2)) | skip); go_simp; (try with_reducible rfl))
  simp only [Act.put, List.setIfInBounds_toArray, List.set_cons_zero, List.set_cons_succ]
  refine wpAnyX_oneL (k := 19) rfl (by kernel_rfl) rfl ?_
  refine wp_of_callZ (f := 10) (args := #[.slice pA pn pc]) (by go_simp) (HI0.out wd HBd.out) (fun e v1 hq => ?_)
  obtain ⟨x1, A0, d0, rfl, o0⟩ := hq
  have HB3 := Sl.mk (HBd.out.trans (x1.mono HBd.out.size))
  refine ⟨_, rfl, fun _ => hS.be x1, ?_⟩
  simp only [Act.put, List.setIfInBounds_toArray, List.set_cons_zero, List.set_cons_succ]
  refine wpAnyX_oneL (k := 23) rfl (by kernel_rfl) rfl ?_
  refine wp_of_callZ (f := 10) (args := #[.slice sA sn sc]) (by go_simp) (HI1.out v1 HB3.out) (fun e v2 hq => ?_)
  obtain ⟨x2, A1, d1, rfl, o1⟩ := hq
  have HB4 := Sl.mk (HB3.out.trans (x2.mono HB3.out.size))
  refine ⟨_, rfl, fun _ => (hS.be x1).be x2, ?_⟩
  simp only [Act.put, List.setIfInBounds_toArray, List.set_cons_zero, List.set_cons_succ]
  refine wpAnyX_oneL (k := 27) rfl (by kernel_rfl) rfl ?_
  refine wp_of_callZ (f := 10) (args := #[.slice hA hn hc]) (by go_simp) (HI2.out v2 HB4.out) (fun e v3 hq => ?_)
  obtain ⟨x3, A2, d2, rfl, o2⟩ := hq
  have HB5 := Sl.mk (HB4.out.trans (x3.mono HB4.out.size))
  refine ⟨_, rfl, fun _ => ((hS.be x1).be x2).be x3, ?_⟩
  simp only [Act.put, List.setIfInBounds_toArray, List.set_cons_zero, List.set_cons_succ]
  refine wpAnyX_oneL (k := 31) rfl (by kernel_rfl) rfl ?_
  refine wp_of_callZ (f := 10) (args := #[.slice kA kn kc]) (by go_simp) (HI3.out v3 HB5.out) (fun e v4 hq => ?_)
  obtain ⟨x4, A3, d3, rfl, o3⟩ := hq
  have HB6 := Sl.mk (HB5.out.trans (x4.mono HB5.out.size))
  refine ⟨_, rfl, fun _ => (((hS.be x1).be x2).be x3).be x4, ?_⟩
  simp only [Act.put, List.setIfInBounds_toArray, List.set_cons_zero, List.set_cons_succ]
  have HZ6 := Sl.mk ((((HZd.out.be x1).be x2).be x3).be x4)
  have x12 := below_tr x2 (below_tr x3 x4)
  have x23 := below_tr x3 x4
  have lt0 := HZd.out.lt
  have t1 := x1.size
  have t2 := x2.size
  have t3 := x3.size
  have HF := Sl.mk (fun (W : World) (hg : v4.grownBy W (some w1.heap.size)) => show MfR W (toM m) ⟨A0, (itemsF m.p).length, d0⟩ ⟨A1, (itemsF m.s).length, d1⟩ ⟨A2, (itemsF m.h).length, d2⟩ ⟨A3, (itemsF m.w).length, d3⟩ by
    have r0 := its_of (World.ownsRow.kept (own_below o0 x12) hg (.inr fun e => by have := ownGe o0 e; omega)) (Below.refl _ _)
    have r1 := its_of (World.ownsRow.kept (own_below o1 x23) hg (.inr fun e => by have := ownGe o1 e; omega)) (Below.refl _ _)
    have r2 := its_of (World.ownsRow.kept (own_below o2 x4) hg (.inr fun e => by have := ownGe o2 e; omega)) (Below.refl _ _)
    have r3 := its_of (World.ownsRow.kept o3 hg (.inr fun e => by have := ownGe o3 e; omega)) (Below.refl _ _)
    have hsm := toM_small m
    exact ⟨r0.1, r1.1, r2.1, r3.1, r0.2, r1.2, r2.2, r3.2, Nat.le_trans hsm.pkg (by decide), Nat.le_trans hsm.pub (by decide)⟩)
  clear o0 o1 o2 o3 x1 x2 x3 x4 x12 x23 t1 t2 t3 lt0 hS HSF
  refine wpAnyX_tailF [32, 33] (by kernel_rfl) (by rfl) (by rfl) (by rfl) ?_
  simp only [List.filterMap_cons, List.filterMap_nil, List.getElem?_cons_succ, List.getElem?_cons_zero]
  have g0 : v4.cell? ⟨w1.heap.size, 0, none⟩ = some (.string ⟨#[]⟩) := HZ6.out.cell 0
  have f0 := HZ6.out.frozen 0
  have g1 : v4.cell? ⟨w1.heap.size, 1, none⟩ = some (.string ⟨#[]⟩) := HZ6.out.cell 1
  have f1 := HZ6.out.frozen 1
  have g2 : v4.cell? ⟨w1.heap.size, 2, none⟩ = some (.int .i64 0) := HZ6.out.cell 2
  have f2 := HZ6.out.frozen 2
  have g3 : v4.cell? ⟨w1.heap.size, 3, none⟩ = some (.slice none 0 0) := HZ6.out.cell 3
  have f3 := HZ6.out.frozen 3
  have g4 : v4.cell? ⟨w1.heap.size, 4, none⟩ = some (.slice none 0 0) := HZ6.out.cell 4
  have f4 := HZ6.out.frozen 4
  have g5 : v4.cell? ⟨w1.heap.size, 5, none⟩ = some (.slice none 0 0) := HZ6.out.cell 5
  have f5 := HZ6.out.frozen 5
  have g6 : v4.cell? ⟨w1.heap.size, 6, none⟩ = some (.slice none 0 0) := HZ6.out.cell 6
  have f6 := HZ6.out.frozen 6
  have HB5 := Sl.mk (Blk.set_ ((Blk.set_ ((Blk.set_ ((Blk.set_ ((Blk.set_ ((Blk.set_ ((Blk.set_ (HZ6.out) 0 (.string (bsS (m.pkg.take 60))))) 1 (.string (bsS (m.pub.take 60))))) 2 (.int .i64 m.rev))) 3 (.slice A0 (itemsF m.p).length d0))) 4 (.slice A1 (itemsF m.s).length d1))) 5 (.slice A2 (itemsF m.h).length d2))) 6 (.slice A3 (itemsF m.w).length d3))
  have HG5 := Sl.mk (only_setCell ((only_setCell ((only_setCell ((only_setCell ((only_setCell ((only_setCell ((only_setCell (only_refl v4 (some w1.heap.size)) 0 (.string (bsS (m.pkg.take 60))))) 1 (.string (bsS (m.pub.take 60))))) 2 (.int .i64 m.rev))) 3 (.slice A0 (itemsF m.p).length d0))) 4 (.slice A1 (itemsF m.s).length d1))) 5 (.slice A2 (itemsF m.h).length d2))) 6 (.slice A3 (itemsF m.w).length d3))
  have HF5 := Sl.mk (HF.out _ HG5.out)
  have HB7 := Sl.mk (HB6.out.trans ((Below.refl w.heap.size v4).grown HG5.out HB6.out.size (fun g hg => by injection hg with hg; have := HSZ.out; omega)))
  go_wp2_with fail
  refine NoPanic.normal ?_
  go_wp2_with fail
  refine bodyPost_ret (v := mfV (toM m) ⟨A0, (itemsF m.p).length, d0⟩ ⟨A1, (itemsF m.s).length, d1⟩ ⟨A2, (itemsF m.h).length, d2⟩ ⟨A3, (itemsF m.w).length, d3⟩) (results_cell_row Tryd.results4 _ _ w1.heap.size 28 (mfC (toM m) ⟨A0, (itemsF m.p).length, d0⟩ ⟨A1, (itemsF m.s).length, d1⟩ ⟨A2, (itemsF m.h).length, d2⟩ ⟨A3, (itemsF m.w).length, d3⟩).toArray (0, 0) _ rfl HB5.out Tryd.underlying28 rfl (by rw [mfSize]; rfl)) rfl ?_
  exact ⟨HB7.out, _, _, _, _, rfl, HF5.out⟩
end Go.Proofs.YtmgblbkmbiiofaaDoor

namespace Go.Proofs.YtmgblbkmbiiofaaDoor
open Go.RowKit
attribute [local go_sem ↓] Go.wp_at_zero Go.wp_at_succ
set_option linter.unusedVariables false

/-! ### Rows -/
def lsR (m : Mf) (k : Nat) : List Bs := (List.range k).flatMap fun j => (m.at j).map (itL (wl.getD j []))
def rowsT (m : Mf) (k j : Nat) : List Bs := [sp2 hw0 m.pkg, sp2 hw1 m.pub, sp2 hw2 (Lib.itoa m.rev)] ++ lsR m k ++ ((m.at k).take j).map (itL (wl.getD k []))
theorem rowsT_next {m : Mf} {k j : Nat} {x : It} (hx : (m.at k)[j]? = some x) : rowsT m k (j + 1) = rowsT m k j ++ [itL (wl.getD k []) x] := by
  unfold rowsT
  rw [take_snoc' hx]
  simp
theorem rowsT_list (m : Mf) (k : Nat) : rowsT m (k + 1) 0 = rowsT m k (m.at k).length := by
  unfold rowsT lsR
  rw [List.range_succ, List.flatMap_append, List.take_length]
  simp
theorem rowsT_end (m : Mf) : rowsT m 4 0 = bodyL m := by
  unfold rowsT lsR bodyL rowsM
  rw [show List.range 4 = [0, 1, 2, 3] from rfl]
  simp [Mf.at, wl]
theorem rowsT_zero (m : Mf) : rowsT m 0 0 = [sp2 hw0 m.pkg, sp2 hw1 m.pub, sp2 hw2 (Lib.itoa m.rev)] := by
  unfold rowsT lsR
  simp
theorem endL_snoc (L : List Bs) (x : Bs) : endL (L ++ [x]) = endL L ++ x ++ [10] := by simp [endL]
theorem nm_len {s : Bs} (h : nmL s = true) : s.length ≤ 24 := by
  unfold nmL nameB at h
  simp only [Bool.and_eq_true, decide_eq_true_eq, bs_size] at h
  exact h.1.1.1.2
theorem pa_len {s : Bs} (h : paE s = 0) : s.length ≤ 160 := by
  unfold paE parseE at h
  split at h
  · cases h
  · rename_i h1
    rw [bs_size] at h1
    omega
theorem key_len {s : Bs} (h : keyM s = true) : s.length ≤ 49 := by
  unfold keyM at h
  simp only [Bool.and_eq_true] at h
  have h1 := nm_len h.1.2
  have h2 := nm_len h.2
  have h3 := h.1.1
  unfold Lib.cut at h1 h2 h3
  split at h3
  · rename_i h0
    rw [if_pos h0] at h1 h2
    simp only [List.length_take, List.length_drop, List.length_singleton] at h1 h2
    omega
  · cases h3
theorem right_len {k : Nat} {x : It} (h : rightM k x = true) : x.a.length ≤ 160 ∧ x.b.length ≤ 160 := by
  have hw : ∀ w ∈ evL ++ gpL ++ rwL, w.length ≤ 160 := by decide
  unfold rightM at h
  split at h
  · simp only [Bool.and_eq_true] at h
    have h1 := nm_len h.1
    have h2 := nm_len h.2
    omega
  · split at h
    · simp only [Bool.and_eq_true, beq_iff_eq, List.contains_iff_mem] at h
      exact ⟨hw _ (by simp [h.1]), pa_len h.2.1⟩
    · split at h
      · rename_i h3
        rw [List.contains_iff_mem] at h3
        have := key_len h
        exact ⟨hw _ (by simp [h3]), by omega⟩
      · simp only [Bool.and_eq_true, beq_iff_eq, List.contains_iff_mem] at h
        exact ⟨hw _ (by simp [h.1]), pa_len h.2⟩
theorem RightM.each {m : Mf} (h : RightM m) : ∀ k, k < 4 → ∀ x ∈ m.at k, rightM k x = true := fun k hk => by
  match k, hk with
  | 0, _ => exact ((each_zero 0 _ _).1 h.p).1
  | 1, _ => exact ((each_zero 1 _ _).1 h.s).1
  | 2, _ => exact ((each_zero 2 _ _).1 h.h).1
  | 3, _ => exact ((each_zero 3 _ _).1 h.w).1
theorem row_len {m : Mf} (h : RightM m) {k : Nat} (hk : k < 4) {x : It} (hx : x ∈ m.at k) : (itL (wl.getD k []) x).length ≤ 326 := by
  obtain ⟨h1, h2⟩ := right_len (h.each k hk x hx)
  have : ∀ k, k < 4 → (wl.getD k []).length ≤ 4 := by decide
  have := this k hk
  unfold itL
  simp only [List.length_append, List.length_cons]
  omega
theorem head_lens {m : Mf} (h : RightM m) : (sp2 hw0 m.pkg).length ≤ 326 ∧ (sp2 hw1 m.pub).length ≤ 326 ∧ (sp2 hw2 (Lib.itoa m.rev)).length ≤ 326 := by
  have h1 := nm_len h.pkg
  have h2 := nm_len h.pub
  obtain ⟨n, hn, hn2, _⟩ := h.rev
  have h3 : (Lib.decDigits n).length ≤ 6 := by rw [Lib.decDigits_length]; exact nDig_leM 5 n (by omega)
  rw [hn, itoa_natM]
  refine ⟨?_, ?_, ?_⟩ <;> (unfold sp2; simp [hw0, hw1, hw2]; omega)
theorem rowsT_len {m : Mf} (h : RightM m) {k j : Nat} (hk : k ≤ 4) (hj : k = 4 → j = 0) : (endL (rowsT m k j)).length ≤ 1000 * 327 := by
  have h1 : ∀ x ∈ rowsT m k j, x.length ≤ 326 := fun x hx => by
    obtain ⟨a, b, c⟩ := head_lens h
    unfold rowsT lsR at hx
    simp only [List.mem_append, List.mem_cons, List.not_mem_nil, or_false, List.mem_flatMap, List.mem_map, List.mem_range] at hx
    rcases hx with ((rfl | rfl | rfl) | ⟨i, hi, y, hy, rfl⟩) | ⟨y, hy, rfl⟩
    · exact a
    · exact b
    · exact c
    · exact row_len h (by omega) hy
    · rcases Nat.lt_or_ge k 4 with h4 | h4
      · exact row_len h h4 (List.mem_of_mem_take hy)
      · rw [hj (by omega)] at hy
        simp at hy
  have h2 : ∀ i, i < 4 → (m.at i).length ≤ 20 := fun i hi => by
    have := h.len
    match i, hi with
    | 0, _ => show m.p.length ≤ 20; omega
    | 1, _ => show m.s.length ≤ 20; omega
    | 2, _ => show m.h.length ≤ 20; omega
    | 3, _ => show m.w.length ≤ 20; omega
  have h3 : ∀ n, n ≤ 4 → (lsR m n).length ≤ n * 20 := by
    intro n
    induction n with
    | zero => intro _; simp [lsR]
    | succ n ih =>
      intro hn
      have h4 := ih (by omega)
      have h5 := h2 n (by omega)
      unfold lsR at h4 ⊢
      rw [List.range_succ, List.flatMap_append, List.length_append]
      simp only [List.flatMap_cons, List.flatMap_nil, List.append_nil, List.length_map]
      omega
  have h4 : (rowsT m k j).length ≤ 1000 := by
    unfold rowsT
    have h5 := h3 k hk
    simp only [List.length_append, List.length_cons, List.length_nil, List.length_map, List.length_take]
    rcases Nat.lt_or_ge k 4 with h6 | h6
    · have := h2 k h6
      omega
    · have := hj (by omega)
      omega
  exact Nat.le_trans (endL_len _ h1) (Nat.mul_le_mul_right _ h4)
theorem join_two (a b : Bs) : Lib.join [a, b] [32] = sp2 a b := by rw [Lib.join_cons]; simp [Lib.joinTail, sp2]
theorem join_three (a b c : Bs) : Lib.join [a, b, c] [32] = itL a ⟨b, c⟩ := by rw [Lib.join_cons]; simp [Lib.joinTail, itL]

/-! ### A line -/
def Bdr (w : World) (bb : Nat) (t : Bs) : Prop := Lib.IsBuilder 45 5 bb bb (Lib.byteCells t) w
theorem Bdr.be {w w' : World} {bb : Nat} {t : Bs} (h : Bdr w bb t) (hb : Below w.heap.size w w') : Bdr w' bb t := by
  rcases h with ⟨hB, v, hbk, hown, hne⟩ | ⟨hB, v, hbk, hown, hne⟩
  · exact .inl ⟨hB, v, (hb.block bb (block_in hbk)).trans hbk, own_below hown hb, hne⟩
  · exact .inr ⟨hB, v, (hb.block bb (block_in hbk)).trans hbk, own_below hown hb, hne⟩
theorem Bdr.lt {w : World} {bb : Nat} {t : Bs} (h : Bdr w bb t) : bb < w.heap.size := by
  rcases h with ⟨_, v, hbk, _⟩ | ⟨_, v, hbk, _⟩ <;> exact block_in hbk
theorem others_be {w w' : World} {b : Nat} (hb : Below w.heap.size w w') : Lib.OthersKept 5 (some b) w w' := fun k o hk _ _ => (hb.block k (block_in hk)).trans hk
def LinePost (bb : Nat) (t r : Bs) (w : World) (e : Ending) (w' : World) : Prop :=
  e = .returned (.tuple #[]) ∧ Bdr w' bb (t ++ r ++ [10]) ∧ Below bb w w' ∧ Lib.OthersKept 5 (some bb) w w'
set_option maxRecDepth 100000 in
set_option maxHeartbeats 2000000 in
theorem line_any (bb gw : Nat) (t : Bs) (ws : List Bs) (w : World) (h : Bdr w bb t) (hW : Blk w gw 9 (strsA ws).toArray) (hn : ws.length ≤ 1000) (hlen : t.length + (Lib.join ws [32]).length + 1 ≤ 1000000) :
    Calls Tryd.prog 12 #[.slice (some ⟨gw, 0, none⟩) ws.length ws.length, .pointer (some ⟨bb, 0, none⟩)] w (LinePost bb t (Lib.join ws [32]) w) := by
  have HJ := Sl.mk (strings_Join gw 0 ws.length (ws.map bsS) (bsS [32]) w (fun j x hj => by
    rw [List.getElem?_map] at hj
    rw [Nat.zero_add, hW.cell j]
    cases hs : ws[j]? with
    | none => rw [hs] at hj; cases hj
    | some y => rw [hs] at hj; simp at hj; subst hj; simp [strsA, hs]) hW.lt (by simp; omega) (by simp) (by
      rw [List.map_map]
      rw [show ((fun x : ByteArray => x.data.toList) ∘ bsS) = id from rfl, List.map_id]
      show (Lib.join ws [32]).length ≤ _
      omega))
  rw [List.map_map, show ((fun x : ByteArray => x.data.toList) ∘ bsS) = id from rfl, List.map_id, List.length_map] at HJ
  obtain ⟨J, hJ⟩ : ∃ J, Lib.join ws [32] = J := ⟨_, rfl⟩
  have HJ2 : Sl (Calls Tryd.prog 14 #[.slice (some ⟨gw, 0, none⟩) ws.length ws.length, .string (bsS [32])] w fun e w' => e = .returned (.string (bsS J)) ∧ Below w.heap.size w w') := ⟨by rw [← hJ]; exact HJ.out⟩
  rw [hJ] at hlen ⊢
  have hz := bs_size J
  have hap : bsS J ++ ⟨#[10]⟩ = bsS (J ++ [10]) := bs_app J [10]
  have HB := Sl.mk h
  clear hJ HJ hW h
  go_enter Tryd.func12, Tryd.ntmps12
  go_wp2_with fail
  refine HJ2.out.mono ?_
  rintro e w1 ⟨rfl, hb1⟩
  have HW := Sl.mk (wstring_any bb bb (Lib.byteCells t) (bsS (J ++ [10])) w1 (HB.out.be hb1) (by rw [Lib.byteCells_length, bs_size]; simp; omega) (Nat.le_of_lt (HB.out.be hb1).lt))
  have HB1 := Sl.mk hb1
  have HL := Sl.mk HB.out.lt
  clear hb1
  go_wp2_with fail
  refine HW.out.mono ?_
  rintro e w2 ⟨rfl, hb2, hbl, hk⟩
  have HR := Sl.mk (show LinePost bb t J w (.returned (.tuple #[])) w2 from ⟨rfl, .inr (by
    rw [List.append_assoc, Lib.byteCells_append]
    exact hb2), (HB1.out.mono (Nat.le_of_lt HL.out)).trans hbl, (others_be HB1.out).trans hk⟩)
  clear hb2 hbl hk
  go_wp2_with fail
  go_end0
  exact HR.out
end Go.Proofs.YtmgblbkmbiiofaaDoor
