/-
  The contract of creellaw13's Of: the walk.
-/
import Derived.Test.YtmgblbkmbiiofaaDoorMd15

namespace Go.Proofs.YtmgblbkmbiiofaaDoor
open Go.RowKit
attribute [local go_sem ↓] Go.wp_at_zero Go.wp_at_succ
set_option linter.unusedVariables false
set_option linter.unusedSimpArgs false

theorem ld_rm {ops : Array Oper} {rest : List Oper} {op : Oper} {a : Act} {w : World} {Q : Exit → Act → World → Prop} {ad : Addr} {m : Mf} {p q r t : Hd} (hc : ∀ (j : Nat) v, (mfC m p q r t)[j]? = some v → w.cell? (ad.add j) = some v) (hgd : op.guard = none) (y : Operand) (ho : op.op = .load 25 y) (hy : a.eval y = .pointer (some ad))
    (h : wpList Tryd.prog ops Q rest (a.put op.dst (mfV m p q r t)) w) : wpList Tryd.prog ops Q (op :: rest) a w :=
  wpList_load_at hgd 25 y ho _ hy (mfC m p q r t) _ hc Tryd.underlying25 rfl (by rw [rmSize]; rfl) h
theorem st_rm {ops : Array Oper} {rest : List Oper} {op : Oper} {a : Act} {w : World} {Q : Exit → Act → World → Prop} (hgd : op.guard = none) (x y : Operand) (ho : op.op = .store 25 x y) (g : Nat) (l vs : List Value) (hB : Blk w g 25 l.toArray) (hx : a.eval x = .pointer (some ⟨g, 0, none⟩)) (hy : a.eval y = .agg vs.toArray)
    (hl : vs.length = l.length) (h7 : vs.length = 7) (h1 : ∀ v ∈ vs, v.oneCell' = true)
    (h : ∀ w', Blk w' g 25 vs.toArray → w.grownBy w' (some g) → w'.heap.size = w.heap.size → wpList Tryd.prog ops Q rest (a.put op.dst undef) w') : wpList Tryd.prog ops Q (op :: rest) a w :=
  wpList_plain hgd fun _ hK => wp_store_allB 25 x y ho g 25 l vs hB hx hy hl (by rw [rmSize, h7]) h1 (fun w' h2 h3 h4 => hK _ _ (h w' h2 h3 h4))
def OfPost (w : World) (m : Mf) (e : Ending) (w' : World) : Prop :=
  Below w.heap.size w w' ∧ ∃ hd, e = .returned (mfV m (hd 0) (hd 1) (hd 2) (hd 3)) ∧ LsR w' w.heap.size (m.at) hd
set_option maxRecDepth 100000 in
set_option maxHeartbeats 32000000 in
theorem of_any (m : Mf) (p s h k : Hd) (w : World) (H : MfR w m p s h k) : Calls Tryd.prog 6 #[mfV m p s h k] w (OfPost w m) := by
  obtain ⟨pA, pn, pc⟩ := p
  obtain ⟨sA, sn, sc⟩ := s
  obtain ⟨hA, hn, hc⟩ := h
  obtain ⟨kA, kn, kc⟩ := k
  have HH := Sl.mk H
  have hpn : pn ≤ 1000000 := H.pl.1
  have hsn : sn ≤ 1000000 := H.sl.1
  have hhn : hn ≤ 1000000 := H.hl.1
  have hkn : kn ≤ 1000000 := H.wl.1
  clear H
  obtain ⟨i0, hi0, hz0, hz1, hz2⟩ := info_ri
  obtain ⟨w1, hw1⟩ : ∃ w1, w.alloc (.cells #[.string (bsS m.pkg), .string (bsS m.pub), .int .i64 m.rev, .slice pA pn pc, .slice sA sn sc, .slice hA hn hc, .slice kA kn kc] 28) = w1 := ⟨_, rfl⟩
  obtain ⟨w2, hw2⟩ : ∃ w2, w1.alloc (.cells #[.string ⟨#[]⟩, .string ⟨#[]⟩, .int .i64 0, .slice none 0 0, .slice none 0 0, .slice none 0 0, .slice none 0 0] 25) = w2 := ⟨_, rfl⟩
  obtain ⟨w3, hw3⟩ : ∃ w3, w2.alloc (.cells #[.string (bsS m.pkg), .string (bsS m.pub), .int .i64 m.rev, .slice none 0 0, .slice none 0 0, .slice none 0 0, .slice none 0 0] 25) = w3 := ⟨_, rfl⟩
  obtain ⟨w4, hw4⟩ : ∃ w4, w3.alloc (.cells #[.slice pA pn pc, .slice sA sn sc, .slice hA hn hc, .slice kA kn kc] 64) = w4 := ⟨_, rfl⟩
  have k1 : Blk w1 w.heap.size 28 #[.string (bsS m.pkg), .string (bsS m.pub), .int .i64 m.rev, .slice pA pn pc, .slice sA sn sc, .slice hA hn hc, .slice kA kn kc] := by rw [← hw1]; exact Blk.new _ _ _
  have s1 : w1.heap.size = w.heap.size + 1 := by rw [← hw1]; simp
  have s2 : w2.heap.size = w.heap.size + 2 := by rw [← hw2]; simp [s1]
  have s3 : w3.heap.size = w.heap.size + 3 := by rw [← hw3]; simp [s2]
  have b4 : Below w.heap.size w w4 := by
    rw [← hw4, ← hw3, ← hw2, ← hw1]
    exact below_al (below_al (below_al (below_al (Below.refl _ _) _) _) _) _
  have z4 : Blk w4 (w.heap.size + 1) 25 #[.string ⟨#[]⟩, .string ⟨#[]⟩, .int .i64 0, .slice none 0 0, .slice none 0 0, .slice none 0 0, .slice none 0 0] := by rw [← hw4, ← hw3, ← hw2]; exact ((Blk.new' s1.symm).alloc _).alloc _
  have o4 : Blk w4 w2.heap.size 25 (ofA m hd0) := by rw [← hw4, ← hw3]; exact (Blk.new w2 _ _).alloc _
  have l4 : Blk w4 w3.heap.size 64 #[.slice pA pn pc, .slice sA sn sc, .slice hA hn hc, .slice kA kn kc] := by rw [← hw4]; exact Blk.new w3 _ _
  have HS0 := Sl.mk (show OfSt w w2.heap.size w3.heap.size m ⟨pA, pn, pc⟩ ⟨sA, sn, sc⟩ ⟨hA, hn, hc⟩ ⟨kA, kn, kc⟩ (parF m 0 0) hd0 w4 from ⟨b4, z4, o4, l4, by
    have e : parF m 0 0 = fun _ => [] := by funext q; rw [parF_zero]; simp
    rw [e]; exact lsR_zero _ _⟩)
  have HSZ := Sl.mk (show w2.heap.size < w3.heap.size ∧ w.heap.size + 1 < w2.heap.size ∧ w1.heap.size = w.heap.size + 1 by omega)
  have k2 : Blk w2 w.heap.size 28 #[.string (bsS m.pkg), .string (bsS m.pub), .int .i64 m.rev, .slice pA pn pc, .slice sA sn sc, .slice hA hn hc, .slice kA kn kc] := by rw [← hw2]; exact k1.alloc _
  have k3 : Blk w3 w.heap.size 28 #[.string (bsS m.pkg), .string (bsS m.pub), .int .i64 m.rev, .slice pA pn pc, .slice sA sn sc, .slice hA hn hc, .slice kA kn kc] := by rw [← hw3]; exact k2.alloc _
  have c0 : w2.cell? ⟨w.heap.size, 0, none⟩ = some (.string (bsS m.pkg)) := k2.cell 0
  have c1 : w2.cell? ⟨w.heap.size, 1, none⟩ = some (.string (bsS m.pub)) := k2.cell 1
  have c2 : w2.cell? ⟨w.heap.size, 2, none⟩ = some (.int .i64 m.rev) := k2.cell 2
  have c3 : w3.cell? ⟨w.heap.size, 3, none⟩ = some (.slice pA pn pc) := k3.cell 3
  have c4 : w3.cell? ⟨w.heap.size, 4, none⟩ = some (.slice sA sn sc) := k3.cell 4
  have c5 : w3.cell? ⟨w.heap.size, 5, none⟩ = some (.slice hA hn hc) := k3.cell 5
  have c6 : w3.cell? ⟨w.heap.size, 6, none⟩ = some (.slice kA kn kc) := k3.cell 6
  have HW3 := Sl.mk hw3
  have HW4 := Sl.mk hw4
  clear k1 k2 k3 b4 z4 o4 l4 s1 s2 s3 hw3 hw4
  unfold mfV
  simp only [Hd.v]
  go_enter Tryd.func6, Tryd.ntmps6
  go_upto_region 2 with fail
  rw [HW3.out]
  have hw4 := HW4.out
  go_upto_region 3 with fail
  clear hw1 hw2 hw4 HW3 HW4 c0 c1 c2 c3 c4 c5 c6
  go_wp2_with fail
  go_loopg [5] 4 (fun q v5 wr => ∃ (i : Nat) (hd : Nat → Hd), q = 4 - i ∧ i ≤ 4 ∧ v5 = .int .i64 i ∧ Sl (OfSt w w2.heap.size w3.heap.size m ⟨pA, pn, pc⟩ ⟨sA, sn, sc⟩ ⟨hA, hn, hc⟩ ⟨kA, kn, kc⟩ (parF m i 0) hd wr))
  case atStart => exact ⟨0, hd0, rfl, by omega, rfl, HS0⟩
  case round =>
    obtain ⟨i, hd, hq, hi, rfl, HO⟩ := hrel
    match i, hi with
    | 0, _ =>
      go_wp2_with fail
      go_loopg [6] pn (fun q v6 wx => ∃ (j : Nat) (hd2 : Nat → Hd), q = pn - j ∧ j ≤ pn ∧ v6 = .int .i64 j ∧ Sl (OfSt w w2.heap.size w3.heap.size m ⟨pA, pn, pc⟩ ⟨sA, sn, sc⟩ ⟨hA, hn, hc⟩ ⟨kA, kn, kc⟩ (parF m 0 j) hd2 wx))
      case atStart => exact ⟨0, hd, rfl, Nat.zero_le _, rfl, HO⟩
      case round =>
        obtain ⟨j, hd2, hqj, hj, rfl, HO2⟩ := hrel
        have dl : wr.cell? ⟨w3.heap.size, 0, none⟩ = some (.slice pA pn pc) := HO2.out.la.cell 0
        by_cases hlt : j < pn
        · have HIt := Sl.mk ((HH.out.be HO2.out.be).ip)
          obtain ⟨x, hx⟩ : ∃ x, m.p[j]? = some x := ⟨_, List.getElem?_eq_getElem (by rw [HIt.out.n_]; exact hlt)⟩
          obtain ⟨ab, ao, hAe, hbl, hldx, _, _⟩ := (show Its w pA pn m.p from HH.out.ip).lit hx
          have HX := Sl.mk (show (m.at 0)[j]? = some x from hx)
          obtain ⟨xa, xb⟩ := x
          have i0w : w.cell? ⟨ab, ao + j * 2, none⟩ = some (.string (bsS xa)) := by
            have h1 := hldx 0 _ rfl
            rw [Addr.add_lit] at h1
            exact h1
          have i1w : w.cell? ⟨ab, ao + j * 2 + 1, none⟩ = some (.string (bsS xb)) := by
            have h1 := hldx 1 _ rfl
            rw [Addr.add_lit] at h1
            exact h1
          have HIc := Sl.mk (fun (W : World) (hW : Below w.heap.size w W) => show W.cell? ⟨ab, ao + j * 2, none⟩ = some (.string (bsS xa)) ∧ W.cell? ⟨ab, ao + j * 2 + 1, none⟩ = some (.string (bsS xb)) from
            ⟨(hW.cell (p := ⟨ab, ao + j * 2, none⟩) hbl).trans i0w, (hW.cell (p := ⟨ab, ao + j * 2 + 1, none⟩) hbl).trans i1w⟩)
          have HBL := Sl.mk hbl
          clear hx hldx i0w i1w hbl
          subst hAe
          obtain ⟨B, n2, c2, hhd⟩ : ∃ B n2 c2, hd2 0 = ⟨B, n2, c2⟩ := ⟨_, _, _, rfl⟩
          have HHD := Sl.mk hhd
          have hn2 : n2 ≤ 1000000 := by
            have h1 := (HO2.out.ls.own 0 (by omega)).n_
            rw [hhd] at h1
            have h2 : (parF m 0 j 0).length ≤ m.p.length := by
              unfold parF
              simp
              exact Nat.min_le_right _ _
            have h3 := HIt.out.n_
            simp only at h1 h3
            omega
          clear hhd
          go_wp2_with fail
          obtain ⟨wd, hwd⟩ : ∃ wd, wr.drew = wd := ⟨_, rfl⟩
          have HOd := Sl.mk (show OfSt w w2.heap.size w3.heap.size m ⟨(some ⟨ab, ao, none⟩), pn, pc⟩ ⟨sA, sn, sc⟩ ⟨hA, hn, hc⟩ ⟨kA, kn, kc⟩ (parF m 0 j) hd2 wd by rw [← hwd]; exact HO2.out.be_ (Below.refl _ _).drew)
          have hOw : wd.ownsRow (w3.heap.size + 1) 65 2 (.slice B n2 c2) n2 (itsC (parF m 0 j 0)) := by
            have h1 := HOd.out.ls.own 0 (by omega)
            unfold OwnR at h1
            rw [HHD.out] at h1
            exact h1
          have HSF : Sl (∀ W, (Blk W w2.heap.size 25 (ofA m hd2) ∧ Blk W w3.heap.size 64 #[.slice (some ⟨ab, ao, none⟩) pn pc, .slice sA sn sc, .slice hA hn hc, .slice kA kn kc] ∧ W.cell? ⟨ab, ao + j * 2, none⟩ = some (.string (bsS xa)) ∧ W.cell? ⟨ab, ao + j * 2 + 1, none⟩ = some (.string (bsS xb))) → W.cell? ⟨w2.heap.size, 3, none⟩ = some (.slice B n2 c2) ∧ (W.cell? ⟨w3.heap.size, 0, none⟩ = some (.slice (some ⟨ab, ao, none⟩) pn pc) ∧ W.cell? ⟨ab, ao + j * 2, none⟩ = some (.string (bsS xa)) ∧ W.cell? ⟨ab, ao + j * 2 + 1, none⟩ = some (.string (bsS xb)))) :=
            Sl.mk (fun W hW => ⟨(hW.1.cell 3).trans (show some (hd2 0).v = _ by rw [HHD.out]; rfl), hW.2.1.cell 0, hW.2.2.1, hW.2.2.2⟩)
          refine wp_region_X (fun W => Blk W w2.heap.size 25 (ofA m hd2) ∧ Blk W w3.heap.size 64 #[.slice (some ⟨ab, ao, none⟩) pn pc, .slice sA sn sc, .slice hA hn hc, .slice kA kn kc] ∧ W.cell? ⟨ab, ao + j * 2, none⟩ = some (.string (bsS xa)) ∧ W.cell? ⟨ab, ao + j * 2 + 1, none⟩ = some (.string (bsS xb))) [23, 24] (by kernel_rfl) (by rw [hwd]; exact ⟨HOd.out.ou, HOd.out.la, HIc.out _ HOd.out.be⟩) (fun hS => ?_)
          rw [hwd] at hS ⊢
          clear hwd dl
          refine wpAnyX_S (i := 0) (v := ?_) rfl (by kernel_rfl) (by kernel_rfl) (by kernel_rfl) (by kernel_rfl) (fun _ _ _ h => h) (Or.inl ⟨by rfl, ?_⟩) hS ?_
          rotate_left 1
          · (intro w' hw'; (first | rw [hw'] | (have hw2 := HSF.out w' hw'; (try obtain ⟨hw2, hw3⟩ := hw2)) | skip); go_simp; (try with_reducible rfl))
          simp only [Act.put, List.setIfInBounds_toArray, List.set_cons_zero, List.set_cons_succ]
          refine wpAnyX_S (i := 1) (v := ?_) rfl (by kernel_rfl) (by kernel_rfl) (by kernel_rfl) (by kernel_rfl) (fun _ _ _ h => h) (Or.inl ⟨by rfl, ?_⟩) hS ?_
          rotate_left 1
          · (intro w' hw'; (first | rw [hw'] | (have hw2 := HSF.out w' hw'; (try obtain ⟨hw2, hw3⟩ := hw2)) | skip); go_simp; (try with_reducible rfl))
          simp only [Act.put, List.setIfInBounds_toArray, List.set_cons_zero, List.set_cons_succ]
          refine wpAnyX_S (i := 2) (v := ?_) rfl (by kernel_rfl) (by kernel_rfl) (by kernel_rfl) (by kernel_rfl) (fun _ _ _ h => h) (Or.inl ⟨by rfl, ?_⟩) hS ?_
          rotate_left 1
          · (intro w' hw'; (first | rw [hw'] | (have hw2 := HSF.out w' hw'; (try obtain ⟨hw2, hw3⟩ := hw2)) | skip); go_simp; (try with_reducible rfl))
          simp only [Act.put, List.setIfInBounds_toArray, List.set_cons_zero, List.set_cons_succ]
          refine wpAnyX_S (i := 3) (v := ?_) rfl (by kernel_rfl) (by kernel_rfl) (by kernel_rfl) (by kernel_rfl) (fun _ _ _ h => h) (Or.inl ⟨by rfl, ?_⟩) hS ?_
          rotate_left 1
          · (intro w' hw'; (first | rw [hw'] | (have hw2 := HSF.out w' hw'; (try obtain ⟨hw2, hw3⟩ := hw2)) | skip); go_simp; (try with_reducible rfl))
          simp only [Act.put, List.setIfInBounds_toArray, List.set_cons_zero, List.set_cons_succ]
          refine wpAnyX_S (i := 4) (v := ?_) rfl (by kernel_rfl) (by kernel_rfl) (by kernel_rfl) (by kernel_rfl) (fun _ _ _ h => h) (Or.inl ⟨by rfl, ?_⟩) hS ?_
          rotate_left 1
          · (intro w' hw'; (first | rw [hw'] | (have hw2 := HSF.out w' hw'; (try obtain ⟨hw2, hw3⟩ := hw2)) | skip); go_simp; (try with_reducible rfl))
          simp only [Act.put, List.setIfInBounds_toArray, List.set_cons_zero, List.set_cons_succ]
          refine wpAnyX_S (i := 5) (v := ?_) rfl (by kernel_rfl) (by kernel_rfl) (by kernel_rfl) (by kernel_rfl) (fun _ _ _ h => h) (Or.inl ⟨by rfl, ?_⟩) hS ?_
          rotate_left 1
          · (intro w' hw'; (first | rw [hw'] | (have hw2 := HSF.out w' hw'; (try obtain ⟨hw2, hw3⟩ := hw2)) | skip); go_simp; (try with_reducible rfl))
          simp only [Act.put, List.setIfInBounds_toArray, List.set_cons_zero, List.set_cons_succ]
          refine wpAnyX_S (i := 6) (v := ?_) rfl (by kernel_rfl) (by kernel_rfl) (by kernel_rfl) (by kernel_rfl) (fun _ _ _ h => h) (Or.inl ⟨by rfl, ?_⟩) hS ?_
          rotate_left 1
          · (intro w' hw'; (first | rw [hw'] | (have hw2 := HSF.out w' hw'; (try obtain ⟨hw2, hw3⟩ := hw2)) | skip); go_simp; (try with_reducible rfl))
          simp only [Act.put, List.setIfInBounds_toArray, List.set_cons_zero, List.set_cons_succ]
          refine wpAnyX_S (i := 7) (v := ?_) rfl (by kernel_rfl) (by kernel_rfl) (by kernel_rfl) (by kernel_rfl) (fun _ _ _ h => h) (Or.inl ⟨by rfl, ?_⟩) hS ?_
          rotate_left 1
          · (intro w' hw'; (first | rw [hw'] | (have hw2 := HSF.out w' hw'; (try obtain ⟨hw2, hw3⟩ := hw2)) | skip); go_simp; (try with_reducible rfl))
          simp only [Act.put, List.setIfInBounds_toArray, List.set_cons_zero, List.set_cons_succ]
          refine wpAnyX_S (i := 8) (v := ?_) rfl (by kernel_rfl) (by kernel_rfl) (by kernel_rfl) (by kernel_rfl) (fun _ _ _ h => h) (Or.inl ⟨by rfl, ?_⟩) hS ?_
          rotate_left 1
          · (intro w' hw'; (first | rw [hw'] | (have hw2 := HSF.out w' hw'; (try obtain ⟨hw2, hw3⟩ := hw2)) | skip); go_simp; (try with_reducible rfl))
          simp only [Act.put, List.setIfInBounds_toArray, List.set_cons_zero, List.set_cons_succ]
          refine wpAnyX_S (i := 9) (v := ?_) rfl (by kernel_rfl) (by kernel_rfl) (by kernel_rfl) (by kernel_rfl) (fun _ _ _ h => h) (Or.inl ⟨by rfl, ?_⟩) hS ?_
          rotate_left 1
          · (intro w' hw'; (first | rw [hw'] | (have hw2 := HSF.out w' hw'; (try obtain ⟨hw2, hw3⟩ := hw2)) | skip); go_simp; (try with_reducible rfl))
          simp only [Act.put, List.setIfInBounds_toArray, List.set_cons_zero, List.set_cons_succ]
          refine wpAnyX_S (i := 10) (v := ?_) rfl (by kernel_rfl) (by kernel_rfl) (by kernel_rfl) (by kernel_rfl) (fun _ _ _ h => h) (Or.inl ⟨by rfl, ?_⟩) hS ?_
          rotate_left 1
          · (intro w' hw'; (first | rw [hw'] | (have hw2 := HSF.out w' hw'; (try obtain ⟨hw2, hw3⟩ := hw2)) | skip); go_simp; (try with_reducible rfl))
          simp only [Act.put, List.setIfInBounds_toArray, List.set_cons_zero, List.set_cons_succ]
          refine wpAnyX_S (i := 11) (v := ?_) rfl (by kernel_rfl) (by kernel_rfl) (by kernel_rfl) (by kernel_rfl) (fun _ _ _ h => h) (Or.inl ⟨by rfl, ?_⟩) hS ?_
          rotate_left 1
          · (intro w' hw'; (first | rw [hw'] | (have hw2 := HSF.out w' hw'; (try obtain ⟨hw2, hw3⟩ := hw2)) | skip); go_simp; (try with_reducible rfl))
          simp only [Act.put, List.setIfInBounds_toArray, List.set_cons_zero, List.set_cons_succ]
          refine wpAnyX_S (i := 12) (v := ?_) rfl (by kernel_rfl) (by kernel_rfl) (by kernel_rfl) (by kernel_rfl) (fun _ _ _ h => h) (Or.inl ⟨by rfl, ?_⟩) hS ?_
          rotate_left 1
          · (intro w' hw'; (first | rw [hw'] | (have hw2 := HSF.out w' hw'; (try obtain ⟨hw2, hw3⟩ := hw2)) | skip); go_simp; (try with_reducible rfl))
          simp only [Act.put, List.setIfInBounds_toArray, List.set_cons_zero, List.set_cons_succ]
          refine wpAnyX_S (i := 13) (v := ?_) rfl (by kernel_rfl) (by kernel_rfl) (by kernel_rfl) (by kernel_rfl) (fun _ _ _ h => h) (Or.inl ⟨by rfl, ?_⟩) hS ?_
          rotate_left 1
          · (intro w' hw'; (first | rw [hw'] | (have hw2 := HSF.out w' hw'; (try obtain ⟨hw2, hw3⟩ := hw2)) | skip); go_simp; (try with_reducible rfl))
          simp only [Act.put, List.setIfInBounds_toArray, List.set_cons_zero, List.set_cons_succ]
          refine wpAnyX_S (i := 14) (v := ?_) rfl (by kernel_rfl) (by kernel_rfl) (by kernel_rfl) (by kernel_rfl) (fun _ _ _ h => h) (Or.inl ⟨by rfl, ?_⟩) hS ?_
          rotate_left 1
          · (intro w' hw'; (first | rw [hw'] | (have hw2 := HSF.out w' hw'; (try obtain ⟨hw2, hw3⟩ := hw2)) | skip); go_simp; (try with_reducible rfl))
          simp only [Act.put, List.setIfInBounds_toArray, List.set_cons_zero, List.set_cons_succ]
          refine wpAnyX_S (i := 15) (v := ?_) rfl (by kernel_rfl) (by kernel_rfl) (by kernel_rfl) (by kernel_rfl) (fun _ _ _ h => h) (Or.inl ⟨by rfl, ?_⟩) hS ?_
          rotate_left 1
          · (intro w' hw'; (first | rw [hw'] | (have hw2 := HSF.out w' hw'; (try obtain ⟨hw2, hw3⟩ := hw2)) | skip); go_simp; (try with_reducible rfl))
          simp only [Act.put, List.setIfInBounds_toArray, List.set_cons_zero, List.set_cons_succ]
          refine wpAnyX_S (i := 16) (v := ?_) rfl (by kernel_rfl) (by kernel_rfl) (by kernel_rfl) (by kernel_rfl) (fun _ _ _ h => h) (Or.inl ⟨by rfl, ?_⟩) hS ?_
          rotate_left 1
          · (intro w' hw'; (first | rw [hw'] | (have hw2 := HSF.out w' hw'; (try obtain ⟨hw2, hw3⟩ := hw2)) | skip); go_simp; (try with_reducible rfl))
          simp only [Act.put, List.setIfInBounds_toArray, List.set_cons_zero, List.set_cons_succ]
          refine wpAnyX_S (i := 17) (v := ?_) rfl (by kernel_rfl) (by kernel_rfl) (by kernel_rfl) (by kernel_rfl) (fun _ _ _ h => h) (Or.inl ⟨by rfl, ?_⟩) hS ?_
          rotate_left 1
          · (intro w' hw'; (first | rw [hw'] | (have hw2 := HSF.out w' hw'; (try obtain ⟨hw2, hw3⟩ := hw2)) | skip); go_simp; (try with_reducible rfl))
          simp only [Act.put, List.setIfInBounds_toArray, List.set_cons_zero, List.set_cons_succ]
          refine wpAnyX_S (i := 18) (v := ?_) rfl (by kernel_rfl) (by kernel_rfl) (by kernel_rfl) (by kernel_rfl) (fun _ _ _ h => h) (Or.inl ⟨by rfl, ?_⟩) hS ?_
          rotate_left 1
          · (intro w' hw'; (first | rw [hw'] | (have hw2 := HSF.out w' hw'; (try obtain ⟨hw2, hw3⟩ := hw2)) | skip); go_simp; (try with_reducible rfl))
          simp only [Act.put, List.setIfInBounds_toArray, List.set_cons_zero, List.set_cons_succ]
          refine wpAnyX_S (i := 19) (v := ?_) rfl (by kernel_rfl) (by kernel_rfl) (by kernel_rfl) (by kernel_rfl) (fun _ _ _ h => h) (Or.inl ⟨by rfl, ?_⟩) hS ?_
          rotate_left 1
          · (intro w' hw'; (first | rw [hw'] | (have hw2 := HSF.out w' hw'; (try obtain ⟨hw2, hw3⟩ := hw2)) | skip); go_simp; (try with_reducible rfl))
          simp only [Act.put, List.setIfInBounds_toArray, List.set_cons_zero, List.set_cons_succ]
          refine wpAnyX_S (i := 22) (v := ?_) rfl (by kernel_rfl) (by kernel_rfl) (by kernel_rfl) (by kernel_rfl) (fun _ _ _ h => h) (Or.inl ⟨by rfl, ?_⟩) hS ?_
          rotate_left 1
          · (intro w' hw'; (first | rw [hw'] | (have hw2 := HSF.out w' hw'; (try obtain ⟨hw2, hw3⟩ := hw2)) | skip); go_simp; (try with_reducible rfl))
          simp only [Act.put, List.setIfInBounds_toArray, List.set_cons_zero, List.set_cons_succ]
          refine wpAnyX_oneL (k := 20) rfl (by kernel_rfl) rfl ?_
          refine wp_of_run (v := .slice (some ⟨wd.heap.size, 0, none⟩) 1 1) (w' := wd.alloc (.cells #[.string (bsS xa), .string (bsS xb)] 65)) (by go_simp) ⟨fun _ => ⟨hS.1.alloc _, hS.2.1.alloc _, Lib.cell?_alloc_some _ hS.2.2.1, Lib.cell?_alloc_some _ hS.2.2.2⟩, ?_⟩
          simp only [Act.put, List.setIfInBounds_toArray, List.set_cons_zero, List.set_cons_succ]
          refine wpAnyX_oneL (k := 21) rfl (by kernel_rfl) rfl ?_
          have hbd : w3.heap.size + 1 ≤ (wd.alloc (.cells #[.string (bsS xa), .string (bsS xb)] 65)).heap.size := by have := HOd.out.la.lt; simp; omega
          refine wp_append_any _ (.tmp 39) (.tmp 55) 22 rfl (w3.heap.size + 1) 65 i0 (.agg #[.string ⟨#[]⟩, .string ⟨#[]⟩]) 2 32 Tryd.underlying22 hi0 hz0 hz1 hz2 rfl (by decide) _ _ _ rfl (hOw.alloc _) (wd.heap.size + 1) _ 1 1 [.string (bsS xa), .string (bsS xb)] rfl (reads_row2 wd _ _ _ (Nat.lt_succ_self _)) (itC_one ⟨xa, xb⟩) (by unfold maxLen; omega) (by omega) hbd ?_
          intro v9 w9 ho9 hg9 hb9
          obtain ⟨A9, c9, hv9⟩ := ownForm ho9
          subst hv9
          have hadd := HOd.out.add (i := 0) (x := ⟨xa, xb⟩) (o := .cells #[.string (bsS xa), .string (bsS xb)] 65) (y := ⟨A9, n2 + 1, c9⟩) (w9 := w9) (by omega) HSZ.out.1 HSZ.out.2.1 HX.out (by
            show w9.ownsRow (w3.heap.size + 1) 65 2 (.slice A9 (n2 + 1) c9) (n2 + 1) (itsC (parF m 0 j 0 ++ [⟨xa, xb⟩]))
            rw [itsC_app, itsC_sing]
            exact ho9) (by rw [HHD.out]; exact hg9) (by rw [HHD.out]; exact hb9)
          have HADD := Sl.mk hadd
          have hla9 := (HOd.out.la.alloc (.cells #[.string (bsS xa), .string (bsS xb)] 65)).grown hg9 (fun e => own_blk_ne (World.ownsRow.alloc hOw (.cells #[.string (bsS xa), .string (bsS xb)] 65)) (HOd.out.la.alloc (.cells #[.string (bsS xa), .string (bsS xb)] 65)) (by decide) e.symm)
          have hic : ∀ (q : Nat) (v : Value), wd.cell? ⟨ab, q, none⟩ = some v → w9.cell? ⟨ab, q, none⟩ = some v := fun q v hq => hg9.cell (Lib.cell?_alloc_some _ hq) (fun e => by
            have h1 := ownGe hOw (g := ab) e.symm
            have h2 := HBL.out
            have h3 := HSZ.out
            omega)
          refine ⟨fun _ => ⟨HADD.out.1, hla9, hic _ _ hS.2.2.1, hic _ _ hS.2.2.2⟩, ?_⟩
          simp only [Act.put, List.setIfInBounds_toArray, List.set_cons_zero, List.set_cons_succ]
          have d2 := HADD.out.1.cell 3
          have f2 := HADD.out.1.frozen 3
          clear hS hbd ho9 hg9 hb9 hadd hla9 hic hOw HSF
          refine wpAnyX_tailF [23, 24] (by kernel_rfl) (by rfl) (by rfl) (by rfl) ?_
          simp only [List.filterMap_cons, List.filterMap_nil, List.getElem?_cons_succ, List.getElem?_cons_zero]
          go_wp2_with fail
          refine NoPanic.normal ?_
          go_wp2_with fail
          go_roundg (pn - (j + 1))
          case measure => omega
          case rel => exact ⟨j + 1, _, rfl, by omega, by go_num, ⟨HADD.out.2⟩⟩
        · obtain rfl : j = pn := by omega
          have HON := Sl.mk (show OfSt w w2.heap.size w3.heap.size m ⟨pA, j, pc⟩ ⟨sA, sn, sc⟩ ⟨hA, hn, hc⟩ ⟨kA, kn, kc⟩ (parF m 1 0) hd2 wr by
            have h1 := (HH.out.be HO2.out.be).ip.n_
            have h2 := HO2.out
            rw [show j = (m.at 0).length from h1.symm, parF_next] at h2
            rw [show j = (m.at 0).length from h1.symm]
            exact h2)
          go_wp2_with fail
          go_roundg 3
          case measure => omega
          case rel => exact ⟨1, hd2, rfl, by omega, by go_num, HON⟩
    | 1, _ =>
      go_wp2_with fail
      go_loopg [6] sn (fun q v6 wx => ∃ (j : Nat) (hd2 : Nat → Hd), q = sn - j ∧ j ≤ sn ∧ v6 = .int .i64 j ∧ Sl (OfSt w w2.heap.size w3.heap.size m ⟨pA, pn, pc⟩ ⟨sA, sn, sc⟩ ⟨hA, hn, hc⟩ ⟨kA, kn, kc⟩ (parF m 1 j) hd2 wx))
      case atStart => exact ⟨0, hd, rfl, Nat.zero_le _, rfl, HO⟩
      case round =>
        obtain ⟨j, hd2, hqj, hj, rfl, HO2⟩ := hrel
        have dl : wr.cell? ⟨w3.heap.size, 1, none⟩ = some (.slice sA sn sc) := HO2.out.la.cell 1
        by_cases hlt : j < sn
        · have HIt := Sl.mk ((HH.out.be HO2.out.be).iq)
          obtain ⟨x, hx⟩ : ∃ x, m.s[j]? = some x := ⟨_, List.getElem?_eq_getElem (by rw [HIt.out.n_]; exact hlt)⟩
          obtain ⟨ab, ao, hAe, hbl, hldx, _, _⟩ := (show Its w sA sn m.s from HH.out.iq).lit hx
          have HX := Sl.mk (show (m.at 1)[j]? = some x from hx)
          obtain ⟨xa, xb⟩ := x
          have i0w : w.cell? ⟨ab, ao + j * 2, none⟩ = some (.string (bsS xa)) := by
            have h1 := hldx 0 _ rfl
            rw [Addr.add_lit] at h1
            exact h1
          have i1w : w.cell? ⟨ab, ao + j * 2 + 1, none⟩ = some (.string (bsS xb)) := by
            have h1 := hldx 1 _ rfl
            rw [Addr.add_lit] at h1
            exact h1
          have HIc := Sl.mk (fun (W : World) (hW : Below w.heap.size w W) => show W.cell? ⟨ab, ao + j * 2, none⟩ = some (.string (bsS xa)) ∧ W.cell? ⟨ab, ao + j * 2 + 1, none⟩ = some (.string (bsS xb)) from
            ⟨(hW.cell (p := ⟨ab, ao + j * 2, none⟩) hbl).trans i0w, (hW.cell (p := ⟨ab, ao + j * 2 + 1, none⟩) hbl).trans i1w⟩)
          have HBL := Sl.mk hbl
          clear hx hldx i0w i1w hbl
          subst hAe
          obtain ⟨B, n2, c2, hhd⟩ : ∃ B n2 c2, hd2 1 = ⟨B, n2, c2⟩ := ⟨_, _, _, rfl⟩
          have HHD := Sl.mk hhd
          have hn2 : n2 ≤ 1000000 := by
            have h1 := (HO2.out.ls.own 1 (by omega)).n_
            rw [hhd] at h1
            have h2 : (parF m 1 j 1).length ≤ m.s.length := by
              unfold parF
              simp
              exact Nat.min_le_right _ _
            have h3 := HIt.out.n_
            simp only at h1 h3
            omega
          clear hhd
          go_wp2_with fail
          obtain ⟨wd, hwd⟩ : ∃ wd, wr.drew = wd := ⟨_, rfl⟩
          have HOd := Sl.mk (show OfSt w w2.heap.size w3.heap.size m ⟨pA, pn, pc⟩ ⟨(some ⟨ab, ao, none⟩), sn, sc⟩ ⟨hA, hn, hc⟩ ⟨kA, kn, kc⟩ (parF m 1 j) hd2 wd by rw [← hwd]; exact HO2.out.be_ (Below.refl _ _).drew)
          have hOw : wd.ownsRow (w3.heap.size + 1) 65 2 (.slice B n2 c2) n2 (itsC (parF m 1 j 1)) := by
            have h1 := HOd.out.ls.own 1 (by omega)
            unfold OwnR at h1
            rw [HHD.out] at h1
            exact h1
          have HSF : Sl (∀ W, (Blk W w2.heap.size 25 (ofA m hd2) ∧ Blk W w3.heap.size 64 #[.slice pA pn pc, .slice (some ⟨ab, ao, none⟩) sn sc, .slice hA hn hc, .slice kA kn kc] ∧ W.cell? ⟨ab, ao + j * 2, none⟩ = some (.string (bsS xa)) ∧ W.cell? ⟨ab, ao + j * 2 + 1, none⟩ = some (.string (bsS xb))) → W.cell? ⟨w2.heap.size, 4, none⟩ = some (.slice B n2 c2) ∧ (W.cell? ⟨w3.heap.size, 1, none⟩ = some (.slice (some ⟨ab, ao, none⟩) sn sc) ∧ W.cell? ⟨ab, ao + j * 2, none⟩ = some (.string (bsS xa)) ∧ W.cell? ⟨ab, ao + j * 2 + 1, none⟩ = some (.string (bsS xb)))) :=
            Sl.mk (fun W hW => ⟨(hW.1.cell 4).trans (show some (hd2 1).v = _ by rw [HHD.out]; rfl), hW.2.1.cell 1, hW.2.2.1, hW.2.2.2⟩)
          refine wp_region_X (fun W => Blk W w2.heap.size 25 (ofA m hd2) ∧ Blk W w3.heap.size 64 #[.slice pA pn pc, .slice (some ⟨ab, ao, none⟩) sn sc, .slice hA hn hc, .slice kA kn kc] ∧ W.cell? ⟨ab, ao + j * 2, none⟩ = some (.string (bsS xa)) ∧ W.cell? ⟨ab, ao + j * 2 + 1, none⟩ = some (.string (bsS xb))) [23, 24] (by kernel_rfl) (by rw [hwd]; exact ⟨HOd.out.ou, HOd.out.la, HIc.out _ HOd.out.be⟩) (fun hS => ?_)
          rw [hwd] at hS ⊢
          clear hwd dl
          refine wpAnyX_S (i := 0) (v := ?_) rfl (by kernel_rfl) (by kernel_rfl) (by kernel_rfl) (by kernel_rfl) (fun _ _ _ h => h) (Or.inl ⟨by rfl, ?_⟩) hS ?_
          rotate_left 1
          · (intro w' hw'; (first | rw [hw'] | (have hw2 := HSF.out w' hw'; (try obtain ⟨hw2, hw3⟩ := hw2)) | skip); go_simp; (try with_reducible rfl))
          simp only [Act.put, List.setIfInBounds_toArray, List.set_cons_zero, List.set_cons_succ]
          refine wpAnyX_S (i := 1) (v := ?_) rfl (by kernel_rfl) (by kernel_rfl) (by kernel_rfl) (by kernel_rfl) (fun _ _ _ h => h) (Or.inl ⟨by rfl, ?_⟩) hS ?_
          rotate_left 1
          · (intro w' hw'; (first | rw [hw'] | (have hw2 := HSF.out w' hw'; (try obtain ⟨hw2, hw3⟩ := hw2)) | skip); go_simp; (try with_reducible rfl))
          simp only [Act.put, List.setIfInBounds_toArray, List.set_cons_zero, List.set_cons_succ]
          refine wpAnyX_S (i := 2) (v := ?_) rfl (by kernel_rfl) (by kernel_rfl) (by kernel_rfl) (by kernel_rfl) (fun _ _ _ h => h) (Or.inl ⟨by rfl, ?_⟩) hS ?_
          rotate_left 1
          · (intro w' hw'; (first | rw [hw'] | (have hw2 := HSF.out w' hw'; (try obtain ⟨hw2, hw3⟩ := hw2)) | skip); go_simp; (try with_reducible rfl))
          simp only [Act.put, List.setIfInBounds_toArray, List.set_cons_zero, List.set_cons_succ]
          refine wpAnyX_S (i := 3) (v := ?_) rfl (by kernel_rfl) (by kernel_rfl) (by kernel_rfl) (by kernel_rfl) (fun _ _ _ h => h) (Or.inl ⟨by rfl, ?_⟩) hS ?_
          rotate_left 1
          · (intro w' hw'; (first | rw [hw'] | (have hw2 := HSF.out w' hw'; (try obtain ⟨hw2, hw3⟩ := hw2)) | skip); go_simp; (try with_reducible rfl))
          simp only [Act.put, List.setIfInBounds_toArray, List.set_cons_zero, List.set_cons_succ]
          refine wpAnyX_S (i := 4) (v := ?_) rfl (by kernel_rfl) (by kernel_rfl) (by kernel_rfl) (by kernel_rfl) (fun _ _ _ h => h) (Or.inl ⟨by rfl, ?_⟩) hS ?_
          rotate_left 1
          · (intro w' hw'; (first | rw [hw'] | (have hw2 := HSF.out w' hw'; (try obtain ⟨hw2, hw3⟩ := hw2)) | skip); go_simp; (try with_reducible rfl))
          simp only [Act.put, List.setIfInBounds_toArray, List.set_cons_zero, List.set_cons_succ]
          refine wpAnyX_S (i := 5) (v := ?_) rfl (by kernel_rfl) (by kernel_rfl) (by kernel_rfl) (by kernel_rfl) (fun _ _ _ h => h) (Or.inl ⟨by rfl, ?_⟩) hS ?_
          rotate_left 1
          · (intro w' hw'; (first | rw [hw'] | (have hw2 := HSF.out w' hw'; (try obtain ⟨hw2, hw3⟩ := hw2)) | skip); go_simp; (try with_reducible rfl))
          simp only [Act.put, List.setIfInBounds_toArray, List.set_cons_zero, List.set_cons_succ]
          refine wpAnyX_S (i := 6) (v := ?_) rfl (by kernel_rfl) (by kernel_rfl) (by kernel_rfl) (by kernel_rfl) (fun _ _ _ h => h) (Or.inl ⟨by rfl, ?_⟩) hS ?_
          rotate_left 1
          · (intro w' hw'; (first | rw [hw'] | (have hw2 := HSF.out w' hw'; (try obtain ⟨hw2, hw3⟩ := hw2)) | skip); go_simp; (try with_reducible rfl))
          simp only [Act.put, List.setIfInBounds_toArray, List.set_cons_zero, List.set_cons_succ]
          refine wpAnyX_S (i := 7) (v := ?_) rfl (by kernel_rfl) (by kernel_rfl) (by kernel_rfl) (by kernel_rfl) (fun _ _ _ h => h) (Or.inl ⟨by rfl, ?_⟩) hS ?_
          rotate_left 1
          · (intro w' hw'; (first | rw [hw'] | (have hw2 := HSF.out w' hw'; (try obtain ⟨hw2, hw3⟩ := hw2)) | skip); go_simp; (try with_reducible rfl))
          simp only [Act.put, List.setIfInBounds_toArray, List.set_cons_zero, List.set_cons_succ]
          refine wpAnyX_S (i := 8) (v := ?_) rfl (by kernel_rfl) (by kernel_rfl) (by kernel_rfl) (by kernel_rfl) (fun _ _ _ h => h) (Or.inl ⟨by rfl, ?_⟩) hS ?_
          rotate_left 1
          · (intro w' hw'; (first | rw [hw'] | (have hw2 := HSF.out w' hw'; (try obtain ⟨hw2, hw3⟩ := hw2)) | skip); go_simp; (try with_reducible rfl))
          simp only [Act.put, List.setIfInBounds_toArray, List.set_cons_zero, List.set_cons_succ]
          refine wpAnyX_S (i := 9) (v := ?_) rfl (by kernel_rfl) (by kernel_rfl) (by kernel_rfl) (by kernel_rfl) (fun _ _ _ h => h) (Or.inl ⟨by rfl, ?_⟩) hS ?_
          rotate_left 1
          · (intro w' hw'; (first | rw [hw'] | (have hw2 := HSF.out w' hw'; (try obtain ⟨hw2, hw3⟩ := hw2)) | skip); go_simp; (try with_reducible rfl))
          simp only [Act.put, List.setIfInBounds_toArray, List.set_cons_zero, List.set_cons_succ]
          refine wpAnyX_S (i := 10) (v := ?_) rfl (by kernel_rfl) (by kernel_rfl) (by kernel_rfl) (by kernel_rfl) (fun _ _ _ h => h) (Or.inl ⟨by rfl, ?_⟩) hS ?_
          rotate_left 1
          · (intro w' hw'; (first | rw [hw'] | (have hw2 := HSF.out w' hw'; (try obtain ⟨hw2, hw3⟩ := hw2)) | skip); go_simp; (try with_reducible rfl))
          simp only [Act.put, List.setIfInBounds_toArray, List.set_cons_zero, List.set_cons_succ]
          refine wpAnyX_S (i := 11) (v := ?_) rfl (by kernel_rfl) (by kernel_rfl) (by kernel_rfl) (by kernel_rfl) (fun _ _ _ h => h) (Or.inl ⟨by rfl, ?_⟩) hS ?_
          rotate_left 1
          · (intro w' hw'; (first | rw [hw'] | (have hw2 := HSF.out w' hw'; (try obtain ⟨hw2, hw3⟩ := hw2)) | skip); go_simp; (try with_reducible rfl))
          simp only [Act.put, List.setIfInBounds_toArray, List.set_cons_zero, List.set_cons_succ]
          refine wpAnyX_S (i := 12) (v := ?_) rfl (by kernel_rfl) (by kernel_rfl) (by kernel_rfl) (by kernel_rfl) (fun _ _ _ h => h) (Or.inl ⟨by rfl, ?_⟩) hS ?_
          rotate_left 1
          · (intro w' hw'; (first | rw [hw'] | (have hw2 := HSF.out w' hw'; (try obtain ⟨hw2, hw3⟩ := hw2)) | skip); go_simp; (try with_reducible rfl))
          simp only [Act.put, List.setIfInBounds_toArray, List.set_cons_zero, List.set_cons_succ]
          refine wpAnyX_S (i := 13) (v := ?_) rfl (by kernel_rfl) (by kernel_rfl) (by kernel_rfl) (by kernel_rfl) (fun _ _ _ h => h) (Or.inl ⟨by rfl, ?_⟩) hS ?_
          rotate_left 1
          · (intro w' hw'; (first | rw [hw'] | (have hw2 := HSF.out w' hw'; (try obtain ⟨hw2, hw3⟩ := hw2)) | skip); go_simp; (try with_reducible rfl))
          simp only [Act.put, List.setIfInBounds_toArray, List.set_cons_zero, List.set_cons_succ]
          refine wpAnyX_S (i := 14) (v := ?_) rfl (by kernel_rfl) (by kernel_rfl) (by kernel_rfl) (by kernel_rfl) (fun _ _ _ h => h) (Or.inl ⟨by rfl, ?_⟩) hS ?_
          rotate_left 1
          · (intro w' hw'; (first | rw [hw'] | (have hw2 := HSF.out w' hw'; (try obtain ⟨hw2, hw3⟩ := hw2)) | skip); go_simp; (try with_reducible rfl))
          simp only [Act.put, List.setIfInBounds_toArray, List.set_cons_zero, List.set_cons_succ]
          refine wpAnyX_S (i := 15) (v := ?_) rfl (by kernel_rfl) (by kernel_rfl) (by kernel_rfl) (by kernel_rfl) (fun _ _ _ h => h) (Or.inl ⟨by rfl, ?_⟩) hS ?_
          rotate_left 1
          · (intro w' hw'; (first | rw [hw'] | (have hw2 := HSF.out w' hw'; (try obtain ⟨hw2, hw3⟩ := hw2)) | skip); go_simp; (try with_reducible rfl))
          simp only [Act.put, List.setIfInBounds_toArray, List.set_cons_zero, List.set_cons_succ]
          refine wpAnyX_S (i := 16) (v := ?_) rfl (by kernel_rfl) (by kernel_rfl) (by kernel_rfl) (by kernel_rfl) (fun _ _ _ h => h) (Or.inl ⟨by rfl, ?_⟩) hS ?_
          rotate_left 1
          · (intro w' hw'; (first | rw [hw'] | (have hw2 := HSF.out w' hw'; (try obtain ⟨hw2, hw3⟩ := hw2)) | skip); go_simp; (try with_reducible rfl))
          simp only [Act.put, List.setIfInBounds_toArray, List.set_cons_zero, List.set_cons_succ]
          refine wpAnyX_S (i := 17) (v := ?_) rfl (by kernel_rfl) (by kernel_rfl) (by kernel_rfl) (by kernel_rfl) (fun _ _ _ h => h) (Or.inl ⟨by rfl, ?_⟩) hS ?_
          rotate_left 1
          · (intro w' hw'; (first | rw [hw'] | (have hw2 := HSF.out w' hw'; (try obtain ⟨hw2, hw3⟩ := hw2)) | skip); go_simp; (try with_reducible rfl))
          simp only [Act.put, List.setIfInBounds_toArray, List.set_cons_zero, List.set_cons_succ]
          refine wpAnyX_S (i := 18) (v := ?_) rfl (by kernel_rfl) (by kernel_rfl) (by kernel_rfl) (by kernel_rfl) (fun _ _ _ h => h) (Or.inl ⟨by rfl, ?_⟩) hS ?_
          rotate_left 1
          · (intro w' hw'; (first | rw [hw'] | (have hw2 := HSF.out w' hw'; (try obtain ⟨hw2, hw3⟩ := hw2)) | skip); go_simp; (try with_reducible rfl))
          simp only [Act.put, List.setIfInBounds_toArray, List.set_cons_zero, List.set_cons_succ]
          refine wpAnyX_S (i := 19) (v := ?_) rfl (by kernel_rfl) (by kernel_rfl) (by kernel_rfl) (by kernel_rfl) (fun _ _ _ h => h) (Or.inl ⟨by rfl, ?_⟩) hS ?_
          rotate_left 1
          · (intro w' hw'; (first | rw [hw'] | (have hw2 := HSF.out w' hw'; (try obtain ⟨hw2, hw3⟩ := hw2)) | skip); go_simp; (try with_reducible rfl))
          simp only [Act.put, List.setIfInBounds_toArray, List.set_cons_zero, List.set_cons_succ]
          refine wpAnyX_S (i := 22) (v := ?_) rfl (by kernel_rfl) (by kernel_rfl) (by kernel_rfl) (by kernel_rfl) (fun _ _ _ h => h) (Or.inl ⟨by rfl, ?_⟩) hS ?_
          rotate_left 1
          · (intro w' hw'; (first | rw [hw'] | (have hw2 := HSF.out w' hw'; (try obtain ⟨hw2, hw3⟩ := hw2)) | skip); go_simp; (try with_reducible rfl))
          simp only [Act.put, List.setIfInBounds_toArray, List.set_cons_zero, List.set_cons_succ]
          refine wpAnyX_oneL (k := 20) rfl (by kernel_rfl) rfl ?_
          refine wp_of_run (v := .slice (some ⟨wd.heap.size, 0, none⟩) 1 1) (w' := wd.alloc (.cells #[.string (bsS xa), .string (bsS xb)] 65)) (by go_simp) ⟨fun _ => ⟨hS.1.alloc _, hS.2.1.alloc _, Lib.cell?_alloc_some _ hS.2.2.1, Lib.cell?_alloc_some _ hS.2.2.2⟩, ?_⟩
          simp only [Act.put, List.setIfInBounds_toArray, List.set_cons_zero, List.set_cons_succ]
          refine wpAnyX_oneL (k := 21) rfl (by kernel_rfl) rfl ?_
          have hbd : w3.heap.size + 1 ≤ (wd.alloc (.cells #[.string (bsS xa), .string (bsS xb)] 65)).heap.size := by have := HOd.out.la.lt; simp; omega
          refine wp_append_any _ (.tmp 39) (.tmp 55) 22 rfl (w3.heap.size + 1) 65 i0 (.agg #[.string ⟨#[]⟩, .string ⟨#[]⟩]) 2 32 Tryd.underlying22 hi0 hz0 hz1 hz2 rfl (by decide) _ _ _ rfl (hOw.alloc _) (wd.heap.size + 1) _ 1 1 [.string (bsS xa), .string (bsS xb)] rfl (reads_row2 wd _ _ _ (Nat.lt_succ_self _)) (itC_one ⟨xa, xb⟩) (by unfold maxLen; omega) (by omega) hbd ?_
          intro v9 w9 ho9 hg9 hb9
          obtain ⟨A9, c9, hv9⟩ := ownForm ho9
          subst hv9
          have hadd := HOd.out.add (i := 1) (x := ⟨xa, xb⟩) (o := .cells #[.string (bsS xa), .string (bsS xb)] 65) (y := ⟨A9, n2 + 1, c9⟩) (w9 := w9) (by omega) HSZ.out.1 HSZ.out.2.1 HX.out (by
            show w9.ownsRow (w3.heap.size + 1) 65 2 (.slice A9 (n2 + 1) c9) (n2 + 1) (itsC (parF m 1 j 1 ++ [⟨xa, xb⟩]))
            rw [itsC_app, itsC_sing]
            exact ho9) (by rw [HHD.out]; exact hg9) (by rw [HHD.out]; exact hb9)
          have HADD := Sl.mk hadd
          have hla9 := (HOd.out.la.alloc (.cells #[.string (bsS xa), .string (bsS xb)] 65)).grown hg9 (fun e => own_blk_ne (World.ownsRow.alloc hOw (.cells #[.string (bsS xa), .string (bsS xb)] 65)) (HOd.out.la.alloc (.cells #[.string (bsS xa), .string (bsS xb)] 65)) (by decide) e.symm)
          have hic : ∀ (q : Nat) (v : Value), wd.cell? ⟨ab, q, none⟩ = some v → w9.cell? ⟨ab, q, none⟩ = some v := fun q v hq => hg9.cell (Lib.cell?_alloc_some _ hq) (fun e => by
            have h1 := ownGe hOw (g := ab) e.symm
            have h2 := HBL.out
            have h3 := HSZ.out
            omega)
          refine ⟨fun _ => ⟨HADD.out.1, hla9, hic _ _ hS.2.2.1, hic _ _ hS.2.2.2⟩, ?_⟩
          simp only [Act.put, List.setIfInBounds_toArray, List.set_cons_zero, List.set_cons_succ]
          have d2 := HADD.out.1.cell 4
          have f2 := HADD.out.1.frozen 4
          clear hS hbd ho9 hg9 hb9 hadd hla9 hic hOw HSF
          refine wpAnyX_tailF [23, 24] (by kernel_rfl) (by rfl) (by rfl) (by rfl) ?_
          simp only [List.filterMap_cons, List.filterMap_nil, List.getElem?_cons_succ, List.getElem?_cons_zero]
          go_wp2_with fail
          refine NoPanic.normal ?_
          go_wp2_with fail
          go_roundg (sn - (j + 1))
          case measure => omega
          case rel => exact ⟨j + 1, _, rfl, by omega, by go_num, ⟨HADD.out.2⟩⟩
        · obtain rfl : j = sn := by omega
          have HON := Sl.mk (show OfSt w w2.heap.size w3.heap.size m ⟨pA, pn, pc⟩ ⟨sA, j, sc⟩ ⟨hA, hn, hc⟩ ⟨kA, kn, kc⟩ (parF m 2 0) hd2 wr by
            have h1 := (HH.out.be HO2.out.be).iq.n_
            have h2 := HO2.out
            rw [show j = (m.at 1).length from h1.symm, parF_next] at h2
            rw [show j = (m.at 1).length from h1.symm]
            exact h2)
          go_wp2_with fail
          go_roundg 2
          case measure => omega
          case rel => exact ⟨2, hd2, rfl, by omega, by go_num, HON⟩
    | 2, _ =>
      go_wp2_with fail
      go_loopg [6] hn (fun q v6 wx => ∃ (j : Nat) (hd2 : Nat → Hd), q = hn - j ∧ j ≤ hn ∧ v6 = .int .i64 j ∧ Sl (OfSt w w2.heap.size w3.heap.size m ⟨pA, pn, pc⟩ ⟨sA, sn, sc⟩ ⟨hA, hn, hc⟩ ⟨kA, kn, kc⟩ (parF m 2 j) hd2 wx))
      case atStart => exact ⟨0, hd, rfl, Nat.zero_le _, rfl, HO⟩
      case round =>
        obtain ⟨j, hd2, hqj, hj, rfl, HO2⟩ := hrel
        have dl : wr.cell? ⟨w3.heap.size, 2, none⟩ = some (.slice hA hn hc) := HO2.out.la.cell 2
        by_cases hlt : j < hn
        · have HIt := Sl.mk ((HH.out.be HO2.out.be).ir)
          obtain ⟨x, hx⟩ : ∃ x, m.h[j]? = some x := ⟨_, List.getElem?_eq_getElem (by rw [HIt.out.n_]; exact hlt)⟩
          obtain ⟨ab, ao, hAe, hbl, hldx, _, _⟩ := (show Its w hA hn m.h from HH.out.ir).lit hx
          have HX := Sl.mk (show (m.at 2)[j]? = some x from hx)
          obtain ⟨xa, xb⟩ := x
          have i0w : w.cell? ⟨ab, ao + j * 2, none⟩ = some (.string (bsS xa)) := by
            have h1 := hldx 0 _ rfl
            rw [Addr.add_lit] at h1
            exact h1
          have i1w : w.cell? ⟨ab, ao + j * 2 + 1, none⟩ = some (.string (bsS xb)) := by
            have h1 := hldx 1 _ rfl
            rw [Addr.add_lit] at h1
            exact h1
          have HIc := Sl.mk (fun (W : World) (hW : Below w.heap.size w W) => show W.cell? ⟨ab, ao + j * 2, none⟩ = some (.string (bsS xa)) ∧ W.cell? ⟨ab, ao + j * 2 + 1, none⟩ = some (.string (bsS xb)) from
            ⟨(hW.cell (p := ⟨ab, ao + j * 2, none⟩) hbl).trans i0w, (hW.cell (p := ⟨ab, ao + j * 2 + 1, none⟩) hbl).trans i1w⟩)
          have HBL := Sl.mk hbl
          clear hx hldx i0w i1w hbl
          subst hAe
          obtain ⟨B, n2, c2, hhd⟩ : ∃ B n2 c2, hd2 2 = ⟨B, n2, c2⟩ := ⟨_, _, _, rfl⟩
          have HHD := Sl.mk hhd
          have hn2 : n2 ≤ 1000000 := by
            have h1 := (HO2.out.ls.own 2 (by omega)).n_
            rw [hhd] at h1
            have h2 : (parF m 2 j 2).length ≤ m.h.length := by
              unfold parF
              simp
              exact Nat.min_le_right _ _
            have h3 := HIt.out.n_
            simp only at h1 h3
            omega
          clear hhd
          go_wp2_with fail
          obtain ⟨wd, hwd⟩ : ∃ wd, wr.drew = wd := ⟨_, rfl⟩
          have HOd := Sl.mk (show OfSt w w2.heap.size w3.heap.size m ⟨pA, pn, pc⟩ ⟨sA, sn, sc⟩ ⟨(some ⟨ab, ao, none⟩), hn, hc⟩ ⟨kA, kn, kc⟩ (parF m 2 j) hd2 wd by rw [← hwd]; exact HO2.out.be_ (Below.refl _ _).drew)
          have hOw : wd.ownsRow (w3.heap.size + 1) 65 2 (.slice B n2 c2) n2 (itsC (parF m 2 j 2)) := by
            have h1 := HOd.out.ls.own 2 (by omega)
            unfold OwnR at h1
            rw [HHD.out] at h1
            exact h1
          have HSF : Sl (∀ W, (Blk W w2.heap.size 25 (ofA m hd2) ∧ Blk W w3.heap.size 64 #[.slice pA pn pc, .slice sA sn sc, .slice (some ⟨ab, ao, none⟩) hn hc, .slice kA kn kc] ∧ W.cell? ⟨ab, ao + j * 2, none⟩ = some (.string (bsS xa)) ∧ W.cell? ⟨ab, ao + j * 2 + 1, none⟩ = some (.string (bsS xb))) → W.cell? ⟨w2.heap.size, 5, none⟩ = some (.slice B n2 c2) ∧ (W.cell? ⟨w3.heap.size, 2, none⟩ = some (.slice (some ⟨ab, ao, none⟩) hn hc) ∧ W.cell? ⟨ab, ao + j * 2, none⟩ = some (.string (bsS xa)) ∧ W.cell? ⟨ab, ao + j * 2 + 1, none⟩ = some (.string (bsS xb)))) :=
            Sl.mk (fun W hW => ⟨(hW.1.cell 5).trans (show some (hd2 2).v = _ by rw [HHD.out]; rfl), hW.2.1.cell 2, hW.2.2.1, hW.2.2.2⟩)
          refine wp_region_X (fun W => Blk W w2.heap.size 25 (ofA m hd2) ∧ Blk W w3.heap.size 64 #[.slice pA pn pc, .slice sA sn sc, .slice (some ⟨ab, ao, none⟩) hn hc, .slice kA kn kc] ∧ W.cell? ⟨ab, ao + j * 2, none⟩ = some (.string (bsS xa)) ∧ W.cell? ⟨ab, ao + j * 2 + 1, none⟩ = some (.string (bsS xb))) [23, 24] (by kernel_rfl) (by rw [hwd]; exact ⟨HOd.out.ou, HOd.out.la, HIc.out _ HOd.out.be⟩) (fun hS => ?_)
          rw [hwd] at hS ⊢
          clear hwd dl
          refine wpAnyX_S (i := 0) (v := ?_) rfl (by kernel_rfl) (by kernel_rfl) (by kernel_rfl) (by kernel_rfl) (fun _ _ _ h => h) (Or.inl ⟨by rfl, ?_⟩) hS ?_
          rotate_left 1
          · (intro w' hw'; (first | rw [hw'] | (have hw2 := HSF.out w' hw'; (try obtain ⟨hw2, hw3⟩ := hw2)) | skip); go_simp; (try with_reducible rfl))
          simp only [Act.put, List.setIfInBounds_toArray, List.set_cons_zero, List.set_cons_succ]
          refine wpAnyX_S (i := 1) (v := ?_) rfl (by kernel_rfl) (by kernel_rfl) (by kernel_rfl) (by kernel_rfl) (fun _ _ _ h => h) (Or.inl ⟨by rfl, ?_⟩) hS ?_
          rotate_left 1
          · (intro w' hw'; (first | rw [hw'] | (have hw2 := HSF.out w' hw'; (try obtain ⟨hw2, hw3⟩ := hw2)) | skip); go_simp; (try with_reducible rfl))
          simp only [Act.put, List.setIfInBounds_toArray, List.set_cons_zero, List.set_cons_succ]
          refine wpAnyX_S (i := 2) (v := ?_) rfl (by kernel_rfl) (by kernel_rfl) (by kernel_rfl) (by kernel_rfl) (fun _ _ _ h => h) (Or.inl ⟨by rfl, ?_⟩) hS ?_
          rotate_left 1
          · (intro w' hw'; (first | rw [hw'] | (have hw2 := HSF.out w' hw'; (try obtain ⟨hw2, hw3⟩ := hw2)) | skip); go_simp; (try with_reducible rfl))
          simp only [Act.put, List.setIfInBounds_toArray, List.set_cons_zero, List.set_cons_succ]
          refine wpAnyX_S (i := 3) (v := ?_) rfl (by kernel_rfl) (by kernel_rfl) (by kernel_rfl) (by kernel_rfl) (fun _ _ _ h => h) (Or.inl ⟨by rfl, ?_⟩) hS ?_
          rotate_left 1
          · (intro w' hw'; (first | rw [hw'] | (have hw2 := HSF.out w' hw'; (try obtain ⟨hw2, hw3⟩ := hw2)) | skip); go_simp; (try with_reducible rfl))
          simp only [Act.put, List.setIfInBounds_toArray, List.set_cons_zero, List.set_cons_succ]
          refine wpAnyX_S (i := 4) (v := ?_) rfl (by kernel_rfl) (by kernel_rfl) (by kernel_rfl) (by kernel_rfl) (fun _ _ _ h => h) (Or.inl ⟨by rfl, ?_⟩) hS ?_
          rotate_left 1
          · (intro w' hw'; (first | rw [hw'] | (have hw2 := HSF.out w' hw'; (try obtain ⟨hw2, hw3⟩ := hw2)) | skip); go_simp; (try with_reducible rfl))
          simp only [Act.put, List.setIfInBounds_toArray, List.set_cons_zero, List.set_cons_succ]
          refine wpAnyX_S (i := 5) (v := ?_) rfl (by kernel_rfl) (by kernel_rfl) (by kernel_rfl) (by kernel_rfl) (fun _ _ _ h => h) (Or.inl ⟨by rfl, ?_⟩) hS ?_
          rotate_left 1
          · (intro w' hw'; (first | rw [hw'] | (have hw2 := HSF.out w' hw'; (try obtain ⟨hw2, hw3⟩ := hw2)) | skip); go_simp; (try with_reducible rfl))
          simp only [Act.put, List.setIfInBounds_toArray, List.set_cons_zero, List.set_cons_succ]
          refine wpAnyX_S (i := 6) (v := ?_) rfl (by kernel_rfl) (by kernel_rfl) (by kernel_rfl) (by kernel_rfl) (fun _ _ _ h => h) (Or.inl ⟨by rfl, ?_⟩) hS ?_
          rotate_left 1
          · (intro w' hw'; (first | rw [hw'] | (have hw2 := HSF.out w' hw'; (try obtain ⟨hw2, hw3⟩ := hw2)) | skip); go_simp; (try with_reducible rfl))
          simp only [Act.put, List.setIfInBounds_toArray, List.set_cons_zero, List.set_cons_succ]
          refine wpAnyX_S (i := 7) (v := ?_) rfl (by kernel_rfl) (by kernel_rfl) (by kernel_rfl) (by kernel_rfl) (fun _ _ _ h => h) (Or.inl ⟨by rfl, ?_⟩) hS ?_
          rotate_left 1
          · (intro w' hw'; (first | rw [hw'] | (have hw2 := HSF.out w' hw'; (try obtain ⟨hw2, hw3⟩ := hw2)) | skip); go_simp; (try with_reducible rfl))
          simp only [Act.put, List.setIfInBounds_toArray, List.set_cons_zero, List.set_cons_succ]
          refine wpAnyX_S (i := 8) (v := ?_) rfl (by kernel_rfl) (by kernel_rfl) (by kernel_rfl) (by kernel_rfl) (fun _ _ _ h => h) (Or.inl ⟨by rfl, ?_⟩) hS ?_
          rotate_left 1
          · (intro w' hw'; (first | rw [hw'] | (have hw2 := HSF.out w' hw'; (try obtain ⟨hw2, hw3⟩ := hw2)) | skip); go_simp; (try with_reducible rfl))
          simp only [Act.put, List.setIfInBounds_toArray, List.set_cons_zero, List.set_cons_succ]
          refine wpAnyX_S (i := 9) (v := ?_) rfl (by kernel_rfl) (by kernel_rfl) (by kernel_rfl) (by kernel_rfl) (fun _ _ _ h => h) (Or.inl ⟨by rfl, ?_⟩) hS ?_
          rotate_left 1
          · (intro w' hw'; (first | rw [hw'] | (have hw2 := HSF.out w' hw'; (try obtain ⟨hw2, hw3⟩ := hw2)) | skip); go_simp; (try with_reducible rfl))
          simp only [Act.put, List.setIfInBounds_toArray, List.set_cons_zero, List.set_cons_succ]
          refine wpAnyX_S (i := 10) (v := ?_) rfl (by kernel_rfl) (by kernel_rfl) (by kernel_rfl) (by kernel_rfl) (fun _ _ _ h => h) (Or.inl ⟨by rfl, ?_⟩) hS ?_
          rotate_left 1
          · (intro w' hw'; (first | rw [hw'] | (have hw2 := HSF.out w' hw'; (try obtain ⟨hw2, hw3⟩ := hw2)) | skip); go_simp; (try with_reducible rfl))
          simp only [Act.put, List.setIfInBounds_toArray, List.set_cons_zero, List.set_cons_succ]
          refine wpAnyX_S (i := 11) (v := ?_) rfl (by kernel_rfl) (by kernel_rfl) (by kernel_rfl) (by kernel_rfl) (fun _ _ _ h => h) (Or.inl ⟨by rfl, ?_⟩) hS ?_
          rotate_left 1
          · (intro w' hw'; (first | rw [hw'] | (have hw2 := HSF.out w' hw'; (try obtain ⟨hw2, hw3⟩ := hw2)) | skip); go_simp; (try with_reducible rfl))
          simp only [Act.put, List.setIfInBounds_toArray, List.set_cons_zero, List.set_cons_succ]
          refine wpAnyX_S (i := 12) (v := ?_) rfl (by kernel_rfl) (by kernel_rfl) (by kernel_rfl) (by kernel_rfl) (fun _ _ _ h => h) (Or.inl ⟨by rfl, ?_⟩) hS ?_
          rotate_left 1
          · (intro w' hw'; (first | rw [hw'] | (have hw2 := HSF.out w' hw'; (try obtain ⟨hw2, hw3⟩ := hw2)) | skip); go_simp; (try with_reducible rfl))
          simp only [Act.put, List.setIfInBounds_toArray, List.set_cons_zero, List.set_cons_succ]
          refine wpAnyX_S (i := 13) (v := ?_) rfl (by kernel_rfl) (by kernel_rfl) (by kernel_rfl) (by kernel_rfl) (fun _ _ _ h => h) (Or.inl ⟨by rfl, ?_⟩) hS ?_
          rotate_left 1
          · (intro w' hw'; (first | rw [hw'] | (have hw2 := HSF.out w' hw'; (try obtain ⟨hw2, hw3⟩ := hw2)) | skip); go_simp; (try with_reducible rfl))
          simp only [Act.put, List.setIfInBounds_toArray, List.set_cons_zero, List.set_cons_succ]
          refine wpAnyX_S (i := 14) (v := ?_) rfl (by kernel_rfl) (by kernel_rfl) (by kernel_rfl) (by kernel_rfl) (fun _ _ _ h => h) (Or.inl ⟨by rfl, ?_⟩) hS ?_
          rotate_left 1
          · (intro w' hw'; (first | rw [hw'] | (have hw2 := HSF.out w' hw'; (try obtain ⟨hw2, hw3⟩ := hw2)) | skip); go_simp; (try with_reducible rfl))
          simp only [Act.put, List.setIfInBounds_toArray, List.set_cons_zero, List.set_cons_succ]
          refine wpAnyX_S (i := 15) (v := ?_) rfl (by kernel_rfl) (by kernel_rfl) (by kernel_rfl) (by kernel_rfl) (fun _ _ _ h => h) (Or.inl ⟨by rfl, ?_⟩) hS ?_
          rotate_left 1
          · (intro w' hw'; (first | rw [hw'] | (have hw2 := HSF.out w' hw'; (try obtain ⟨hw2, hw3⟩ := hw2)) | skip); go_simp; (try with_reducible rfl))
          simp only [Act.put, List.setIfInBounds_toArray, List.set_cons_zero, List.set_cons_succ]
          refine wpAnyX_S (i := 16) (v := ?_) rfl (by kernel_rfl) (by kernel_rfl) (by kernel_rfl) (by kernel_rfl) (fun _ _ _ h => h) (Or.inl ⟨by rfl, ?_⟩) hS ?_
          rotate_left 1
          · (intro w' hw'; (first | rw [hw'] | (have hw2 := HSF.out w' hw'; (try obtain ⟨hw2, hw3⟩ := hw2)) | skip); go_simp; (try with_reducible rfl))
          simp only [Act.put, List.setIfInBounds_toArray, List.set_cons_zero, List.set_cons_succ]
          refine wpAnyX_S (i := 17) (v := ?_) rfl (by kernel_rfl) (by kernel_rfl) (by kernel_rfl) (by kernel_rfl) (fun _ _ _ h => h) (Or.inl ⟨by rfl, ?_⟩) hS ?_
          rotate_left 1
          · (intro w' hw'; (first | rw [hw'] | (have hw2 := HSF.out w' hw'; (try obtain ⟨hw2, hw3⟩ := hw2)) | skip); go_simp; (try with_reducible rfl))
          simp only [Act.put, List.setIfInBounds_toArray, List.set_cons_zero, List.set_cons_succ]
          refine wpAnyX_S (i := 18) (v := ?_) rfl (by kernel_rfl) (by kernel_rfl) (by kernel_rfl) (by kernel_rfl) (fun _ _ _ h => h) (Or.inl ⟨by rfl, ?_⟩) hS ?_
          rotate_left 1
          · (intro w' hw'; (first | rw [hw'] | (have hw2 := HSF.out w' hw'; (try obtain ⟨hw2, hw3⟩ := hw2)) | skip); go_simp; (try with_reducible rfl))
          simp only [Act.put, List.setIfInBounds_toArray, List.set_cons_zero, List.set_cons_succ]
          refine wpAnyX_S (i := 19) (v := ?_) rfl (by kernel_rfl) (by kernel_rfl) (by kernel_rfl) (by kernel_rfl) (fun _ _ _ h => h) (Or.inl ⟨by rfl, ?_⟩) hS ?_
          rotate_left 1
          · (intro w' hw'; (first | rw [hw'] | (have hw2 := HSF.out w' hw'; (try obtain ⟨hw2, hw3⟩ := hw2)) | skip); go_simp; (try with_reducible rfl))
          simp only [Act.put, List.setIfInBounds_toArray, List.set_cons_zero, List.set_cons_succ]
          refine wpAnyX_S (i := 22) (v := ?_) rfl (by kernel_rfl) (by kernel_rfl) (by kernel_rfl) (by kernel_rfl) (fun _ _ _ h => h) (Or.inl ⟨by rfl, ?_⟩) hS ?_
          rotate_left 1
          · (intro w' hw'; (first | rw [hw'] | (have hw2 := HSF.out w' hw'; (try obtain ⟨hw2, hw3⟩ := hw2)) | skip); go_simp; (try with_reducible rfl))
          simp only [Act.put, List.setIfInBounds_toArray, List.set_cons_zero, List.set_cons_succ]
          refine wpAnyX_oneL (k := 20) rfl (by kernel_rfl) rfl ?_
          refine wp_of_run (v := .slice (some ⟨wd.heap.size, 0, none⟩) 1 1) (w' := wd.alloc (.cells #[.string (bsS xa), .string (bsS xb)] 65)) (by go_simp) ⟨fun _ => ⟨hS.1.alloc _, hS.2.1.alloc _, Lib.cell?_alloc_some _ hS.2.2.1, Lib.cell?_alloc_some _ hS.2.2.2⟩, ?_⟩
          simp only [Act.put, List.setIfInBounds_toArray, List.set_cons_zero, List.set_cons_succ]
          refine wpAnyX_oneL (k := 21) rfl (by kernel_rfl) rfl ?_
          have hbd : w3.heap.size + 1 ≤ (wd.alloc (.cells #[.string (bsS xa), .string (bsS xb)] 65)).heap.size := by have := HOd.out.la.lt; simp; omega
          refine wp_append_any _ (.tmp 39) (.tmp 55) 22 rfl (w3.heap.size + 1) 65 i0 (.agg #[.string ⟨#[]⟩, .string ⟨#[]⟩]) 2 32 Tryd.underlying22 hi0 hz0 hz1 hz2 rfl (by decide) _ _ _ rfl (hOw.alloc _) (wd.heap.size + 1) _ 1 1 [.string (bsS xa), .string (bsS xb)] rfl (reads_row2 wd _ _ _ (Nat.lt_succ_self _)) (itC_one ⟨xa, xb⟩) (by unfold maxLen; omega) (by omega) hbd ?_
          intro v9 w9 ho9 hg9 hb9
          obtain ⟨A9, c9, hv9⟩ := ownForm ho9
          subst hv9
          have hadd := HOd.out.add (i := 2) (x := ⟨xa, xb⟩) (o := .cells #[.string (bsS xa), .string (bsS xb)] 65) (y := ⟨A9, n2 + 1, c9⟩) (w9 := w9) (by omega) HSZ.out.1 HSZ.out.2.1 HX.out (by
            show w9.ownsRow (w3.heap.size + 1) 65 2 (.slice A9 (n2 + 1) c9) (n2 + 1) (itsC (parF m 2 j 2 ++ [⟨xa, xb⟩]))
            rw [itsC_app, itsC_sing]
            exact ho9) (by rw [HHD.out]; exact hg9) (by rw [HHD.out]; exact hb9)
          have HADD := Sl.mk hadd
          have hla9 := (HOd.out.la.alloc (.cells #[.string (bsS xa), .string (bsS xb)] 65)).grown hg9 (fun e => own_blk_ne (World.ownsRow.alloc hOw (.cells #[.string (bsS xa), .string (bsS xb)] 65)) (HOd.out.la.alloc (.cells #[.string (bsS xa), .string (bsS xb)] 65)) (by decide) e.symm)
          have hic : ∀ (q : Nat) (v : Value), wd.cell? ⟨ab, q, none⟩ = some v → w9.cell? ⟨ab, q, none⟩ = some v := fun q v hq => hg9.cell (Lib.cell?_alloc_some _ hq) (fun e => by
            have h1 := ownGe hOw (g := ab) e.symm
            have h2 := HBL.out
            have h3 := HSZ.out
            omega)
          refine ⟨fun _ => ⟨HADD.out.1, hla9, hic _ _ hS.2.2.1, hic _ _ hS.2.2.2⟩, ?_⟩
          simp only [Act.put, List.setIfInBounds_toArray, List.set_cons_zero, List.set_cons_succ]
          have d2 := HADD.out.1.cell 5
          have f2 := HADD.out.1.frozen 5
          clear hS hbd ho9 hg9 hb9 hadd hla9 hic hOw HSF
          refine wpAnyX_tailF [23, 24] (by kernel_rfl) (by rfl) (by rfl) (by rfl) ?_
          simp only [List.filterMap_cons, List.filterMap_nil, List.getElem?_cons_succ, List.getElem?_cons_zero]
          go_wp2_with fail
          refine NoPanic.normal ?_
          go_wp2_with fail
          go_roundg (hn - (j + 1))
          case measure => omega
          case rel => exact ⟨j + 1, _, rfl, by omega, by go_num, ⟨HADD.out.2⟩⟩
        · obtain rfl : j = hn := by omega
          have HON := Sl.mk (show OfSt w w2.heap.size w3.heap.size m ⟨pA, pn, pc⟩ ⟨sA, sn, sc⟩ ⟨hA, j, hc⟩ ⟨kA, kn, kc⟩ (parF m 3 0) hd2 wr by
            have h1 := (HH.out.be HO2.out.be).ir.n_
            have h2 := HO2.out
            rw [show j = (m.at 2).length from h1.symm, parF_next] at h2
            rw [show j = (m.at 2).length from h1.symm]
            exact h2)
          go_wp2_with fail
          go_roundg 1
          case measure => omega
          case rel => exact ⟨3, hd2, rfl, by omega, by go_num, HON⟩
    | 3, _ =>
      go_wp2_with fail
      go_loopg [6] kn (fun q v6 wx => ∃ (j : Nat) (hd2 : Nat → Hd), q = kn - j ∧ j ≤ kn ∧ v6 = .int .i64 j ∧ Sl (OfSt w w2.heap.size w3.heap.size m ⟨pA, pn, pc⟩ ⟨sA, sn, sc⟩ ⟨hA, hn, hc⟩ ⟨kA, kn, kc⟩ (parF m 3 j) hd2 wx))
      case atStart => exact ⟨0, hd, rfl, Nat.zero_le _, rfl, HO⟩
      case round =>
        obtain ⟨j, hd2, hqj, hj, rfl, HO2⟩ := hrel
        have dl : wr.cell? ⟨w3.heap.size, 3, none⟩ = some (.slice kA kn kc) := HO2.out.la.cell 3
        by_cases hlt : j < kn
        · have HIt := Sl.mk ((HH.out.be HO2.out.be).iw)
          obtain ⟨x, hx⟩ : ∃ x, m.w[j]? = some x := ⟨_, List.getElem?_eq_getElem (by rw [HIt.out.n_]; exact hlt)⟩
          obtain ⟨ab, ao, hAe, hbl, hldx, _, _⟩ := (show Its w kA kn m.w from HH.out.iw).lit hx
          have HX := Sl.mk (show (m.at 3)[j]? = some x from hx)
          obtain ⟨xa, xb⟩ := x
          have i0w : w.cell? ⟨ab, ao + j * 2, none⟩ = some (.string (bsS xa)) := by
            have h1 := hldx 0 _ rfl
            rw [Addr.add_lit] at h1
            exact h1
          have i1w : w.cell? ⟨ab, ao + j * 2 + 1, none⟩ = some (.string (bsS xb)) := by
            have h1 := hldx 1 _ rfl
            rw [Addr.add_lit] at h1
            exact h1
          have HIc := Sl.mk (fun (W : World) (hW : Below w.heap.size w W) => show W.cell? ⟨ab, ao + j * 2, none⟩ = some (.string (bsS xa)) ∧ W.cell? ⟨ab, ao + j * 2 + 1, none⟩ = some (.string (bsS xb)) from
            ⟨(hW.cell (p := ⟨ab, ao + j * 2, none⟩) hbl).trans i0w, (hW.cell (p := ⟨ab, ao + j * 2 + 1, none⟩) hbl).trans i1w⟩)
          have HBL := Sl.mk hbl
          clear hx hldx i0w i1w hbl
          subst hAe
          obtain ⟨B, n2, c2, hhd⟩ : ∃ B n2 c2, hd2 3 = ⟨B, n2, c2⟩ := ⟨_, _, _, rfl⟩
          have HHD := Sl.mk hhd
          have hn2 : n2 ≤ 1000000 := by
            have h1 := (HO2.out.ls.own 3 (by omega)).n_
            rw [hhd] at h1
            have h2 : (parF m 3 j 3).length ≤ m.w.length := by
              unfold parF
              simp
              exact Nat.min_le_right _ _
            have h3 := HIt.out.n_
            simp only at h1 h3
            omega
          clear hhd
          go_wp2_with fail
          obtain ⟨wd, hwd⟩ : ∃ wd, wr.drew = wd := ⟨_, rfl⟩
          have HOd := Sl.mk (show OfSt w w2.heap.size w3.heap.size m ⟨pA, pn, pc⟩ ⟨sA, sn, sc⟩ ⟨hA, hn, hc⟩ ⟨(some ⟨ab, ao, none⟩), kn, kc⟩ (parF m 3 j) hd2 wd by rw [← hwd]; exact HO2.out.be_ (Below.refl _ _).drew)
          have hOw : wd.ownsRow (w3.heap.size + 1) 65 2 (.slice B n2 c2) n2 (itsC (parF m 3 j 3)) := by
            have h1 := HOd.out.ls.own 3 (by omega)
            unfold OwnR at h1
            rw [HHD.out] at h1
            exact h1
          have HSF : Sl (∀ W, (Blk W w2.heap.size 25 (ofA m hd2) ∧ Blk W w3.heap.size 64 #[.slice pA pn pc, .slice sA sn sc, .slice hA hn hc, .slice (some ⟨ab, ao, none⟩) kn kc] ∧ W.cell? ⟨ab, ao + j * 2, none⟩ = some (.string (bsS xa)) ∧ W.cell? ⟨ab, ao + j * 2 + 1, none⟩ = some (.string (bsS xb))) → W.cell? ⟨w2.heap.size, 6, none⟩ = some (.slice B n2 c2) ∧ (W.cell? ⟨w3.heap.size, 3, none⟩ = some (.slice (some ⟨ab, ao, none⟩) kn kc) ∧ W.cell? ⟨ab, ao + j * 2, none⟩ = some (.string (bsS xa)) ∧ W.cell? ⟨ab, ao + j * 2 + 1, none⟩ = some (.string (bsS xb)))) :=
            Sl.mk (fun W hW => ⟨(hW.1.cell 6).trans (show some (hd2 3).v = _ by rw [HHD.out]; rfl), hW.2.1.cell 3, hW.2.2.1, hW.2.2.2⟩)
          refine wp_region_X (fun W => Blk W w2.heap.size 25 (ofA m hd2) ∧ Blk W w3.heap.size 64 #[.slice pA pn pc, .slice sA sn sc, .slice hA hn hc, .slice (some ⟨ab, ao, none⟩) kn kc] ∧ W.cell? ⟨ab, ao + j * 2, none⟩ = some (.string (bsS xa)) ∧ W.cell? ⟨ab, ao + j * 2 + 1, none⟩ = some (.string (bsS xb))) [23, 24] (by kernel_rfl) (by rw [hwd]; exact ⟨HOd.out.ou, HOd.out.la, HIc.out _ HOd.out.be⟩) (fun hS => ?_)
          rw [hwd] at hS ⊢
          clear hwd dl
          refine wpAnyX_S (i := 0) (v := ?_) rfl (by kernel_rfl) (by kernel_rfl) (by kernel_rfl) (by kernel_rfl) (fun _ _ _ h => h) (Or.inl ⟨by rfl, ?_⟩) hS ?_
          rotate_left 1
          · (intro w' hw'; (first | rw [hw'] | (have hw2 := HSF.out w' hw'; (try obtain ⟨hw2, hw3⟩ := hw2)) | skip); go_simp; (try with_reducible rfl))
          simp only [Act.put, List.setIfInBounds_toArray, List.set_cons_zero, List.set_cons_succ]
          refine wpAnyX_S (i := 1) (v := ?_) rfl (by kernel_rfl) (by kernel_rfl) (by kernel_rfl) (by kernel_rfl) (fun _ _ _ h => h) (Or.inl ⟨by rfl, ?_⟩) hS ?_
          rotate_left 1
          · (intro w' hw'; (first | rw [hw'] | (have hw2 := HSF.out w' hw'; (try obtain ⟨hw2, hw3⟩ := hw2)) | skip); go_simp; (try with_reducible rfl))
          simp only [Act.put, List.setIfInBounds_toArray, List.set_cons_zero, List.set_cons_succ]
          refine wpAnyX_S (i := 2) (v := ?_) rfl (by kernel_rfl) (by kernel_rfl) (by kernel_rfl) (by kernel_rfl) (fun _ _ _ h => h) (Or.inl ⟨by rfl, ?_⟩) hS ?_
          rotate_left 1
          · (intro w' hw'; (first | rw [hw'] | (have hw2 := HSF.out w' hw'; (try obtain ⟨hw2, hw3⟩ := hw2)) | skip); go_simp; (try with_reducible rfl))
          simp only [Act.put, List.setIfInBounds_toArray, List.set_cons_zero, List.set_cons_succ]
          refine wpAnyX_S (i := 3) (v := ?_) rfl (by kernel_rfl) (by kernel_rfl) (by kernel_rfl) (by kernel_rfl) (fun _ _ _ h => h) (Or.inl ⟨by rfl, ?_⟩) hS ?_
          rotate_left 1
          · (intro w' hw'; (first | rw [hw'] | (have hw2 := HSF.out w' hw'; (try obtain ⟨hw2, hw3⟩ := hw2)) | skip); go_simp; (try with_reducible rfl))
          simp only [Act.put, List.setIfInBounds_toArray, List.set_cons_zero, List.set_cons_succ]
          refine wpAnyX_S (i := 4) (v := ?_) rfl (by kernel_rfl) (by kernel_rfl) (by kernel_rfl) (by kernel_rfl) (fun _ _ _ h => h) (Or.inl ⟨by rfl, ?_⟩) hS ?_
          rotate_left 1
          · (intro w' hw'; (first | rw [hw'] | (have hw2 := HSF.out w' hw'; (try obtain ⟨hw2, hw3⟩ := hw2)) | skip); go_simp; (try with_reducible rfl))
          simp only [Act.put, List.setIfInBounds_toArray, List.set_cons_zero, List.set_cons_succ]
          refine wpAnyX_S (i := 5) (v := ?_) rfl (by kernel_rfl) (by kernel_rfl) (by kernel_rfl) (by kernel_rfl) (fun _ _ _ h => h) (Or.inl ⟨by rfl, ?_⟩) hS ?_
          rotate_left 1
          · (intro w' hw'; (first | rw [hw'] | (have hw2 := HSF.out w' hw'; (try obtain ⟨hw2, hw3⟩ := hw2)) | skip); go_simp; (try with_reducible rfl))
          simp only [Act.put, List.setIfInBounds_toArray, List.set_cons_zero, List.set_cons_succ]
          refine wpAnyX_S (i := 6) (v := ?_) rfl (by kernel_rfl) (by kernel_rfl) (by kernel_rfl) (by kernel_rfl) (fun _ _ _ h => h) (Or.inl ⟨by rfl, ?_⟩) hS ?_
          rotate_left 1
          · (intro w' hw'; (first | rw [hw'] | (have hw2 := HSF.out w' hw'; (try obtain ⟨hw2, hw3⟩ := hw2)) | skip); go_simp; (try with_reducible rfl))
          simp only [Act.put, List.setIfInBounds_toArray, List.set_cons_zero, List.set_cons_succ]
          refine wpAnyX_S (i := 7) (v := ?_) rfl (by kernel_rfl) (by kernel_rfl) (by kernel_rfl) (by kernel_rfl) (fun _ _ _ h => h) (Or.inl ⟨by rfl, ?_⟩) hS ?_
          rotate_left 1
          · (intro w' hw'; (first | rw [hw'] | (have hw2 := HSF.out w' hw'; (try obtain ⟨hw2, hw3⟩ := hw2)) | skip); go_simp; (try with_reducible rfl))
          simp only [Act.put, List.setIfInBounds_toArray, List.set_cons_zero, List.set_cons_succ]
          refine wpAnyX_S (i := 8) (v := ?_) rfl (by kernel_rfl) (by kernel_rfl) (by kernel_rfl) (by kernel_rfl) (fun _ _ _ h => h) (Or.inl ⟨by rfl, ?_⟩) hS ?_
          rotate_left 1
          · (intro w' hw'; (first | rw [hw'] | (have hw2 := HSF.out w' hw'; (try obtain ⟨hw2, hw3⟩ := hw2)) | skip); go_simp; (try with_reducible rfl))
          simp only [Act.put, List.setIfInBounds_toArray, List.set_cons_zero, List.set_cons_succ]
          refine wpAnyX_S (i := 9) (v := ?_) rfl (by kernel_rfl) (by kernel_rfl) (by kernel_rfl) (by kernel_rfl) (fun _ _ _ h => h) (Or.inl ⟨by rfl, ?_⟩) hS ?_
          rotate_left 1
          · (intro w' hw'; (first | rw [hw'] | (have hw2 := HSF.out w' hw'; (try obtain ⟨hw2, hw3⟩ := hw2)) | skip); go_simp; (try with_reducible rfl))
          simp only [Act.put, List.setIfInBounds_toArray, List.set_cons_zero, List.set_cons_succ]
          refine wpAnyX_S (i := 10) (v := ?_) rfl (by kernel_rfl) (by kernel_rfl) (by kernel_rfl) (by kernel_rfl) (fun _ _ _ h => h) (Or.inl ⟨by rfl, ?_⟩) hS ?_
          rotate_left 1
          · (intro w' hw'; (first | rw [hw'] | (have hw2 := HSF.out w' hw'; (try obtain ⟨hw2, hw3⟩ := hw2)) | skip); go_simp; (try with_reducible rfl))
          simp only [Act.put, List.setIfInBounds_toArray, List.set_cons_zero, List.set_cons_succ]
          refine wpAnyX_S (i := 11) (v := ?_) rfl (by kernel_rfl) (by kernel_rfl) (by kernel_rfl) (by kernel_rfl) (fun _ _ _ h => h) (Or.inl ⟨by rfl, ?_⟩) hS ?_
          rotate_left 1
          · (intro w' hw'; (first | rw [hw'] | (have hw2 := HSF.out w' hw'; (try obtain ⟨hw2, hw3⟩ := hw2)) | skip); go_simp; (try with_reducible rfl))
          simp only [Act.put, List.setIfInBounds_toArray, List.set_cons_zero, List.set_cons_succ]
          refine wpAnyX_S (i := 12) (v := ?_) rfl (by kernel_rfl) (by kernel_rfl) (by kernel_rfl) (by kernel_rfl) (fun _ _ _ h => h) (Or.inl ⟨by rfl, ?_⟩) hS ?_
          rotate_left 1
          · (intro w' hw'; (first | rw [hw'] | (have hw2 := HSF.out w' hw'; (try obtain ⟨hw2, hw3⟩ := hw2)) | skip); go_simp; (try with_reducible rfl))
          simp only [Act.put, List.setIfInBounds_toArray, List.set_cons_zero, List.set_cons_succ]
          refine wpAnyX_S (i := 13) (v := ?_) rfl (by kernel_rfl) (by kernel_rfl) (by kernel_rfl) (by kernel_rfl) (fun _ _ _ h => h) (Or.inl ⟨by rfl, ?_⟩) hS ?_
          rotate_left 1
          · (intro w' hw'; (first | rw [hw'] | (have hw2 := HSF.out w' hw'; (try obtain ⟨hw2, hw3⟩ := hw2)) | skip); go_simp; (try with_reducible rfl))
          simp only [Act.put, List.setIfInBounds_toArray, List.set_cons_zero, List.set_cons_succ]
          refine wpAnyX_S (i := 14) (v := ?_) rfl (by kernel_rfl) (by kernel_rfl) (by kernel_rfl) (by kernel_rfl) (fun _ _ _ h => h) (Or.inl ⟨by rfl, ?_⟩) hS ?_
          rotate_left 1
          · (intro w' hw'; (first | rw [hw'] | (have hw2 := HSF.out w' hw'; (try obtain ⟨hw2, hw3⟩ := hw2)) | skip); go_simp; (try with_reducible rfl))
          simp only [Act.put, List.setIfInBounds_toArray, List.set_cons_zero, List.set_cons_succ]
          refine wpAnyX_S (i := 15) (v := ?_) rfl (by kernel_rfl) (by kernel_rfl) (by kernel_rfl) (by kernel_rfl) (fun _ _ _ h => h) (Or.inl ⟨by rfl, ?_⟩) hS ?_
          rotate_left 1
          · (intro w' hw'; (first | rw [hw'] | (have hw2 := HSF.out w' hw'; (try obtain ⟨hw2, hw3⟩ := hw2)) | skip); go_simp; (try with_reducible rfl))
          simp only [Act.put, List.setIfInBounds_toArray, List.set_cons_zero, List.set_cons_succ]
          refine wpAnyX_S (i := 16) (v := ?_) rfl (by kernel_rfl) (by kernel_rfl) (by kernel_rfl) (by kernel_rfl) (fun _ _ _ h => h) (Or.inl ⟨by rfl, ?_⟩) hS ?_
          rotate_left 1
          · (intro w' hw'; (first | rw [hw'] | (have hw2 := HSF.out w' hw'; (try obtain ⟨hw2, hw3⟩ := hw2)) | skip); go_simp; (try with_reducible rfl))
          simp only [Act.put, List.setIfInBounds_toArray, List.set_cons_zero, List.set_cons_succ]
          refine wpAnyX_S (i := 17) (v := ?_) rfl (by kernel_rfl) (by kernel_rfl) (by kernel_rfl) (by kernel_rfl) (fun _ _ _ h => h) (Or.inl ⟨by rfl, ?_⟩) hS ?_
          rotate_left 1
          · (intro w' hw'; (first | rw [hw'] | (have hw2 := HSF.out w' hw'; (try obtain ⟨hw2, hw3⟩ := hw2)) | skip); go_simp; (try with_reducible rfl))
          simp only [Act.put, List.setIfInBounds_toArray, List.set_cons_zero, List.set_cons_succ]
          refine wpAnyX_S (i := 18) (v := ?_) rfl (by kernel_rfl) (by kernel_rfl) (by kernel_rfl) (by kernel_rfl) (fun _ _ _ h => h) (Or.inl ⟨by rfl, ?_⟩) hS ?_
          rotate_left 1
          · (intro w' hw'; (first | rw [hw'] | (have hw2 := HSF.out w' hw'; (try obtain ⟨hw2, hw3⟩ := hw2)) | skip); go_simp; (try with_reducible rfl))
          simp only [Act.put, List.setIfInBounds_toArray, List.set_cons_zero, List.set_cons_succ]
          refine wpAnyX_S (i := 19) (v := ?_) rfl (by kernel_rfl) (by kernel_rfl) (by kernel_rfl) (by kernel_rfl) (fun _ _ _ h => h) (Or.inl ⟨by rfl, ?_⟩) hS ?_
          rotate_left 1
          · (intro w' hw'; (first | rw [hw'] | (have hw2 := HSF.out w' hw'; (try obtain ⟨hw2, hw3⟩ := hw2)) | skip); go_simp; (try with_reducible rfl))
          simp only [Act.put, List.setIfInBounds_toArray, List.set_cons_zero, List.set_cons_succ]
          refine wpAnyX_S (i := 22) (v := ?_) rfl (by kernel_rfl) (by kernel_rfl) (by kernel_rfl) (by kernel_rfl) (fun _ _ _ h => h) (Or.inl ⟨by rfl, ?_⟩) hS ?_
          rotate_left 1
          · (intro w' hw'; (first | rw [hw'] | (have hw2 := HSF.out w' hw'; (try obtain ⟨hw2, hw3⟩ := hw2)) | skip); go_simp; (try with_reducible rfl))
          simp only [Act.put, List.setIfInBounds_toArray, List.set_cons_zero, List.set_cons_succ]
          refine wpAnyX_oneL (k := 20) rfl (by kernel_rfl) rfl ?_
          refine wp_of_run (v := .slice (some ⟨wd.heap.size, 0, none⟩) 1 1) (w' := wd.alloc (.cells #[.string (bsS xa), .string (bsS xb)] 65)) (by go_simp) ⟨fun _ => ⟨hS.1.alloc _, hS.2.1.alloc _, Lib.cell?_alloc_some _ hS.2.2.1, Lib.cell?_alloc_some _ hS.2.2.2⟩, ?_⟩
          simp only [Act.put, List.setIfInBounds_toArray, List.set_cons_zero, List.set_cons_succ]
          refine wpAnyX_oneL (k := 21) rfl (by kernel_rfl) rfl ?_
          have hbd : w3.heap.size + 1 ≤ (wd.alloc (.cells #[.string (bsS xa), .string (bsS xb)] 65)).heap.size := by have := HOd.out.la.lt; simp; omega
          refine wp_append_any _ (.tmp 39) (.tmp 55) 22 rfl (w3.heap.size + 1) 65 i0 (.agg #[.string ⟨#[]⟩, .string ⟨#[]⟩]) 2 32 Tryd.underlying22 hi0 hz0 hz1 hz2 rfl (by decide) _ _ _ rfl (hOw.alloc _) (wd.heap.size + 1) _ 1 1 [.string (bsS xa), .string (bsS xb)] rfl (reads_row2 wd _ _ _ (Nat.lt_succ_self _)) (itC_one ⟨xa, xb⟩) (by unfold maxLen; omega) (by omega) hbd ?_
          intro v9 w9 ho9 hg9 hb9
          obtain ⟨A9, c9, hv9⟩ := ownForm ho9
          subst hv9
          have hadd := HOd.out.add (i := 3) (x := ⟨xa, xb⟩) (o := .cells #[.string (bsS xa), .string (bsS xb)] 65) (y := ⟨A9, n2 + 1, c9⟩) (w9 := w9) (by omega) HSZ.out.1 HSZ.out.2.1 HX.out (by
            show w9.ownsRow (w3.heap.size + 1) 65 2 (.slice A9 (n2 + 1) c9) (n2 + 1) (itsC (parF m 3 j 3 ++ [⟨xa, xb⟩]))
            rw [itsC_app, itsC_sing]
            exact ho9) (by rw [HHD.out]; exact hg9) (by rw [HHD.out]; exact hb9)
          have HADD := Sl.mk hadd
          have hla9 := (HOd.out.la.alloc (.cells #[.string (bsS xa), .string (bsS xb)] 65)).grown hg9 (fun e => own_blk_ne (World.ownsRow.alloc hOw (.cells #[.string (bsS xa), .string (bsS xb)] 65)) (HOd.out.la.alloc (.cells #[.string (bsS xa), .string (bsS xb)] 65)) (by decide) e.symm)
          have hic : ∀ (q : Nat) (v : Value), wd.cell? ⟨ab, q, none⟩ = some v → w9.cell? ⟨ab, q, none⟩ = some v := fun q v hq => hg9.cell (Lib.cell?_alloc_some _ hq) (fun e => by
            have h1 := ownGe hOw (g := ab) e.symm
            have h2 := HBL.out
            have h3 := HSZ.out
            omega)
          refine ⟨fun _ => ⟨HADD.out.1, hla9, hic _ _ hS.2.2.1, hic _ _ hS.2.2.2⟩, ?_⟩
          simp only [Act.put, List.setIfInBounds_toArray, List.set_cons_zero, List.set_cons_succ]
          have d2 := HADD.out.1.cell 6
          have f2 := HADD.out.1.frozen 6
          clear hS hbd ho9 hg9 hb9 hadd hla9 hic hOw HSF
          refine wpAnyX_tailF [23, 24] (by kernel_rfl) (by rfl) (by rfl) (by rfl) ?_
          simp only [List.filterMap_cons, List.filterMap_nil, List.getElem?_cons_succ, List.getElem?_cons_zero]
          go_wp2_with fail
          refine NoPanic.normal ?_
          go_wp2_with fail
          go_roundg (kn - (j + 1))
          case measure => omega
          case rel => exact ⟨j + 1, _, rfl, by omega, by go_num, ⟨HADD.out.2⟩⟩
        · obtain rfl : j = kn := by omega
          have HON := Sl.mk (show OfSt w w2.heap.size w3.heap.size m ⟨pA, pn, pc⟩ ⟨sA, sn, sc⟩ ⟨hA, hn, hc⟩ ⟨kA, j, kc⟩ (parF m 4 0) hd2 wr by
            have h1 := (HH.out.be HO2.out.be).iw.n_
            have h2 := HO2.out
            rw [show j = (m.at 3).length from h1.symm, parF_next] at h2
            rw [show j = (m.at 3).length from h1.symm]
            exact h2)
          go_wp2_with fail
          go_roundg 0
          case measure => omega
          case rel => exact ⟨4, hd2, rfl, by omega, by go_num, HON⟩
    | 4, _ =>
      have hl : ∀ (j : Nat) v, (mfC m (hd 0) (hd 1) (hd 2) (hd 3))[j]? = some v → wr.cell? ((⟨w2.heap.size, 0, none⟩ : Addr).add j) = some v := fun j v hj => by
        rw [Addr.add_lit, Nat.zero_add, HO.out.ou.cell j]
        show (mfC m (hd 0) (hd 1) (hd 2) (hd 3)).toArray[j]? = some v
        rw [List.getElem?_toArray]; exact hj
      have hz : Blk wr w1.heap.size 25 #[.string ⟨#[]⟩, .string ⟨#[]⟩, .int .i64 0, .slice none 0 0, .slice none 0 0, .slice none 0 0, .slice none 0 0] := by rw [HSZ.out.2.2]; exact HO.out.zr
      go_wp2_with (first
        | (refine ld_rm hl rfl (.tmp 3) rfl rfl ?_)
        | (refine st_rm rfl (.tmp 2) (.tmp 59) rfl w1.heap.size [.string ⟨#[]⟩, .string ⟨#[]⟩, .int .i64 0, .slice none 0 0, .slice none 0 0, .slice none 0 0, .slice none 0 0] (mfC m (hd 0) (hd 1) (hd 2) (hd 3)) hz rfl rfl rfl rfl (mfC_one _ _ _ _ _) ?_; intro w5 hb5 hg5 hs5))
      refine bodyPost_ret (v := mfV m (hd 0) (hd 1) (hd 2) (hd 3)) (results_cell_row Tryd.results6 _ _ w1.heap.size 25 (mfC m (hd 0) (hd 1) (hd 2) (hd 3)).toArray (0, 0) _ rfl hb5 Tryd.underlying25 rfl (by rw [rmSize]; rfl)) rfl ?_
      have h1 := HSZ.out
      refine ⟨HO.out.be.trans ((Below.refl w.heap.size wr).grown hg5 HO.out.be.size (fun g hg => by injection hg with hg; omega)), hd, rfl, fun j hj => ?_, HO.out.ls.apart⟩
      have h2 := (HO.out.ls.only hg5 (by omega)).own j hj
      rw [parF_zero, if_pos hj] at h2
      exact own_mono h2 (by omega)
end Go.Proofs.YtmgblbkmbiiofaaDoor
