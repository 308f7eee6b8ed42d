/-
  The contract of the document's Same between manifests.
  The document's side: Check.
-/
import Derived.Test.YtmgblbkmbiiofaaDoorMd16
import Derived.Test.YtmgblbkmbiiofaaDoorMd12
import Derived.Test.YtmgblbkmbiiofaaDoorMd11

namespace Go.Proofs.YtmgblbkmbiiofaaDoor
open Go.RowKit
attribute [local go_sem ↓] Go.wp_at_zero Go.wp_at_succ
set_option linter.unusedVariables false
set_option linter.unusedSimpArgs false

theorem neqR (x y : It) (w : World) : (binOp .neq 65 (.agg (itC x).toArray) (.agg (itC y).toArray)).run Tryd.prog w = .ok (.bool (!decide (x = y))) w := by
  rw [run_neq_struct, eqM_gen _ x y w (by kernel_rfl) (by kernel_rfl) (by kernel_rfl)]; rfl
theorem eqlR (x y : It) (w : World) : (Op.equalIn 10000 65 (.agg #[.string (bsS x.a), .string (bsS x.b)]) (.agg #[.string (bsS y.a), .string (bsS y.b)])).run Tryd.prog w = .ok (decide (x = y)) w :=
  eqM_gen _ x y w (by kernel_rfl) (by kernel_rfl) (by kernel_rfl)
theorem riSize : (Tryd.prog.info? 65).map (·.size) = some 2 := by kernel_rfl
theorem run_loadRi {ad : Addr} {x : It} (W : World) (hc : ∀ j v, (itC x)[j]? = some v → W.cell? (ad.add j) = some v) : (loadVar 65 ad).run Tryd.prog W = .ok (.agg #[.string (bsS x.a), .string (bsS x.b)]) W :=
  run_loadVar_at W ad 65 (itC x) _ hc Tryd.underlying65 rfl (by rw [riSize]; rfl)
theorem mf_ext {m m2 : Mf} (h1 : m.pkg = m2.pkg) (h2 : m.pub = m2.pub) (h3 : m.rev = m2.rev) (h : ∀ i, i < 4 → m.at i = m2.at i) : m = m2 := by
  have a0 : m.p = m2.p := h 0 (by decide)
  have a1 : m.s = m2.s := h 1 (by decide)
  have a2 : m.h = m2.h := h 2 (by decide)
  have a3 : m.w = m2.w := h 3 (by decide)
  obtain ⟨pkg, pub, rev, p, s, hh, ww⟩ := m
  obtain ⟨pkg', pub', rev', p', s', h', w'⟩ := m2
  simp only at *
  subst h1; subst h2; subst h3; subst a0; subst a1; subst a2; subst a3
  rfl
theorem take_eq_next {l l2 : List It} {j : Nat} {x y : It} (hx : l[j]? = some x) (hy : l2[j]? = some y) (h : l.take j = l2.take j) (he : x = y) : l.take (j + 1) = l2.take (j + 1) := by
  rw [take_snoc' hx, take_snoc' hy, h, he]
set_option maxRecDepth 100000 in
set_option maxHeartbeats 32000000 in
theorem rsame_any (m m2 : Mf) (p s h k p2 s2 h2 k2 : Hd) (w : World) (H : MfR w m p s h k) (H2 : MfR w m2 p2 s2 h2 k2) :
    Calls Tryd.prog 9 #[mfV m p s h k, mfV m2 p2 s2 h2 k2] w (RPost w (decide (m = m2))) := by
  obtain ⟨pA, pn, pc⟩ := p
  obtain ⟨sA, sn, sc⟩ := s
  obtain ⟨hA, hn, hc⟩ := h
  obtain ⟨kA, kn, kc⟩ := k
  obtain ⟨pA2, pn2, pc2⟩ := p2
  obtain ⟨sA2, sn2, sc2⟩ := s2
  obtain ⟨hA2, hn2, hc2⟩ := h2
  obtain ⟨kA2, kn2, kc2⟩ := k2
  have HH := Sl.mk H
  have HH2 := Sl.mk H2
  clear H H2
  obtain ⟨D, hD⟩ : ∃ D, decide (m = m2) = D := ⟨_, rfl⟩
  rw [hD]
  have HD := Sl.mk hD
  clear hD
  have HDF := Sl.mk (show ¬ m = m2 → D = false from fun hne => by rw [← HD.out]; exact decide_eq_false hne)
  obtain ⟨w1, hw1⟩ : ∃ w1, w.alloc (.cells #[.string (bsS m.pkg), .string (bsS m.pub), .int .i64 m.rev, .slice pA pn pc, .slice sA sn sc, .slice hA hn hc, .slice kA kn kc] 25) = w1 := ⟨_, rfl⟩
  obtain ⟨w2, hw2⟩ : ∃ w2, w1.alloc (.cells #[.string (bsS m2.pkg), .string (bsS m2.pub), .int .i64 m2.rev, .slice pA2 pn2 pc2, .slice sA2 sn2 sc2, .slice hA2 hn2 hc2, .slice kA2 kn2 kc2] 25) = w2 := ⟨_, rfl⟩
  have b2 : Below w.heap.size w w2 := by rw [← hw2, ← hw1]; exact below_al (below_al (Below.refl _ _) _) _
  have k1 : Blk w2 w.heap.size 25 #[.string (bsS m.pkg), .string (bsS m.pub), .int .i64 m.rev, .slice pA pn pc, .slice sA sn sc, .slice hA hn hc, .slice kA kn kc] := by rw [← hw2, ← hw1]; exact (Blk.new w _ _).alloc _
  have k2 : Blk w2 w1.heap.size 25 #[.string (bsS m2.pkg), .string (bsS m2.pub), .int .i64 m2.rev, .slice pA2 pn2 pc2, .slice sA2 sn2 sc2, .slice hA2 hn2 hc2, .slice kA2 kn2 kc2] := by rw [← hw2]; exact Blk.new w1 _ _
  have a0 : w2.cell? ⟨w.heap.size, 0, none⟩ = some (.string (bsS m.pkg)) := k1.cell 0
  have a1 : w2.cell? ⟨w.heap.size, 1, none⟩ = some (.string (bsS m.pub)) := k1.cell 1
  have a2 : w2.cell? ⟨w.heap.size, 2, none⟩ = some (.int .i64 m.rev) := k1.cell 2
  have e0 : w2.cell? ⟨w1.heap.size, 0, none⟩ = some (.string (bsS m2.pkg)) := k2.cell 0
  have e1 : w2.cell? ⟨w1.heap.size, 1, none⟩ = some (.string (bsS m2.pub)) := k2.cell 1
  have e2 : w2.cell? ⟨w1.heap.size, 2, none⟩ = some (.int .i64 m2.rev) := k2.cell 2
  have HB2 := Sl.mk b2
  have HK1 := Sl.mk k1
  have HK2 := Sl.mk k2
  have q0 := bs_beq m.pkg m2.pkg
  have q1 := bs_beq m.pub m2.pub
  clear b2 k1 k2
  unfold mfV
  simp only [Hd.v]
  go_enter Tryd.func9, Tryd.ntmps9
  go_upto_region 1 with fail
  clear hw1 hw2
  by_cases hp : m.pkg = m2.pkg
  · rw [decide_eq_true hp] at q0
    by_cases hu : m.pub = m2.pub
    · rw [decide_eq_true hu] at q1
      by_cases hr : m.rev = m2.rev
      · have HPU := Sl.mk (show m.pkg = m2.pkg ∧ m.pub = m2.pub ∧ m.rev = m2.rev from ⟨hp, hu, hr⟩)
        have hrb : (m.rev != m2.rev) = false := by rw [hr]; simp
        clear hp hu hr
        go_wp2_with fail
        go_loopg [5] 4 (fun q v5 wr => ∃ i : Nat, q = 4 - i ∧ i ≤ 4 ∧ v5 = .int .i64 i ∧ Sl (Below w.heap.size w wr) ∧ Sl (Blk wr w.heap.size 25 #[.string (bsS m.pkg), .string (bsS m.pub), .int .i64 m.rev, .slice pA pn pc, .slice sA sn sc, .slice hA hn hc, .slice kA kn kc]) ∧ Sl (Blk wr w1.heap.size 25 #[.string (bsS m2.pkg), .string (bsS m2.pub), .int .i64 m2.rev, .slice pA2 pn2 pc2, .slice sA2 sn2 sc2, .slice hA2 hn2 hc2, .slice kA2 kn2 kc2]) ∧ Sl (∀ j, j < i → m.at j = m2.at j))
        case atStart => exact ⟨0, rfl, by omega, rfl, HB2, HK1, HK2, ⟨fun j hj => absurd hj (Nat.not_lt_zero _)⟩⟩
        case round =>
          obtain ⟨i, hq, hi, rfl, HBr, HR1, HR2, HEq⟩ := hrel
          clear a0 a1 a2 e0 e1 e2
          match i, hi with
          | 0, _ =>
            have c1 : wr.cell? ⟨w.heap.size, 3, none⟩ = some (.slice pA pn pc) := HR1.out.cell 3
            have c2 : wr.cell? ⟨w1.heap.size, 3, none⟩ = some (.slice pA2 pn2 pc2) := HR2.out.cell 3
            have HN1 := Sl.mk (show m.p.length = pn from HH.out.ip.n_)
            have HN2 := Sl.mk (show m2.p.length = pn2 from HH2.out.ip.n_)
            have hbig : pn ≤ 1000000 := HH.out.pl.1
            by_cases hl : pn = pn2
            · have hlb : ((pn : Int) != (pn2 : Int)) = false := by rw [hl]; simp
              have HLL := Sl.mk hl
              clear hl
              go_wp2_with fail
              go_quiet (fail)
              go_wp2_with fail
              go_loopg [6] pn (fun q v6 wx => ∃ j : Nat, q = pn - j ∧ j ≤ pn ∧ v6 = .int .i64 j ∧ Sl (Below w.heap.size w wx) ∧ Sl (Blk wx w.heap.size 25 #[.string (bsS m.pkg), .string (bsS m.pub), .int .i64 m.rev, .slice pA pn pc, .slice sA sn sc, .slice hA hn hc, .slice kA kn kc]) ∧ Sl (Blk wx w1.heap.size 25 #[.string (bsS m2.pkg), .string (bsS m2.pub), .int .i64 m2.rev, .slice pA2 pn2 pc2, .slice sA2 sn2 sc2, .slice hA2 hn2 hc2, .slice kA2 kn2 kc2]) ∧ Sl (m.p.take j = m2.p.take j))
              case atStart => exact ⟨0, rfl, Nat.zero_le _, rfl, ⟨below_drN HBr.out _⟩, ⟨HR1.out.drewN _⟩, ⟨HR2.out.drewN _⟩, ⟨by simp⟩⟩
              case round =>
                clear c1 c2
                obtain ⟨j, hqj, hj, rfl, HBx, HX1, HX2, HTk⟩ := hrel
                have c1 : wr.cell? ⟨w.heap.size, 3, none⟩ = some (.slice pA pn pc) := HX1.out.cell 3
                by_cases hlt : j < pn
                · obtain ⟨x, hx⟩ : ∃ x, m.p[j]? = some x := ⟨_, List.getElem?_eq_getElem (by rw [HN1.out]; exact hlt)⟩
                  obtain ⟨y, hy⟩ : ∃ y, m2.p[j]? = some y := ⟨_, List.getElem?_eq_getElem (by rw [HN2.out, ← HLL.out]; exact hlt)⟩
                  obtain ⟨ab, ao, hAe, hbl, hld, _, _⟩ := (show Its wr pA pn m.p from (HH.out.be HBx.out).ip).lit hx
                  obtain ⟨ab2, ao2, hAe2, hbl2, hld2, _, _⟩ := (show Its wr pA2 pn2 m2.p from (HH2.out.be HBx.out).ip).lit hy
                  have c2 : wr.cell? ⟨w1.heap.size, 3, none⟩ = some (.slice (some ⟨ab2, ao2, none⟩) pn pc2) := by
                    rw [← hAe2, HLL.out]; exact HX2.out.cell 3
                  rw [hAe] at c1
                  have HLp := Sl.mk (show ∀ w' : World, (∃ q, w' = wr.drewN q) → (loadVar 65 ⟨ab, ao + j * 2, none⟩).run Tryd.prog w' = .ok (.agg #[.string (bsS x.a), .string (bsS x.b)]) w' from fun w' hw' => by
                    obtain ⟨q, rfl⟩ := hw'
                    exact run_loadRi (wr.drewN q) (x := x) (ad := ⟨ab, ao + j * 2, none⟩) (fun j v hv => by rw [World.cell?_drewN]; exact hld j v hv))
                  have HLq := Sl.mk (show ∀ w' : World, (∃ q, w' = wr.drewN q) → (loadVar 65 ⟨ab2, ao2 + j * 2, none⟩).run Tryd.prog w' = .ok (.agg #[.string (bsS y.a), .string (bsS y.b)]) w' from fun w' hw' => by
                    obtain ⟨q, rfl⟩ := hw'
                    exact run_loadRi (wr.drewN q) (x := y) (ad := ⟨ab2, ao2 + j * 2, none⟩) (fun j v hv => by rw [World.cell?_drewN]; exact hld2 j v hv))
                  have hlz : (j : Int) < (pn : Int) := by omega
                  clear hld hld2 hbl hbl2 hAe hAe2
                  by_cases hxy : x = y
                  · have hE : ∀ W, (Op.equalIn 10000 65 (.agg #[.string (bsS x.a), .string (bsS x.b)]) (.agg #[.string (bsS y.a), .string (bsS y.b)])).run Tryd.prog W = .ok true W := fun W => by rw [eqlR, decide_eq_true hxy]
                    have HT2 := Sl.mk (take_eq_next hx hy HTk.out hxy)
                    clear hx hy hxy
                    go_wp2_with fail
                    refine wp_region_quiet_tail 14 (by kernel_rfl) (by kernel_rfl) ?_
                    simp only [List.take_succ_cons, List.take_zero, List.drop_succ_cons, List.drop_zero]
                    repeat (any_goals (first | (first | refine wpQuiet_loadW (by rfl) 65 (.tmp 55) rfl ⟨ab, ao + j * 2, none⟩ _ rfl HLp.out ?_ | refine wpQuiet_loadW (by rfl) 65 (.tmp 62) rfl ⟨ab2, ao2 + j * 2, none⟩ _ rfl HLq.out ?_) | go_big_quiet_step (fail) | quiet_step (fail)))
                    refine wpQuiet_nil ?_
                    intro _ hw'
                    obtain ⟨nq, hw''⟩ := hw'
                    subst hw''
                    go_wp2_with fail
                    go_roundg (pn - (j + 1))
                    case measure => omega
                    case rel => exact ⟨j + 1, rfl, by omega, by go_num, ⟨below_drN HBx.out _⟩, ⟨HX1.out.drewN _⟩, ⟨HX2.out.drewN _⟩, HT2⟩
                  · have hE : ∀ W, (Op.equalIn 10000 65 (.agg #[.string (bsS x.a), .string (bsS x.b)]) (.agg #[.string (bsS y.a), .string (bsS y.b)])).run Tryd.prog W = .ok false W := fun W => by rw [eqlR, decide_eq_false hxy]
                    have HC := Sl.mk (HDF.out (fun e => hxy (by rw [e] at hx; exact Option.some.inj (hx.symm.trans hy))))
                    clear hx hy hxy
                    go_wp2_with fail
                    refine wp_region_quiet_tail 14 (by kernel_rfl) (by kernel_rfl) ?_
                    simp only [List.take_succ_cons, List.take_zero, List.drop_succ_cons, List.drop_zero]
                    repeat (any_goals (first | (first | refine wpQuiet_loadW (by rfl) 65 (.tmp 55) rfl ⟨ab, ao + j * 2, none⟩ _ rfl HLp.out ?_ | refine wpQuiet_loadW (by rfl) 65 (.tmp 62) rfl ⟨ab2, ao2 + j * 2, none⟩ _ rfl HLq.out ?_) | go_big_quiet_step (fail) | quiet_step (fail)))
                    refine wpQuiet_nil ?_
                    intro _ hw'
                    obtain ⟨nq, hw''⟩ := hw'
                    subst hw''
                    go_wp2_with fail
                    go_ret
                    exact ⟨by rw [HC.out]; rfl, below_drN HBx.out _⟩
                · have hje : j = pn := by omega
                  have HEq2 := Sl.mk (show ∀ j, j < 1 → m.at j = m2.at j from fun q hq => by
                    rcases Nat.lt_succ_iff_lt_or_eq.1 hq with h | rfl
                    · exact HEq.out q h
                    · have h1 := HTk.out
                      rw [List.take_of_length_le (by rw [HN1.out]; omega), List.take_of_length_le (by rw [HN2.out, ← HLL.out]; omega)] at h1
                      exact h1)
                  have hlz : ¬ (j : Int) < (pn : Int) := by omega
                  clear hje hlt
                  go_wp2_with fail
                  go_roundg 3
                  case measure => omega
                  case rel => exact ⟨1, rfl, by omega, by go_num, HBx, HX1, HX2, HEq2⟩
            · have hlb : ((pn : Int) != (pn2 : Int)) = true := by simp; omega
              have HC := Sl.mk (HDF.out (fun e => hl (by rw [← HN1.out, ← HN2.out, e])))
              clear hl
              go_wp2_with fail
              go_quiet (fail)
              go_wp2_with fail
              go_ret
              exact ⟨by rw [HC.out]; rfl, below_drN HBr.out _⟩
          | 1, _ =>
            have c1 : wr.cell? ⟨w.heap.size, 4, none⟩ = some (.slice sA sn sc) := HR1.out.cell 4
            have c2 : wr.cell? ⟨w1.heap.size, 4, none⟩ = some (.slice sA2 sn2 sc2) := HR2.out.cell 4
            have HN1 := Sl.mk (show m.s.length = sn from HH.out.iq.n_)
            have HN2 := Sl.mk (show m2.s.length = sn2 from HH2.out.iq.n_)
            have hbig : sn ≤ 1000000 := HH.out.sl.1
            by_cases hl : sn = sn2
            · have hlb : ((sn : Int) != (sn2 : Int)) = false := by rw [hl]; simp
              have HLL := Sl.mk hl
              clear hl
              go_wp2_with fail
              go_quiet (fail)
              go_wp2_with fail
              go_loopg [6] sn (fun q v6 wx => ∃ j : Nat, q = sn - j ∧ j ≤ sn ∧ v6 = .int .i64 j ∧ Sl (Below w.heap.size w wx) ∧ Sl (Blk wx w.heap.size 25 #[.string (bsS m.pkg), .string (bsS m.pub), .int .i64 m.rev, .slice pA pn pc, .slice sA sn sc, .slice hA hn hc, .slice kA kn kc]) ∧ Sl (Blk wx w1.heap.size 25 #[.string (bsS m2.pkg), .string (bsS m2.pub), .int .i64 m2.rev, .slice pA2 pn2 pc2, .slice sA2 sn2 sc2, .slice hA2 hn2 hc2, .slice kA2 kn2 kc2]) ∧ Sl (m.s.take j = m2.s.take j))
              case atStart => exact ⟨0, rfl, Nat.zero_le _, rfl, ⟨below_drN HBr.out _⟩, ⟨HR1.out.drewN _⟩, ⟨HR2.out.drewN _⟩, ⟨by simp⟩⟩
              case round =>
                clear c1 c2
                obtain ⟨j, hqj, hj, rfl, HBx, HX1, HX2, HTk⟩ := hrel
                have c1 : wr.cell? ⟨w.heap.size, 4, none⟩ = some (.slice sA sn sc) := HX1.out.cell 4
                by_cases hlt : j < sn
                · obtain ⟨x, hx⟩ : ∃ x, m.s[j]? = some x := ⟨_, List.getElem?_eq_getElem (by rw [HN1.out]; exact hlt)⟩
                  obtain ⟨y, hy⟩ : ∃ y, m2.s[j]? = some y := ⟨_, List.getElem?_eq_getElem (by rw [HN2.out, ← HLL.out]; exact hlt)⟩
                  obtain ⟨ab, ao, hAe, hbl, hld, _, _⟩ := (show Its wr sA sn m.s from (HH.out.be HBx.out).iq).lit hx
                  obtain ⟨ab2, ao2, hAe2, hbl2, hld2, _, _⟩ := (show Its wr sA2 sn2 m2.s from (HH2.out.be HBx.out).iq).lit hy
                  have c2 : wr.cell? ⟨w1.heap.size, 4, none⟩ = some (.slice (some ⟨ab2, ao2, none⟩) sn sc2) := by
                    rw [← hAe2, HLL.out]; exact HX2.out.cell 4
                  rw [hAe] at c1
                  have HLp := Sl.mk (show ∀ w' : World, (∃ q, w' = wr.drewN q) → (loadVar 65 ⟨ab, ao + j * 2, none⟩).run Tryd.prog w' = .ok (.agg #[.string (bsS x.a), .string (bsS x.b)]) w' from fun w' hw' => by
                    obtain ⟨q, rfl⟩ := hw'
                    exact run_loadRi (wr.drewN q) (x := x) (ad := ⟨ab, ao + j * 2, none⟩) (fun j v hv => by rw [World.cell?_drewN]; exact hld j v hv))
                  have HLq := Sl.mk (show ∀ w' : World, (∃ q, w' = wr.drewN q) → (loadVar 65 ⟨ab2, ao2 + j * 2, none⟩).run Tryd.prog w' = .ok (.agg #[.string (bsS y.a), .string (bsS y.b)]) w' from fun w' hw' => by
                    obtain ⟨q, rfl⟩ := hw'
                    exact run_loadRi (wr.drewN q) (x := y) (ad := ⟨ab2, ao2 + j * 2, none⟩) (fun j v hv => by rw [World.cell?_drewN]; exact hld2 j v hv))
                  have hlz : (j : Int) < (sn : Int) := by omega
                  clear hld hld2 hbl hbl2 hAe hAe2
                  by_cases hxy : x = y
                  · have hE : ∀ W, (Op.equalIn 10000 65 (.agg #[.string (bsS x.a), .string (bsS x.b)]) (.agg #[.string (bsS y.a), .string (bsS y.b)])).run Tryd.prog W = .ok true W := fun W => by rw [eqlR, decide_eq_true hxy]
                    have HT2 := Sl.mk (take_eq_next hx hy HTk.out hxy)
                    clear hx hy hxy
                    go_wp2_with fail
                    refine wp_region_quiet_tail 14 (by kernel_rfl) (by kernel_rfl) ?_
                    simp only [List.take_succ_cons, List.take_zero, List.drop_succ_cons, List.drop_zero]
                    repeat (any_goals (first | (first | refine wpQuiet_loadW (by rfl) 65 (.tmp 55) rfl ⟨ab, ao + j * 2, none⟩ _ rfl HLp.out ?_ | refine wpQuiet_loadW (by rfl) 65 (.tmp 62) rfl ⟨ab2, ao2 + j * 2, none⟩ _ rfl HLq.out ?_) | go_big_quiet_step (fail) | quiet_step (fail)))
                    refine wpQuiet_nil ?_
                    intro _ hw'
                    obtain ⟨nq, hw''⟩ := hw'
                    subst hw''
                    go_wp2_with fail
                    go_roundg (sn - (j + 1))
                    case measure => omega
                    case rel => exact ⟨j + 1, rfl, by omega, by go_num, ⟨below_drN HBx.out _⟩, ⟨HX1.out.drewN _⟩, ⟨HX2.out.drewN _⟩, HT2⟩
                  · have hE : ∀ W, (Op.equalIn 10000 65 (.agg #[.string (bsS x.a), .string (bsS x.b)]) (.agg #[.string (bsS y.a), .string (bsS y.b)])).run Tryd.prog W = .ok false W := fun W => by rw [eqlR, decide_eq_false hxy]
                    have HC := Sl.mk (HDF.out (fun e => hxy (by rw [e] at hx; exact Option.some.inj (hx.symm.trans hy))))
                    clear hx hy hxy
                    go_wp2_with fail
                    refine wp_region_quiet_tail 14 (by kernel_rfl) (by kernel_rfl) ?_
                    simp only [List.take_succ_cons, List.take_zero, List.drop_succ_cons, List.drop_zero]
                    repeat (any_goals (first | (first | refine wpQuiet_loadW (by rfl) 65 (.tmp 55) rfl ⟨ab, ao + j * 2, none⟩ _ rfl HLp.out ?_ | refine wpQuiet_loadW (by rfl) 65 (.tmp 62) rfl ⟨ab2, ao2 + j * 2, none⟩ _ rfl HLq.out ?_) | go_big_quiet_step (fail) | quiet_step (fail)))
                    refine wpQuiet_nil ?_
                    intro _ hw'
                    obtain ⟨nq, hw''⟩ := hw'
                    subst hw''
                    go_wp2_with fail
                    go_ret
                    exact ⟨by rw [HC.out]; rfl, below_drN HBx.out _⟩
                · have hje : j = sn := by omega
                  have HEq2 := Sl.mk (show ∀ j, j < 2 → m.at j = m2.at j from fun q hq => by
                    rcases Nat.lt_succ_iff_lt_or_eq.1 hq with h | rfl
                    · exact HEq.out q h
                    · have h1 := HTk.out
                      rw [List.take_of_length_le (by rw [HN1.out]; omega), List.take_of_length_le (by rw [HN2.out, ← HLL.out]; omega)] at h1
                      exact h1)
                  have hlz : ¬ (j : Int) < (sn : Int) := by omega
                  clear hje hlt
                  go_wp2_with fail
                  go_roundg 2
                  case measure => omega
                  case rel => exact ⟨2, rfl, by omega, by go_num, HBx, HX1, HX2, HEq2⟩
            · have hlb : ((sn : Int) != (sn2 : Int)) = true := by simp; omega
              have HC := Sl.mk (HDF.out (fun e => hl (by rw [← HN1.out, ← HN2.out, e])))
              clear hl
              go_wp2_with fail
              go_quiet (fail)
              go_wp2_with fail
              go_ret
              exact ⟨by rw [HC.out]; rfl, below_drN HBr.out _⟩
          | 2, _ =>
            have c1 : wr.cell? ⟨w.heap.size, 5, none⟩ = some (.slice hA hn hc) := HR1.out.cell 5
            have c2 : wr.cell? ⟨w1.heap.size, 5, none⟩ = some (.slice hA2 hn2 hc2) := HR2.out.cell 5
            have HN1 := Sl.mk (show m.h.length = hn from HH.out.ir.n_)
            have HN2 := Sl.mk (show m2.h.length = hn2 from HH2.out.ir.n_)
            have hbig : hn ≤ 1000000 := HH.out.hl.1
            by_cases hl : hn = hn2
            · have hlb : ((hn : Int) != (hn2 : Int)) = false := by rw [hl]; simp
              have HLL := Sl.mk hl
              clear hl
              go_wp2_with fail
              go_quiet (fail)
              go_wp2_with fail
              go_loopg [6] hn (fun q v6 wx => ∃ j : Nat, q = hn - j ∧ j ≤ hn ∧ v6 = .int .i64 j ∧ Sl (Below w.heap.size w wx) ∧ Sl (Blk wx w.heap.size 25 #[.string (bsS m.pkg), .string (bsS m.pub), .int .i64 m.rev, .slice pA pn pc, .slice sA sn sc, .slice hA hn hc, .slice kA kn kc]) ∧ Sl (Blk wx w1.heap.size 25 #[.string (bsS m2.pkg), .string (bsS m2.pub), .int .i64 m2.rev, .slice pA2 pn2 pc2, .slice sA2 sn2 sc2, .slice hA2 hn2 hc2, .slice kA2 kn2 kc2]) ∧ Sl (m.h.take j = m2.h.take j))
              case atStart => exact ⟨0, rfl, Nat.zero_le _, rfl, ⟨below_drN HBr.out _⟩, ⟨HR1.out.drewN _⟩, ⟨HR2.out.drewN _⟩, ⟨by simp⟩⟩
              case round =>
                clear c1 c2
                obtain ⟨j, hqj, hj, rfl, HBx, HX1, HX2, HTk⟩ := hrel
                have c1 : wr.cell? ⟨w.heap.size, 5, none⟩ = some (.slice hA hn hc) := HX1.out.cell 5
                by_cases hlt : j < hn
                · obtain ⟨x, hx⟩ : ∃ x, m.h[j]? = some x := ⟨_, List.getElem?_eq_getElem (by rw [HN1.out]; exact hlt)⟩
                  obtain ⟨y, hy⟩ : ∃ y, m2.h[j]? = some y := ⟨_, List.getElem?_eq_getElem (by rw [HN2.out, ← HLL.out]; exact hlt)⟩
                  obtain ⟨ab, ao, hAe, hbl, hld, _, _⟩ := (show Its wr hA hn m.h from (HH.out.be HBx.out).ir).lit hx
                  obtain ⟨ab2, ao2, hAe2, hbl2, hld2, _, _⟩ := (show Its wr hA2 hn2 m2.h from (HH2.out.be HBx.out).ir).lit hy
                  have c2 : wr.cell? ⟨w1.heap.size, 5, none⟩ = some (.slice (some ⟨ab2, ao2, none⟩) hn hc2) := by
                    rw [← hAe2, HLL.out]; exact HX2.out.cell 5
                  rw [hAe] at c1
                  have HLp := Sl.mk (show ∀ w' : World, (∃ q, w' = wr.drewN q) → (loadVar 65 ⟨ab, ao + j * 2, none⟩).run Tryd.prog w' = .ok (.agg #[.string (bsS x.a), .string (bsS x.b)]) w' from fun w' hw' => by
                    obtain ⟨q, rfl⟩ := hw'
                    exact run_loadRi (wr.drewN q) (x := x) (ad := ⟨ab, ao + j * 2, none⟩) (fun j v hv => by rw [World.cell?_drewN]; exact hld j v hv))
                  have HLq := Sl.mk (show ∀ w' : World, (∃ q, w' = wr.drewN q) → (loadVar 65 ⟨ab2, ao2 + j * 2, none⟩).run Tryd.prog w' = .ok (.agg #[.string (bsS y.a), .string (bsS y.b)]) w' from fun w' hw' => by
                    obtain ⟨q, rfl⟩ := hw'
                    exact run_loadRi (wr.drewN q) (x := y) (ad := ⟨ab2, ao2 + j * 2, none⟩) (fun j v hv => by rw [World.cell?_drewN]; exact hld2 j v hv))
                  have hlz : (j : Int) < (hn : Int) := by omega
                  clear hld hld2 hbl hbl2 hAe hAe2
                  by_cases hxy : x = y
                  · have hE : ∀ W, (Op.equalIn 10000 65 (.agg #[.string (bsS x.a), .string (bsS x.b)]) (.agg #[.string (bsS y.a), .string (bsS y.b)])).run Tryd.prog W = .ok true W := fun W => by rw [eqlR, decide_eq_true hxy]
                    have HT2 := Sl.mk (take_eq_next hx hy HTk.out hxy)
                    clear hx hy hxy
                    go_wp2_with fail
                    refine wp_region_quiet_tail 14 (by kernel_rfl) (by kernel_rfl) ?_
                    simp only [List.take_succ_cons, List.take_zero, List.drop_succ_cons, List.drop_zero]
                    repeat (any_goals (first | (first | refine wpQuiet_loadW (by rfl) 65 (.tmp 55) rfl ⟨ab, ao + j * 2, none⟩ _ rfl HLp.out ?_ | refine wpQuiet_loadW (by rfl) 65 (.tmp 62) rfl ⟨ab2, ao2 + j * 2, none⟩ _ rfl HLq.out ?_) | go_big_quiet_step (fail) | quiet_step (fail)))
                    refine wpQuiet_nil ?_
                    intro _ hw'
                    obtain ⟨nq, hw''⟩ := hw'
                    subst hw''
                    go_wp2_with fail
                    go_roundg (hn - (j + 1))
                    case measure => omega
                    case rel => exact ⟨j + 1, rfl, by omega, by go_num, ⟨below_drN HBx.out _⟩, ⟨HX1.out.drewN _⟩, ⟨HX2.out.drewN _⟩, HT2⟩
                  · have hE : ∀ W, (Op.equalIn 10000 65 (.agg #[.string (bsS x.a), .string (bsS x.b)]) (.agg #[.string (bsS y.a), .string (bsS y.b)])).run Tryd.prog W = .ok false W := fun W => by rw [eqlR, decide_eq_false hxy]
                    have HC := Sl.mk (HDF.out (fun e => hxy (by rw [e] at hx; exact Option.some.inj (hx.symm.trans hy))))
                    clear hx hy hxy
                    go_wp2_with fail
                    refine wp_region_quiet_tail 14 (by kernel_rfl) (by kernel_rfl) ?_
                    simp only [List.take_succ_cons, List.take_zero, List.drop_succ_cons, List.drop_zero]
                    repeat (any_goals (first | (first | refine wpQuiet_loadW (by rfl) 65 (.tmp 55) rfl ⟨ab, ao + j * 2, none⟩ _ rfl HLp.out ?_ | refine wpQuiet_loadW (by rfl) 65 (.tmp 62) rfl ⟨ab2, ao2 + j * 2, none⟩ _ rfl HLq.out ?_) | go_big_quiet_step (fail) | quiet_step (fail)))
                    refine wpQuiet_nil ?_
                    intro _ hw'
                    obtain ⟨nq, hw''⟩ := hw'
                    subst hw''
                    go_wp2_with fail
                    go_ret
                    exact ⟨by rw [HC.out]; rfl, below_drN HBx.out _⟩
                · have hje : j = hn := by omega
                  have HEq2 := Sl.mk (show ∀ j, j < 3 → m.at j = m2.at j from fun q hq => by
                    rcases Nat.lt_succ_iff_lt_or_eq.1 hq with h | rfl
                    · exact HEq.out q h
                    · have h1 := HTk.out
                      rw [List.take_of_length_le (by rw [HN1.out]; omega), List.take_of_length_le (by rw [HN2.out, ← HLL.out]; omega)] at h1
                      exact h1)
                  have hlz : ¬ (j : Int) < (hn : Int) := by omega
                  clear hje hlt
                  go_wp2_with fail
                  go_roundg 1
                  case measure => omega
                  case rel => exact ⟨3, rfl, by omega, by go_num, HBx, HX1, HX2, HEq2⟩
            · have hlb : ((hn : Int) != (hn2 : Int)) = true := by simp; omega
              have HC := Sl.mk (HDF.out (fun e => hl (by rw [← HN1.out, ← HN2.out, e])))
              clear hl
              go_wp2_with fail
              go_quiet (fail)
              go_wp2_with fail
              go_ret
              exact ⟨by rw [HC.out]; rfl, below_drN HBr.out _⟩
          | 3, _ =>
            have c1 : wr.cell? ⟨w.heap.size, 6, none⟩ = some (.slice kA kn kc) := HR1.out.cell 6
            have c2 : wr.cell? ⟨w1.heap.size, 6, none⟩ = some (.slice kA2 kn2 kc2) := HR2.out.cell 6
            have HN1 := Sl.mk (show m.w.length = kn from HH.out.iw.n_)
            have HN2 := Sl.mk (show m2.w.length = kn2 from HH2.out.iw.n_)
            have hbig : kn ≤ 1000000 := HH.out.wl.1
            by_cases hl : kn = kn2
            · have hlb : ((kn : Int) != (kn2 : Int)) = false := by rw [hl]; simp
              have HLL := Sl.mk hl
              clear hl
              go_wp2_with fail
              go_quiet (fail)
              go_wp2_with fail
              go_loopg [6] kn (fun q v6 wx => ∃ j : Nat, q = kn - j ∧ j ≤ kn ∧ v6 = .int .i64 j ∧ Sl (Below w.heap.size w wx) ∧ Sl (Blk wx w.heap.size 25 #[.string (bsS m.pkg), .string (bsS m.pub), .int .i64 m.rev, .slice pA pn pc, .slice sA sn sc, .slice hA hn hc, .slice kA kn kc]) ∧ Sl (Blk wx w1.heap.size 25 #[.string (bsS m2.pkg), .string (bsS m2.pub), .int .i64 m2.rev, .slice pA2 pn2 pc2, .slice sA2 sn2 sc2, .slice hA2 hn2 hc2, .slice kA2 kn2 kc2]) ∧ Sl (m.w.take j = m2.w.take j))
              case atStart => exact ⟨0, rfl, Nat.zero_le _, rfl, ⟨below_drN HBr.out _⟩, ⟨HR1.out.drewN _⟩, ⟨HR2.out.drewN _⟩, ⟨by simp⟩⟩
              case round =>
                clear c1 c2
                obtain ⟨j, hqj, hj, rfl, HBx, HX1, HX2, HTk⟩ := hrel
                have c1 : wr.cell? ⟨w.heap.size, 6, none⟩ = some (.slice kA kn kc) := HX1.out.cell 6
                by_cases hlt : j < kn
                · obtain ⟨x, hx⟩ : ∃ x, m.w[j]? = some x := ⟨_, List.getElem?_eq_getElem (by rw [HN1.out]; exact hlt)⟩
                  obtain ⟨y, hy⟩ : ∃ y, m2.w[j]? = some y := ⟨_, List.getElem?_eq_getElem (by rw [HN2.out, ← HLL.out]; exact hlt)⟩
                  obtain ⟨ab, ao, hAe, hbl, hld, _, _⟩ := (show Its wr kA kn m.w from (HH.out.be HBx.out).iw).lit hx
                  obtain ⟨ab2, ao2, hAe2, hbl2, hld2, _, _⟩ := (show Its wr kA2 kn2 m2.w from (HH2.out.be HBx.out).iw).lit hy
                  have c2 : wr.cell? ⟨w1.heap.size, 6, none⟩ = some (.slice (some ⟨ab2, ao2, none⟩) kn kc2) := by
                    rw [← hAe2, HLL.out]; exact HX2.out.cell 6
                  rw [hAe] at c1
                  have HLp := Sl.mk (show ∀ w' : World, (∃ q, w' = wr.drewN q) → (loadVar 65 ⟨ab, ao + j * 2, none⟩).run Tryd.prog w' = .ok (.agg #[.string (bsS x.a), .string (bsS x.b)]) w' from fun w' hw' => by
                    obtain ⟨q, rfl⟩ := hw'
                    exact run_loadRi (wr.drewN q) (x := x) (ad := ⟨ab, ao + j * 2, none⟩) (fun j v hv => by rw [World.cell?_drewN]; exact hld j v hv))
                  have HLq := Sl.mk (show ∀ w' : World, (∃ q, w' = wr.drewN q) → (loadVar 65 ⟨ab2, ao2 + j * 2, none⟩).run Tryd.prog w' = .ok (.agg #[.string (bsS y.a), .string (bsS y.b)]) w' from fun w' hw' => by
                    obtain ⟨q, rfl⟩ := hw'
                    exact run_loadRi (wr.drewN q) (x := y) (ad := ⟨ab2, ao2 + j * 2, none⟩) (fun j v hv => by rw [World.cell?_drewN]; exact hld2 j v hv))
                  have hlz : (j : Int) < (kn : Int) := by omega
                  clear hld hld2 hbl hbl2 hAe hAe2
                  by_cases hxy : x = y
                  · have hE : ∀ W, (Op.equalIn 10000 65 (.agg #[.string (bsS x.a), .string (bsS x.b)]) (.agg #[.string (bsS y.a), .string (bsS y.b)])).run Tryd.prog W = .ok true W := fun W => by rw [eqlR, decide_eq_true hxy]
                    have HT2 := Sl.mk (take_eq_next hx hy HTk.out hxy)
                    clear hx hy hxy
                    go_wp2_with fail
                    refine wp_region_quiet_tail 14 (by kernel_rfl) (by kernel_rfl) ?_
                    simp only [List.take_succ_cons, List.take_zero, List.drop_succ_cons, List.drop_zero]
                    repeat (any_goals (first | (first | refine wpQuiet_loadW (by rfl) 65 (.tmp 55) rfl ⟨ab, ao + j * 2, none⟩ _ rfl HLp.out ?_ | refine wpQuiet_loadW (by rfl) 65 (.tmp 62) rfl ⟨ab2, ao2 + j * 2, none⟩ _ rfl HLq.out ?_) | go_big_quiet_step (fail) | quiet_step (fail)))
                    refine wpQuiet_nil ?_
                    intro _ hw'
                    obtain ⟨nq, hw''⟩ := hw'
                    subst hw''
                    go_wp2_with fail
                    go_roundg (kn - (j + 1))
                    case measure => omega
                    case rel => exact ⟨j + 1, rfl, by omega, by go_num, ⟨below_drN HBx.out _⟩, ⟨HX1.out.drewN _⟩, ⟨HX2.out.drewN _⟩, HT2⟩
                  · have hE : ∀ W, (Op.equalIn 10000 65 (.agg #[.string (bsS x.a), .string (bsS x.b)]) (.agg #[.string (bsS y.a), .string (bsS y.b)])).run Tryd.prog W = .ok false W := fun W => by rw [eqlR, decide_eq_false hxy]
                    have HC := Sl.mk (HDF.out (fun e => hxy (by rw [e] at hx; exact Option.some.inj (hx.symm.trans hy))))
                    clear hx hy hxy
                    go_wp2_with fail
                    refine wp_region_quiet_tail 14 (by kernel_rfl) (by kernel_rfl) ?_
                    simp only [List.take_succ_cons, List.take_zero, List.drop_succ_cons, List.drop_zero]
                    repeat (any_goals (first | (first | refine wpQuiet_loadW (by rfl) 65 (.tmp 55) rfl ⟨ab, ao + j * 2, none⟩ _ rfl HLp.out ?_ | refine wpQuiet_loadW (by rfl) 65 (.tmp 62) rfl ⟨ab2, ao2 + j * 2, none⟩ _ rfl HLq.out ?_) | go_big_quiet_step (fail) | quiet_step (fail)))
                    refine wpQuiet_nil ?_
                    intro _ hw'
                    obtain ⟨nq, hw''⟩ := hw'
                    subst hw''
                    go_wp2_with fail
                    go_ret
                    exact ⟨by rw [HC.out]; rfl, below_drN HBx.out _⟩
                · have hje : j = kn := by omega
                  have HEq2 := Sl.mk (show ∀ j, j < 4 → m.at j = m2.at j from fun q hq => by
                    rcases Nat.lt_succ_iff_lt_or_eq.1 hq with h | rfl
                    · exact HEq.out q h
                    · have h1 := HTk.out
                      rw [List.take_of_length_le (by rw [HN1.out]; omega), List.take_of_length_le (by rw [HN2.out, ← HLL.out]; omega)] at h1
                      exact h1)
                  have hlz : ¬ (j : Int) < (kn : Int) := by omega
                  clear hje hlt
                  go_wp2_with fail
                  go_roundg 0
                  case measure => omega
                  case rel => exact ⟨4, rfl, by omega, by go_num, HBx, HX1, HX2, HEq2⟩
            · have hlb : ((kn : Int) != (kn2 : Int)) = true := by simp; omega
              have HC := Sl.mk (HDF.out (fun e => hl (by rw [← HN1.out, ← HN2.out, e])))
              clear hl
              go_wp2_with fail
              go_quiet (fail)
              go_wp2_with fail
              go_ret
              exact ⟨by rw [HC.out]; rfl, below_drN HBr.out _⟩
          | 4, _ =>
            have HC := Sl.mk (show D = true by rw [← HD.out]; exact decide_eq_true (mf_ext HPU.out.1 HPU.out.2.1 HPU.out.2.2 HEq.out))
            go_wp2_with fail
            go_ret
            exact ⟨by rw [HC.out]; rfl, HBr.out⟩
      · have HC := Sl.mk (HDF.out (fun e => hr (by rw [e])))
        have hrb : (m.rev != m2.rev) = true := by simpa using hr
        clear hp hu hr
        go_wp2_with fail
        go_ret
        exact ⟨by rw [HC.out]; rfl, HB2.out⟩
    · rw [decide_eq_false hu] at q1
      have HC := Sl.mk (HDF.out (fun e => hu (by rw [e])))
      clear hp hu
      go_wp2_with fail
      go_ret
      exact ⟨by rw [HC.out]; rfl, HB2.out⟩
  · rw [decide_eq_false hp] at q0
    have HC := Sl.mk (HDF.out (fun e => hp (by rw [e])))
    clear hp
    go_wp2_with fail
    go_ret
    exact ⟨by rw [HC.out]; rfl, HB2.out⟩
end Go.Proofs.YtmgblbkmbiiofaaDoor

namespace Go.Proofs.YtmgblbkmbiiofaaDoor
open Go.RowKit
attribute [local go_sem ↓] Go.wp_at_zero Go.wp_at_succ
set_option linter.unusedVariables false
set_option linter.unusedSimpArgs false

theorem strsA_at {l : List Bs} {i : Nat} {x : Bs} (h : l[i]? = some x) : (strsA l)[i]? = some (.string (bsS x)) := by simp [strsA, h]
theorem strsA_len (l : List Bs) : (strsA l).length = l.length := by simp [strsA]
theorem strs_lit {w : World} {B n : Nat} {A : Option Addr} {l : List Bs} (h : Reads w B 1 A n (strsA l)) {i : Nat} {x : Bs} (hi : l[i]? = some x) :
    ∃ b o, A = some ⟨b, o, none⟩ ∧ b < B ∧ w.cell? ⟨b, o + i, none⟩ = some (.string (bsS x)) := by
  have hil : i < l.length := (List.getElem?_eq_some_iff.1 hi).1
  have hl := h.1
  rw [strsA_len] at hl
  obtain ⟨ad, e', hb, hcc⟩ := h.2 (by omega)
  have hlen : 0 < (strsA l).length := by rw [strsA_len]; omega
  have e := addr_lit (hcc 0 _ (List.getElem?_eq_getElem hlen))
  have h0 := hcc _ _ (strsA_at hi)
  rw [e, Addr.add_lit] at h0
  exact ⟨ad.block, ad.off, by rw [← e]; exact e', hb, h0⟩


/-- A manifest's lists, by their number. -/
def hd4 (p s h k : Hd) : Nat → Hd
  | 0 => p
  | 1 => s
  | 2 => h
  | _ => k
theorem hd4_cell {W : World} {b : Nat} {T : TypeId} {m : Mf} {p s h k : Hd} (hB : Blk W b T (mfC m p s h k).toArray) {i : Nat} (hi : i < 4) : W.cell? ⟨b, 3 + i, none⟩ = some (hd4 p s h k i).v := by
  match i, hi with
  | 0, _ => exact hB.cell 3
  | 1, _ => exact hB.cell 4
  | 2, _ => exact hB.cell 5
  | 3, _ => exact hB.cell 6
theorem MfR.its {w : World} {m : Mf} {p s h k : Hd} (H : MfR w m p s h k) {i : Nat} (hi : i < 4) : Its w (hd4 p s h k i).A (hd4 p s h k i).n (m.at i) ∧ (hd4 p s h k i).n ≤ 1000000 := by
  match i, hi with
  | 0, _ => exact ⟨H.ip, H.pl.1⟩
  | 1, _ => exact ⟨H.iq, H.sl.1⟩
  | 2, _ => exact ⟨H.ir, H.hl.1⟩
  | 3, _ => exact ⟨H.iw, H.wl.1⟩
theorem its_two {w : World} {A : Option Addr} {n : Nat} {l : List It} (h : Its w A n l) {i : Nat} {x : It} (hi : l[i]? = some x) :
    ∃ b o, A = some ⟨b, o, none⟩ ∧ b < w.heap.size ∧ w.cell? ⟨b, o + i * 2, none⟩ = some (.string (bsS x.a)) ∧ w.cell? ⟨b, o + i * 2 + 1, none⟩ = some (.string (bsS x.b)) ∧ x.a.length ≤ 1000000 ∧ x.b.length ≤ 1000000 := by
  obtain ⟨b, o, h1, h2, h3, h4, h5⟩ := h.lit hi
  have a0 := h3 0 _ rfl
  have a1 := h3 1 _ rfl
  rw [Addr.add_lit] at a0 a1
  exact ⟨b, o, h1, h2, a0, a1, h4, h5⟩
/-- The names of the lists ahead of one, and of the items ahead of one. -/
def nmsF (m : Mf) (i k : Nat) : List Bs := if i = 0 then (m.p.take k).map (·.a) else if i = 1 then m.p.map (·.a) ++ (m.s.take k).map (·.a) else m.p.map (·.a) ++ m.s.map (·.a)
theorem nms_zero (m : Mf) (i : Nat) : nmsF m (i + 1) 0 = nmsF m i (m.at i).length := by
  unfold nmsF
  match i with
  | 0 => simp [Mf.at]
  | 1 => simp [Mf.at]
  | i + 2 => simp
theorem nms_next {m : Mf} {i k : Nat} {x : It} (hi : i < 2) (hx : (m.at i)[k]? = some x) : nmsF m i (k + 1) = nmsF m i k ++ [x.a] := by
  unfold nmsF
  match i, hi with
  | 0, _ => simp only [if_true]; rw [take_snoc' (show m.p[k]? = some x from hx)]; simp
  | 1, _ => simp only [Nat.one_ne_zero, if_false, if_true]; rw [take_snoc' (show m.s[k]? = some x from hx)]; simp
theorem nms_two (m : Mf) (k : Nat) : nmsF m 2 k = (m.p ++ m.s).map (·.a) := by simp [nmsF]
theorem nms_pre (m : Mf) {i k : Nat} (hi : i < 2) : nmsF m i k <+: (m.p ++ m.s).map (·.a) := by
  rw [List.map_append]
  unfold nmsF
  match i, hi with
  | 0, _ => simp only [if_true]; exact ((List.take_prefix _ _).map _).trans (List.prefix_append _ _)
  | 1, _ => simp only [Nat.one_ne_zero, if_false, if_true]; exact List.prefix_append_right_inj _ |>.2 ((List.take_prefix _ _).map _)
theorem nms_len (m : Mf) (i k : Nat) : (nmsF m i k).length ≤ m.p.length + m.s.length := by
  unfold nmsF
  split
  · rw [List.length_map, List.length_take]; omega
  · split
    · rw [List.length_append, List.length_map, List.length_map, List.length_take]; omega
    · rw [List.length_append, List.length_map, List.length_map]; omega
theorem dup_of_pre {l : List It} {D : List Bs} {a : Bs} (h : D ++ [a] <+: l.map (·.a)) (hm : a ∈ D) : dupM l = true := by
  unfold dupM
  simp only [Bool.not_eq_true', decide_eq_false_iff_not]
  intro hn
  have h1 := hn.sublist h.sublist
  rw [List.nodup_append] at h1
  exact h1.2.2 a hm a (by simp) rfl
end Go.Proofs.YtmgblbkmbiiofaaDoor
