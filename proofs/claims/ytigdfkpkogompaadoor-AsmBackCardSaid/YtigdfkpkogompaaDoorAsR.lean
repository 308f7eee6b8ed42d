/-
  The contract of the reference's Same; the law's known.
-/
import Derived.Test.YtigdfkpkogompaaDoorAsK
import Derived.Test.YtigdfkpkogompaaDoorAsQ
namespace Go.Proofs.YtigdfkpkogompaaDoor
open Go.RowKit
attribute [local go_sem ↓] Go.wp_at_zero Go.wp_at_succ

theorem neqR (x y : Ci) (w : World) : (binOp .neq 43 (.agg (iC x).toArray) (.agg (iC y).toArray)).run Tryd.prog w = .ok (.bool (!decide (x = y))) w := by
  rw [run_neq_struct, eqI_gen _ x y w (by kernel_rfl) (by kernel_rfl) (by kernel_rfl)]; rfl
theorem eqlI (x y : Ci) (w : World) : (binOp .eql 41 (.agg (iC x).toArray) (.agg (iC y).toArray)).run Tryd.prog w = .ok (.bool (decide (x = y))) w := by
  rw [run_eql_struct, eqI_gen _ x y w (by kernel_rfl) (by kernel_rfl) (by kernel_rfl)]; rfl
theorem load_drR {w : World} {ad : Addr} {x : Ci} (hld : ∀ j v, (iC x)[j]? = some v → w.cell? (ad.add j) = some v) : ∀ w', (∃ k, w' = w.drewN k) → (loadVar 43 ad).run Tryd.prog w' = .ok (.agg (iC x).toArray) w' := fun w' ⟨k, hk⟩ => by
  subst hk
  exact run_loadVar_at _ ad 43 (iC x) _ hld Tryd.underlying43 rfl (by rw [rSize, iC_len])
theorem wpList_neqR {ops : Array Oper} {rest : List Oper} {o : Oper} {a : Act} {w : World} {Q : Exit → Act → World → Prop} (hgd : o.guard = none) (x y : Operand) (t' : TypeId) (ho : o.op = .binOp .neq 43 x y t') (r s : Ci)
    (hx : a.eval x = .agg (iC r).toArray) (hy : a.eval y = .agg (iC s).toArray) (h : wpList Tryd.prog ops Q rest (a.put o.dst (.bool (!decide (r = s)))) w) : wpList Tryd.prog ops Q (o :: rest) a w := by
  refine wpList_plain hgd fun _ hK => ?_
  have hrun : (execOp a.eval o).run Tryd.prog w = .ok (.value (.bool (!decide (r = s)))) w := by
    unfold execOp
    simp only [ho, hx, hy, Sem.run_bind, run_eqGuard_agg (P := Tryd.prog) w .neq 43 x y _ _ (by kernel_rfl), neqR, Result.andThen_ok, Sem.run_pure]
  unfold Oper.wp
  rw [hrun]
  exact hK _ _ h
set_option maxRecDepth 100000 in
set_option maxHeartbeats 4000000 in
theorem rsameI_any (A1 A2 : Option Addr) (n m c1 c2 : Nat) (l l2 : List Ci) (w : World) (hn : n ≤ 1000000) (hm : m ≤ 1000000) (hR : Reads w w.heap.size 3 A1 n (isC l)) (hR2 : Reads w w.heap.size 3 A2 m (isC l2)) :
    Calls Tryd.prog 15 #[.slice A1 n c1, .slice A2 m c2] w fun e w' => e = .returned (.bool (decide (l = l2))) ∧ ∃ k, w' = w.drewN k := by
  have hl := isR_n hR
  have hl2 := isR_n hR2
  by_cases hnm : n = m
  · subst hnm
    have HL := Sl.mk hl
    have HL2 := Sl.mk hl2
    obtain ⟨F, hF⟩ : ∃ F, decide (l = l2) = F := ⟨_, rfl⟩
    have HF := Sl.mk hF
    rw [hF]
    clear hl hl2 hF
    go_enter Tryd.func15, Tryd.ntmps15
    go_wp2_with fail
    go_loopw [5] (fun s13 wr => ∃ i q : Nat, i ≤ n ∧ s13 = .int .i64 i ∧ Sl (F = decide (l.drop i = l2.drop i)) ∧ wr = w.drewN q) (fun s13 _ => n - (intOf s13).toNat)
    case atStart => exact ⟨0, 0, Nat.zero_le _, rfl, ⟨by simp [HF.out]⟩, rfl⟩
    case round =>
      obtain ⟨i, q, hi, rfl, HI, hq⟩ := hrel
      by_cases hil : i < n
      · obtain ⟨r, hr⟩ : ∃ r, l[i]? = some r := ⟨_, List.getElem?_eq_getElem (by rw [HL.out]; exact hil)⟩
        obtain ⟨s, hs⟩ : ∃ s, l2[i]? = some s := ⟨_, List.getElem?_eq_getElem (by rw [HL2.out]; exact hil)⟩
        obtain ⟨b1, o1, rfl, -, hld⟩ := isR_lit hR hr
        obtain ⟨b2, o2, rfl, -, hld2⟩ := isR_lit hR2 hs
        have HD := Sl.mk (drop_consI hr)
        have HD2 := Sl.mk (drop_consI hs)
        have hL1 : ∀ w', (∃ k, w' = wr.drewN k) → (loadVar 43 ⟨b1, o1 + i * 3, none⟩).run Tryd.prog w' = .ok (.agg (iC r).toArray) w' := fun w' ⟨k, hk⟩ => load_drR hld w' ⟨q + k, by rw [hk, hq, World.drewN_drewN]⟩
        have hL2 : ∀ w', (∃ k, w' = wr.drewN k) → (loadVar 43 ⟨b2, o2 + i * 3, none⟩).run Tryd.prog w' = .ok (.agg (iC s).toArray) w' := fun w' ⟨k, hk⟩ => load_drR hld2 w' ⟨q + k, by rw [hk, hq, World.drewN_drewN]⟩
        have Hq := Sl.mk hq
        have e1 : decide ((i : Int) < n) = true := by simp; omega
        have hi0 : (0 : Int) ≤ i := by omega
        have hi1 : (i : Int) < n := by omega
        clear hr hs hld hld2 hq
        go_wp2_with fail
        refine wp_region_quiet_tail 8 (by kernel_rfl) (by kernel_rfl) ?_
        simp only [List.take_succ_cons, List.take_zero, List.drop_succ_cons, List.drop_zero]
        quiet_step (fail)
        quiet_step (fail)
        quiet_step (fail)
        refine wpQuiet_load_atI (by rfl) 43 (.tmp 19) rfl _ (iC r).toArray rfl hL1 ?_
        quiet_step (fail)
        quiet_step (fail)
        quiet_step (fail)
        refine wpQuiet_load_atI (by rfl) 43 (.tmp 23) rfl _ (iC s).toArray rfl hL2 ?_
        refine wpQuiet_nil ?_
        intro _ hw'
        obtain ⟨nq, hw''⟩ := hw'
        subst hw''
        refine wpList_neqR rfl (.tmp 20) (.tmp 24) _ rfl r s rfl rfl ?_
        by_cases eR : r = s
        · have HN := Sl.mk (show F = decide (l.drop (i + 1) = l2.drop (i + 1)) by rw [HI.out, HD.out, HD2.out, eR]; simp)
          rw [decide_eq_true eR]
          go_wp2_with fail
          go_roundw
          case rel => exact ⟨i + 1, q + nq, by omega, by go_num, HN, by rw [Hq.out, World.drewN_drewN]⟩
          case measure => simp [intOf]; omega
        · have HN := Sl.mk (show F = false by rw [HI.out, HD.out, HD2.out]; simp [eR])
          rw [decide_eq_false eR]
          go_wp2_with fail
          go_ret
          exact ⟨by rw [HN.out]; rfl, q + nq, by rw [Hq.out, World.drewN_drewN]⟩
      · obtain rfl : i = n := by omega
        have HN := Sl.mk (show F = true by rw [HI.out, List.drop_of_length_le (by rw [HL.out]; omega), List.drop_of_length_le (by rw [HL2.out]; omega)]; simp)
        clear hR hR2
        go_wp2_with fail
        go_ret
        exact ⟨by rw [HN.out]; rfl, q, (by first | rfl | exact hq)⟩
  · have hne : ((n : Int) != m) = true := by simp; omega
    have HF := Sl.mk (show decide (l = l2) = false from decide_eq_false fun e => by subst e; omega)
    clear hR hR2 hnm
    go_enter Tryd.func15, Tryd.ntmps15
    go_wp2_with fail
    go_ret
    exact ⟨by rw [HF.out]; rfl, 0, rfl⟩
def kTxt : List UInt8 := [112, 117, 115, 104, 32, 53, 10, 101, 110, 100, 58, 32, 10, 106, 117, 109, 112, 32, 101, 110, 100, 10]
theorem kAsm : asmF kTxt = ([⟨1, 5, []⟩, ⟨11, 1, []⟩], 0, 0) := by decide +kernel
set_option maxRecDepth 100000 in
set_option maxHeartbeats 4000000 in
theorem known_any (w : World) (hE : Eg w w.heap.size) :
    Calls Tryd.prog 13 #[] w (RPost w true) := by
  have HA := Sl.mk (asm_any kTxt w (by decide) hE)
  unfold AsPost at HA
  rw [kAsm] at HA
  have hE0 := Sl.mk hE
  clear hE
  have hg : Tryd.prog.eqGuardType Tryd.prog.depth 41 = false := by kernel_rfl
  have heq : ∀ W, (binOp .eql 41 (.agg #[.int .i64 1, .int .i64 5, .string ⟨#[]⟩]) (.agg #[.int .i64 1, .int .i64 5, .string ⟨#[]⟩])).run Tryd.prog W = .ok (.bool true) W := fun W => eqlI ⟨1, 5, []⟩ ⟨1, 5, []⟩ W
  go_enter Tryd.func13, Tryd.ntmps13
  go_wp2_with fail
  refine HA.out.mono ?_
  rintro e w1 ⟨A, c, rfl, ho, hb⟩
  have HB := Sl.mk hb
  obtain ⟨g, cg, hA, -, -, hgc⟩ := ownCells ho (by decide)
  injection hA with hA _ hcc
  subst hA
  subst hcc
  have c0 : w1.cell? ⟨g, 0, none⟩ = some (.int .i64 1) := hgc 0 _ rfl
  have c1 : w1.cell? ⟨g, 1, none⟩ = some (.int .i64 5) := hgc 1 _ rfl
  have c2 : w1.cell? ⟨g, 2, none⟩ = some (.string ⟨#[]⟩) := hgc 2 _ rfl
  have c4 : w1.cell? ⟨g, 4, none⟩ = some (.int .i64 1) := hgc 4 _ rfl
  have HW := Sl.mk (word_any 21 w1 (hE0.out.all hb).sp)
  have hwf : (bsS (wordF 21)).toList == [102, 97, 105, 108] := by decide +kernel
  clear ho hb hgc HA
  go_wp2_with fail
  refine HW.out.mono ?_
  rintro e w2 ⟨rfl, hb2⟩
  have HB2 := Sl.mk (below_tr HB.out hb2)
  clear hb2
  go_wp2_with fail
  go_ret
  exact ⟨rfl, HB2.out⟩
end Go.Proofs.YtigdfkpkogompaaDoor
