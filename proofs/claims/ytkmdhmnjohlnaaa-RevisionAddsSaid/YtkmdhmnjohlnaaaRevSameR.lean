/-
  The contracts of creelref10.Same at equal packages, creellaw23.same, revs.
-/
import Derived.Test.YtkmdhmnjohlnaaaRevOf
import Derived.Test.YtkmdhmnjohlnaaaRevSame
namespace Go.Proofs.Ytkmdhmnjohlnaaa
open Go.RowKit
attribute [local go_sem ↓] Go.wp_at_zero Go.wp_at_succ

theorem load_drewNR {w : World} {ad : Addr} {r : Rv} (hld : ∀ j v, (rvC r)[j]? = some v → w.cell? (ad.add j) = some v) : ∀ w', (∃ k, w' = w.drewN k) → (loadVar 27 ad).run Try.prog w' = .ok (.agg (rvC r).toArray) w' := fun w' ⟨k, hk⟩ => by
  subst hk
  exact run_loadVar_at _ ad 27 (rvC r) _ hld Try.underlying27 rfl (by rw [infoRvR, rvC_len])
theorem wpList_neqR {ops : Array Oper} {rest : List Oper} {o : Oper} {a : Act} {w : World} {Q : Exit → Act → World → Prop} (hgd : o.guard = none) (x y : Operand) (t' : TypeId) (ho : o.op = .binOp .neq 27 x y t') (r s : Rv)
    (hx : a.eval x = .agg (rvC r).toArray) (hy : a.eval y = .agg (rvC s).toArray) (h : wpList Try.prog ops Q rest (a.put o.dst (.bool (!rvEq r s))) w) : wpList Try.prog ops Q (o :: rest) a w := by
  refine wpList_plain hgd fun _ hK => ?_
  have hrun : (execOp a.eval o).run Try.prog w = .ok (.value (.bool (!rvEq r s))) w := by
    unfold execOp
    simp only [ho, hx, hy, Sem.run_bind, run_eqGuard_agg (P := Try.prog) w .neq 27 x y _ _ (by kernel_rfl), neq_rv', Result.andThen_ok, Sem.run_pure]
  unfold Oper.wp
  rw [hrun]
  exact hK _ _ h

set_option maxHeartbeats 4000000 in
theorem same10_any (s1 s2 : ByteArray) (a : Int) (A1 A2 : Option Addr) (n c1 c2 : Nat) (l : List Rv) (w : World) (hn : n ≤ 1000000) (hR : Reads w w.heap.size 34 A1 n (revC l)) (hR2 : Reads w w.heap.size 34 A2 n (revC l)) :
    Calls Try.prog 12 #[.agg #[.string s1, .string s2, .int .i64 a, .slice A1 n c1], .agg #[.string s1, .string s2, .int .i64 a, .slice A2 n c2]] w fun e w' => e = .returned (.bool true) ∧ Below w.heap.size w w' := by
  have hl := reads_n hR
  have HL := Sl.mk hl
  have hX := (Blk.new w 24 #[.string s1, .string s2, .int .i64 a, .slice A1 n c1]).alloc (.cells #[.string s1, .string s2, .int .i64 a, .slice A2 n c2] 24)
  have hY := Blk.new' (w := w.alloc (.cells #[.string s1, .string s2, .int .i64 a, .slice A1 n c1] 24)) (g := w.heap.size + 1) (t := 24) (cs := #[.string s1, .string s2, .int .i64 a, .slice A2 n c2]) (by simp)
  have hE := below_al (below_al (Below.refl w.heap.size w) (.cells #[.string s1, .string s2, .int .i64 a, .slice A1 n c1] 24)) (.cells #[.string s1, .string s2, .int .i64 a, .slice A2 n c2] 24)
  obtain ⟨w0, hw0⟩ : ∃ w0, (w.alloc (.cells #[.string s1, .string s2, .int .i64 a, .slice A1 n c1] 24)).alloc (.cells #[.string s1, .string s2, .int .i64 a, .slice A2 n c2] 24) = w0 := ⟨_, rfl⟩
  rw [hw0] at hX hY hE
  have HA := Sl.mk (hR.below hE)
  have HB := Sl.mk (hR2.below hE)
  clear hR hR2 hl
  obtain ⟨x0, x1, x2, x3⟩ := hX.c4
  obtain ⟨y0, y1, y2, y3⟩ := hY.c4
  go_enter Try.func12, Try.ntmps12
  go_wp2_with fail
  clear hw0
  go_loopw [5] (fun s5 wr => ∃ i q : Nat, i ≤ n ∧ s5 = .int .i64 i ∧ wr = w0.drewN q) (fun s5 _ => n - (intOf s5).toNat)
  case atStart => exact ⟨0, 0, Nat.zero_le _, rfl, rfl⟩
  case round =>
    obtain ⟨i, q, hi, rfl, hq⟩ := hrel
    have z3 : wr.cell? ⟨w.heap.size, 3, none⟩ = some (.slice A1 n c1) := by rw [hq]; exact x3
    have z7 : wr.cell? ⟨w.heap.size + 1, 3, none⟩ = some (.slice A2 n c2) := by rw [hq]; exact y3
    by_cases hil : i < n
    · obtain ⟨r, hr⟩ : ∃ r, l[i]? = some r := ⟨_, List.getElem?_eq_getElem (by rw [HL.out]; exact hil)⟩
      obtain ⟨ad, rfl, -, hld, -⟩ := reads_load HA.out hr
      obtain ⟨ad2, rfl, -, hld2, -⟩ := reads_load HB.out hr
      have hL1 : ∀ w', (∃ k, w' = wr.drewN k) → (loadVar 27 (ad.add (i * 34))).run Try.prog w' = .ok (.agg (rvC r).toArray) w' := fun w' ⟨k, hk⟩ => load_drewNR hld w' ⟨q + k, by rw [hk, hq, World.drewN_drewN]⟩
      have hL2 : ∀ w', (∃ k, w' = wr.drewN k) → (loadVar 27 (ad2.add (i * 34))).run Try.prog w' = .ok (.agg (rvC r).toArray) w' := fun w' ⟨k, hk⟩ => load_drewNR hld2 w' ⟨q + k, by rw [hk, hq, World.drewN_drewN]⟩
      have Hq := Sl.mk hq
      have e1 : decide ((i : Int) < n) = true := by simp; omega
      have hi0 : (0 : Int) ≤ i := by omega
      have hi1 : (i : Int) < n := by omega
      clear hr hld hld2 hq x0 x1 x2 x3 y0 y1 y2 y3
      go_wp2_with fail
      refine wp_region_quiet_tail 10 (by kernel_rfl) (by kernel_rfl) ?_
      simp only [List.take_succ_cons, List.take_zero, List.drop_succ_cons, List.drop_zero]
      quiet_step (fail)
      quiet_step (fail)
      quiet_step (fail)
      quiet_step (fail)
      refine wpQuiet_load_at (by rfl) 27 (.tmp 44) rfl _ (rvC r).toArray rfl hL1 ?_
      quiet_step (fail)
      quiet_step (fail)
      quiet_step (fail)
      quiet_step (fail)
      refine wpQuiet_load_at (by rfl) 27 (.tmp 49) rfl _ (rvC r).toArray rfl hL2 ?_
      refine wpQuiet_nil ?_
      intro _ hw'
      obtain ⟨nq, hw''⟩ := hw'
      subst hw''
      refine wpList_neqR rfl (.tmp 45) (.tmp 50) _ rfl r r rfl rfl ?_
      rw [(rvEq_iff r r).2 rfl]
      go_wp2_with fail
      first
        | exact ⟨⟨i + 1, q + nq, by omega, by go_num, by rw [Hq.out, World.drewN_drewN]⟩, by simp [intOf]; omega⟩
        | (go_roundw
           case rel => exact ⟨i + 1, q + nq, by omega, by go_num, by rw [Hq.out, World.drewN_drewN]⟩
           case measure => simp [intOf]; omega)
    · obtain rfl : i = n := by omega
      have Hq := Sl.mk hq
      clear hq x0 x1 x2 x3 y0 y1 y2 y3
      go_wp2_with fail
      go_ret
      exact ⟨rfl, by rw [Hq.out]; exact below_drN hE q⟩

theorem fld3 (v0 v1 v2 : Value) (A : Option Addr) (n c : Nat) (w : World) : Sem.run Try.prog (Instr.field 24 (.agg #[v0, v1, v2, .slice A n c]) 3) w = .ok (.slice A n c) w := by
  have hu := Try.underlying24
  have h22 := Try.underlying22
  simp [Instr.field, run_underlying hu, part, isAgg, run_underlying h22, asAgg]

/-- revs: the row turned to the document's. -/
theorem revs_any (A : Option Addr) (n c : Nat) (l : List Rv) (w : World) (hn : n ≤ 1000000) (hR : Reads w w.heap.size 34 A n (revC l)) :
    Calls Try.prog 14 #[.slice A n c] w fun e w' => ∃ (A' : Option Addr) (c' : Nat), e = .returned (.slice A' n c') ∧ w'.ownsRow w.heap.size 27 34 (.slice A' n c') n (revC l) ∧ Below w.heap.size w w' := by
  have hfld := fld3
  go_enter Try.func14, Try.ntmps14
  go_wp2_with fail
  refine (of10_any ⟨#[]⟩ ⟨#[]⟩ 0 A n c l _ hn hR).mono ?_
  rintro e w1 ⟨A', c', rfl, hown, hB⟩
  go_wp2_with fail
  go_ret
  exact ⟨A', c', rfl, hown, hB⟩
theorem same_revs (A1 A2 : Option Addr) (n c1 c2 : Nat) (l : List Rv) (w : World) (hn : n ≤ 1000000) (hR : Reads w w.heap.size 34 A1 n (revC l)) (hR2 : Reads w w.heap.size 34 A2 n (revC l)) :
    Calls Try.prog 13 #[.slice A1 n c1, .slice A2 n c2] w fun e w' => e = .returned (.bool true) ∧ Below w.heap.size w w' := by
  go_enter Try.func13, Try.ntmps13
  go_wp2_with fail
  refine (same10_any ⟨#[]⟩ ⟨#[]⟩ 0 A1 A2 n c1 c2 l _ hn hR hR2).mono ?_
  rintro e w1 ⟨rfl, hB⟩
  go_wp2_with fail
  go_ret
  exact ⟨rfl, hB⟩

end Go.Proofs.Ytkmdhmnjohlnaaa
