/-
  The contracts of slices.Equal at revisions, store.Same.
-/
import Derived.Test.YtkmdhmnjohlnaaaRevEq
import Derived.Test.YtkmdhmnjohlnaaaWordsT
namespace Go.Proofs.Ytkmdhmnjohlnaaa
open Go.RowKit
attribute [local go_sem ↓] Go.wp_at_zero Go.wp_at_succ

theorem wpQuiet_load_at {P : Program} {ops : Array Oper} {C : World → Prop} {Q : Act → Prop} {a : Act} {o : Oper} {rest : List Oper} (hgd : Region.wanted o (yielded ops a.tmps) = true) (ty : TypeId) (x : Operand) (ho : o.op = .load ty x)
    (ad : Addr) (cs : Array Value) (hx : a.eval x = .pointer (some ad)) (hL : ∀ w, C w → (loadVar ty ad).run P w = .ok (.agg cs) w) (h : wpQuiet P ops C Q rest (a.put o.dst (.agg cs))) : wpQuiet P ops C Q (o :: rest) a := by
  unfold wpQuiet
  rw [if_pos hgd]
  refine ⟨.agg cs, fun w hw => ?_, h⟩
  unfold Oper.quietAt execOp
  simp only [ho, hx, Instr.loadAt, Instr.sureAddr, Sem.run_bind, Sem.run_pure, Result.andThen_ok, hL w hw]
  exact ⟨rfl, rfl⟩
theorem load_drewN {w : World} {ad : Addr} {r : Rv} (hld : ∀ j v, (rvC r)[j]? = some v → w.cell? (ad.add j) = some v) : ∀ w', (∃ k, w' = w.drewN k) → (loadVar 36 ad).run Try.prog w' = .ok (.agg (rvC r).toArray) w' := fun w' ⟨k, hk⟩ => by
  subst hk
  exact run_loadVar_at _ ad 36 (rvC r) _ hld Try.underlying36 rfl (by rw [infoRv, rvC_len])

theorem wpList_neq {ops : Array Oper} {rest : List Oper} {o : Oper} {a : Act} {w : World} {Q : Exit → Act → World → Prop} (hgd : o.guard = none) (x y : Operand) (t' : TypeId) (ho : o.op = .binOp .neq 36 x y t') (r s : Rv)
    (hx : a.eval x = .agg (rvC r).toArray) (hy : a.eval y = .agg (rvC s).toArray) (h : wpList Try.prog ops Q rest (a.put o.dst (.bool (!rvEq r s))) w) : wpList Try.prog ops Q (o :: rest) a w := by
  refine wpList_plain hgd fun _ hK => ?_
  have hrun : (execOp a.eval o).run Try.prog w = .ok (.value (.bool (!rvEq r s))) w := by
    unfold execOp
    simp only [ho, hx, hy, Sem.run_bind, run_eqGuard_agg (P := Try.prog) w .neq 36 x y _ _ (by kernel_rfl), neq_rv, Result.andThen_ok, Sem.run_pure]
  unfold Oper.wp
  rw [hrun]
  exact hK _ _ h

def eqL : List Rv → List Rv → Bool
  | [], [] => true
  | x :: xs, y :: ys => rvEq x y && eqL xs ys
  | _, _ => false
theorem eqL_self : ∀ l : List Rv, eqL l l = true
  | [] => rfl
  | x :: l => by simp [eqL, eqL_self l, (rvEq_iff x x).2 rfl]
theorem eqL_len : ∀ {l l2 : List Rv}, l.length ≠ l2.length → eqL l l2 = false
  | [], [], h => absurd rfl h
  | [], _ :: _, _ => rfl
  | _ :: _, [], _ => rfl
  | x :: xs, y :: ys, h => by simp [eqL, eqL_len (l := xs) (l2 := ys) (by simpa using h)]

set_option maxHeartbeats 4000000 in
theorem equal_any (A1 A2 : Option Addr) (n m c1 c2 : Nat) (l l2 : List Rv) (w : World) (hn : n ≤ 1000000) (hm : m ≤ 1000000) (hR : Reads w w.heap.size 34 A1 n (revC l)) (hR2 : Reads w w.heap.size 34 A2 m (revC l2)) :
    Calls Try.prog 39 #[.slice A1 n c1, .slice A2 m c2] w fun e w' => e = .returned (.bool (eqL l l2)) ∧ ∃ k, w' = w.drewN k := by
  have hl := reads_n hR
  have hl2 := reads_n hR2
  by_cases hnm : n = m
  · subst hnm
    have HL := Sl.mk hl
    have HL2 := Sl.mk hl2
    obtain ⟨F, hF⟩ : ∃ F, eqL l l2 = F := ⟨_, rfl⟩
    have HF := Sl.mk hF
    rw [hF]
    clear hl hl2 hF
    go_enter Try.func39, Try.ntmps39
    go_wp2_with fail
    go_loopw [5, 13] (fun _ s13 wr => ∃ i q : Nat, i ≤ n ∧ s13 = .int .i64 i ∧ Hid (F = eqL (l.drop i) (l2.drop i)) ∧ wr = w.drewN q) (fun _ s13 _ => n - (intOf s13).toNat)
    case atStart => exact ⟨0, 0, Nat.zero_le _, rfl, by simp [Hid, HF.out], rfl⟩
    case round =>
      obtain ⟨i, q, hi, rfl, HI, hq⟩ := hrel
      by_cases hil : i < n
      · obtain ⟨r, hr⟩ : ∃ r, l[i]? = some r := ⟨_, List.getElem?_eq_getElem (by rw [HL.out]; exact hil)⟩
        obtain ⟨s, hs⟩ : ∃ s, l2[i]? = some s := ⟨_, List.getElem?_eq_getElem (by rw [HL2.out]; exact hil)⟩
        obtain ⟨ad, rfl, -, hld, -⟩ := reads_load hR hr
        obtain ⟨ad2, rfl, -, hld2, -⟩ := reads_load hR2 hs
        have HD := Sl.mk (drop_cons' hr)
        have HD2 := Sl.mk (drop_cons' hs)
        have hL1 : ∀ w', (∃ k, w' = wr.drewN k) → (loadVar 36 (ad.add (i * 34))).run Try.prog w' = .ok (.agg (rvC r).toArray) w' := fun w' ⟨k, hk⟩ => load_drewN hld w' ⟨q + k, by rw [hk, hq, World.drewN_drewN]⟩
        have hL2 : ∀ w', (∃ k, w' = wr.drewN k) → (loadVar 36 (ad2.add (i * 34))).run Try.prog w' = .ok (.agg (rvC s).toArray) w' := fun w' ⟨k, hk⟩ => load_drewN hld2 w' ⟨q + k, by rw [hk, hq, World.drewN_drewN]⟩
        have Hq := Sl.mk hq
        have e1 : decide ((i : Int) < n) = true := by simp; omega
        have hi0 : (0 : Int) ≤ i := by omega
        have hi1 : (i : Int) < n := by omega
        clear hr hs hld hld2 hq
        go_wp2_with fail
        refine wp_region_quiet_tail 8 (by kernel_rfl) (by kernel_rfl) ?_
        simp only [List.take_succ_cons, List.take_zero, List.drop_succ_cons, List.drop_zero]
        quiet_step (fail)
        quiet_step (fail)
        quiet_step (fail)
        refine wpQuiet_load_at (by rfl) 36 (.tmp 18) rfl _ (rvC r).toArray rfl hL1 ?_
        quiet_step (fail)
        quiet_step (fail)
        quiet_step (fail)
        refine wpQuiet_load_at (by rfl) 36 (.tmp 22) rfl _ (rvC s).toArray rfl hL2 ?_
        refine wpQuiet_nil ?_
        intro _ hw'
        obtain ⟨nq, hw''⟩ := hw'
        subst hw''
        refine wpList_neq rfl (.tmp 19) (.tmp 23) _ rfl r s rfl rfl ?_
        cases eR : rvEq r s
        · have HN := Sl.mk (show F = false by rw [HI.out, HD.out, HD2.out, eqL, eR]; rfl)
          go_wp2_with fail
          go_ret
          exact ⟨by rw [HN.out]; rfl, q + nq, by rw [Hq.out, World.drewN_drewN]⟩
        · have HN := Sl.mk (show F = eqL (l.drop (i + 1)) (l2.drop (i + 1)) by rw [HI.out, HD.out, HD2.out, eqL, eR]; rfl)
          go_wp2_with fail
          go_roundw
          case rel => exact ⟨i + 1, q + nq, by omega, by go_num, HN.out, by rw [Hq.out, World.drewN_drewN]⟩
          case measure => simp [intOf]; omega
      · obtain rfl : i = n := by omega
        have HN := Sl.mk (show F = true by rw [HI.out, List.drop_of_length_le (by rw [HL.out]; omega), List.drop_of_length_le (by rw [HL2.out]; omega)]; rfl)
        clear hR hR2
        go_wp2_with fail
        go_ret
        exact ⟨by rw [HN.out]; rfl, q, (by first | rfl | exact hq)⟩
  · have hne : ((n : Int) != m) = true := by simp; omega
    have HF := Sl.mk (eqL_len (l := l) (l2 := l2) (by omega))
    clear hR hR2 hnm
    go_enter Try.func39, Try.ntmps39
    go_wp2_with fail
    go_ret
    exact ⟨by rw [HF.out]; rfl, 0, rfl⟩

/-- store.Same of a package and one of the same words. -/
theorem same_any (s1 s2 : ByteArray) (a : Int) (A1 A2 : Option Addr) (n c1 c2 : Nat) (l : List Rv) (w : World) (hn : n ≤ 1000000) (hR : Reads w w.heap.size 34 A1 n (revC l)) (hR2 : Reads w w.heap.size 34 A2 n (revC l)) :
    Calls Try.prog 26 #[.agg #[.string s1, .string s2, .int .i64 a, .slice A1 n c1], .agg #[.string s1, .string s2, .int .i64 a, .slice A2 n c2]] w fun e w' => e = .returned (.bool true) ∧ Below w.heap.size w w' := by
  have hRa := ((hR.alloc (Nat.le_refl _) (.cells #[.string s1, .string s2, .int .i64 a, .slice A1 n c1] 30)).more (B' := w.heap.size + 1) (by simp)).alloc (by simp) (.cells #[.string s1, .string s2, .int .i64 a, .slice A2 n c2] 30)
  have hRb := ((hR2.alloc (Nat.le_refl _) (.cells #[.string s1, .string s2, .int .i64 a, .slice A1 n c1] 30)).more (B' := w.heap.size + 1) (by simp)).alloc (by simp) (.cells #[.string s1, .string s2, .int .i64 a, .slice A2 n c2] 30)
  have hRa2 := Sl.mk (hRa.more (B' := ((w.alloc (.cells #[.string s1, .string s2, .int .i64 a, .slice A1 n c1] 30)).alloc (.cells #[.string s1, .string s2, .int .i64 a, .slice A2 n c2] 30)).heap.size) (by simp))
  have hRb2 := Sl.mk (hRb.more (B' := ((w.alloc (.cells #[.string s1, .string s2, .int .i64 a, .slice A1 n c1] 30)).alloc (.cells #[.string s1, .string s2, .int .i64 a, .slice A2 n c2] 30)).heap.size) (by simp))
  have hE := below_al (below_al (Below.refl w.heap.size w) (.cells #[.string s1, .string s2, .int .i64 a, .slice A1 n c1] 30)) (.cells #[.string s1, .string s2, .int .i64 a, .slice A2 n c2] 30)
  clear hR hR2 hRa hRb
  go_enter Try.func26, Try.ntmps26
  go_wp2_with fail
  refine (equal_any A1 A2 n n c1 c2 l l _ hn hn hRa2.out hRb2.out).mono ?_
  rintro e w2 ⟨rfl, k, rfl⟩
  rw [eqL_self]
  go_wp2_with fail
  go_ret
  exact ⟨rfl, below_drN hE k⟩

end Go.Proofs.Ytkmdhmnjohlnaaa
