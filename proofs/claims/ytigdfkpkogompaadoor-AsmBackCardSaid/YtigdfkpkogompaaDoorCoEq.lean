/-
  == between instructions; the contracts of slices.Equal at them, asm.Alike.
-/
import Derived.Test.YtigdfkpkogompaaDoorCoK
import Derived.Test.YtigdfkpkogompaaDoorWordsT
import Derived.Laws.StructEq
namespace Go.Proofs.YtigdfkpkogompaaDoor
open Go.RowKit
attribute [local go_sem ↓] Go.wp_at_zero Go.wp_at_succ

theorem three_ofI {α : Type} : ∀ {l : List α}, l.length = 3 → ∃ a b c, l = [a, b, c]
  | [a, b, c], _ => ⟨a, b, c, rfl⟩
  | [], h => by simp at h
  | [_], h => by simp at h
  | [_, _], h => by simp at h
  | _ :: _ :: _ :: _ :: _, h => by simp at h
theorem bs_beqI (a b : List UInt8) : ((bsS a).toList == (bsS b).toList) = decide (a = b) := by
  rw [bs_list, bs_list]
  by_cases h : a = b
  · subst h; simp
  · rw [decide_eq_false h]; exact beq_eq_false_iff_ne.2 h
theorem eqI_gen (t : TypeId) (x y : Ci) (w : World) (ht : Tryd.prog.underlying t = some (.struct (Tryd.prog.fieldsOf t))) (hp : Tryd.prog.stoodInHeld t = false)
    (hf : (Tryd.prog.fieldsOf t).toList.map (fun f => (f.type, f.offset, decide (f.name = "_"))) = [(3, 0, false), (3, 1, false), (9, 2, false)]) :
    (Op.equalIn 10000 t (.agg (iC x).toArray) (.agg (iC y).toArray)).run Tryd.prog w = .ok (decide (x = y)) w := by
  rw [show 10000 = 9999 + 1 from rfl, run_equalIn_struct w 9999 t _ _ ht hp]
  generalize (Tryd.prog.fieldsOf t).toList = fs at hf
  have hlen : fs.length = 3 := by have := congrArg List.length hf; simpa using this
  obtain ⟨f0, f1, f2, rfl⟩ := three_ofI hlen
  clear hlen
  simp only [List.map_cons, List.map_nil, List.cons.injEq, Prod.mk.injEq, and_true, decide_eq_false_iff_not] at hf
  obtain ⟨⟨a0, b0, n0⟩, ⟨a1, b1, n1⟩, a2, b2, n2⟩ := hf
  obtain ⟨o1, k1, s1⟩ := x
  obtain ⟨o2, k2, s2⟩ := y
  have hI : ∀ a b : Int, (Op.equalIn 9999 3 (.int .i64 a) (.int .i64 b)).run Tryd.prog w = .ok (a == b) w := fun a b => run_equalIn_int w 9998 3 .i64 .i64 a b Tryd.underlying3
  have hS : ∀ a b : List UInt8, (Op.equalIn 9999 9 (.string (bsS a)) (.string (bsS b))).run Tryd.prog w = .ok (decide (a = b)) w := fun a b => by
    rw [run_equalIn_string w 9998 9 (bsS a) (bsS b) Tryd.underlying9, bs_beqI]
  have p0 : ∀ (a b : Int) (c : List UInt8), (part 3 #[.int .i64 a, .int .i64 b, .string (bsS c)] 0).run Tryd.prog w = .ok (.int .i64 a) w := fun a b c => by
    simp [part, isAgg, run_underlying Tryd.underlying3]
  have p1 : ∀ (a b : Int) (c : List UInt8), (part 3 #[.int .i64 a, .int .i64 b, .string (bsS c)] 1).run Tryd.prog w = .ok (.int .i64 b) w := fun a b c => by
    simp [part, isAgg, run_underlying Tryd.underlying3]
  have p2 : ∀ (a b : Int) (c : List UInt8), (part 9 #[.int .i64 a, .int .i64 b, .string (bsS c)] 2).run Tryd.prog w = .ok (.string (bsS c)) w := fun a b c => by
    simp [part, isAgg, run_underlying Tryd.underlying9]
  show (Op.eqFields 9999 #[.int .i64 o1, .int .i64 k1, .string (bsS s1)] #[.int .i64 o2, .int .i64 k2, .string (bsS s2)] [f0, f1, f2]).run Tryd.prog w = _
  simp only [Op.eqFields, a0, b0, a1, b1, a2, b2, ne_eq, n0, n1, n2, not_false_eq_true, if_true, Sem.run_bind, p0, Result.andThen_ok, hI]
  by_cases e0 : o1 = o2
  · simp only [e0, beq_self_eq_true, Bool.not_true, Bool.false_eq_true, if_false, Sem.run_bind, p1, Result.andThen_ok, hI]
    by_cases e1 : k1 = k2
    · simp only [e1, beq_self_eq_true, Bool.not_true, Bool.false_eq_true, if_false, Sem.run_bind, p2, Result.andThen_ok, hS]
      by_cases e2 : s1 = s2
      · simp [e2]
      · simp [e2]
    · simp [e1]
  · simp [e0]
theorem neqI (x y : Ci) (w : World) : (binOp .neq 41 (.agg (iC x).toArray) (.agg (iC y).toArray)).run Tryd.prog w = .ok (.bool (!decide (x = y))) w := by
  rw [run_neq_struct, eqI_gen _ x y w (by kernel_rfl) (by kernel_rfl) (by kernel_rfl)]; rfl
theorem wpQuiet_load_atI {P : Program} {ops : Array Oper} {C : World → Prop} {Q : Act → Prop} {a : Act} {o : Oper} {rest : List Oper} (hgd : Region.wanted o (yielded ops a.tmps) = true) (ty : TypeId) (x : Operand) (ho : o.op = .load ty x)
    (ad : Addr) (cs : Array Value) (hx : a.eval x = .pointer (some ad)) (hL : ∀ w, C w → (loadVar ty ad).run P w = .ok (.agg cs) w) (h : wpQuiet P ops C Q rest (a.put o.dst (.agg cs))) : wpQuiet P ops C Q (o :: rest) a := by
  unfold wpQuiet
  rw [if_pos hgd]
  refine ⟨.agg cs, fun w hw => ?_, h⟩
  unfold Oper.quietAt execOp
  simp only [ho, hx, Instr.loadAt, Instr.sureAddr, Sem.run_bind, Sem.run_pure, Result.andThen_ok, hL w hw]
  exact ⟨rfl, rfl⟩
theorem isR_n {w : World} {B n : Nat} {A : Option Addr} {l : List Ci} (h : Reads w B 3 A n (isC l)) : l.length = n := by
  have hl := h.1
  rw [isC_len] at hl
  omega
theorem isR_lit {w : World} {B n : Nat} {A : Option Addr} {l : List Ci} (h : Reads w B 3 A n (isC l)) {i : Nat} {x : Ci} (hi : l[i]? = some x) :
    ∃ b o, A = some ⟨b, o, none⟩ ∧ b < B ∧ ∀ j v, (iC x)[j]? = some v → w.cell? ((⟨b, o + i * 3, none⟩ : Addr).add j) = some v := by
  have hil : i < l.length := (List.getElem?_eq_some_iff.1 hi).1
  have hl := isR_n h
  obtain ⟨ad, e', hb, hcc⟩ := h.2 (by omega)
  have hlen : 0 < (isC l).length := by rw [isC_len]; omega
  have e := addr_lit (hcc 0 _ (List.getElem?_eq_getElem hlen))
  refine ⟨ad.block, ad.off, by rw [← e]; exact e', hb, fun j v hv => ?_⟩
  have h1 := hcc _ v (isC_at l i x hi j v hv)
  rw [e, Addr.add_lit] at h1
  rw [Addr.add_lit, Nat.add_assoc]
  exact h1
theorem load_drI {w : World} {ad : Addr} {x : Ci} (hld : ∀ j v, (iC x)[j]? = some v → w.cell? (ad.add j) = some v) : ∀ w', (∃ k, w' = w.drewN k) → (loadVar 41 ad).run Tryd.prog w' = .ok (.agg (iC x).toArray) w' := fun w' ⟨k, hk⟩ => by
  subst hk
  exact run_loadVar_at _ ad 41 (iC x) _ hld Tryd.underlying41 rfl (by rw [iSize, iC_len])
theorem wpList_neqI {ops : Array Oper} {rest : List Oper} {o : Oper} {a : Act} {w : World} {Q : Exit → Act → World → Prop} (hgd : o.guard = none) (x y : Operand) (t' : TypeId) (ho : o.op = .binOp .neq 41 x y t') (r s : Ci)
    (hx : a.eval x = .agg (iC r).toArray) (hy : a.eval y = .agg (iC s).toArray) (h : wpList Tryd.prog ops Q rest (a.put o.dst (.bool (!decide (r = s)))) w) : wpList Tryd.prog ops Q (o :: rest) a w := by
  refine wpList_plain hgd fun _ hK => ?_
  have hrun : (execOp a.eval o).run Tryd.prog w = .ok (.value (.bool (!decide (r = s)))) w := by
    unfold execOp
    simp only [ho, hx, hy, Sem.run_bind, run_eqGuard_agg (P := Tryd.prog) w .neq 41 x y _ _ (by kernel_rfl), neqI, Result.andThen_ok, Sem.run_pure]
  unfold Oper.wp
  rw [hrun]
  exact hK _ _ h
theorem drop_consI {l : List Ci} {i : Nat} {x : Ci} (h : l[i]? = some x) : l.drop i = x :: l.drop (i + 1) := by
  have hi : i < l.length := (List.getElem?_eq_some_iff.1 h).1
  rw [List.drop_eq_getElem_cons hi]
  rw [List.getElem?_eq_getElem hi] at h
  rw [Option.some.inj h]

set_option maxRecDepth 100000 in
set_option maxHeartbeats 4000000 in
theorem equalI_any (A1 A2 : Option Addr) (n m c1 c2 : Nat) (l l2 : List Ci) (w : World) (hn : n ≤ 1000000) (hm : m ≤ 1000000) (hR : Reads w w.heap.size 3 A1 n (isC l)) (hR2 : Reads w w.heap.size 3 A2 m (isC l2)) :
    Calls Tryd.prog 23 #[.slice A1 n c1, .slice A2 m c2] w fun e w' => e = .returned (.bool (decide (l = l2))) ∧ ∃ k, w' = w.drewN k := by
  have hl := isR_n hR
  have hl2 := isR_n hR2
  by_cases hnm : n = m
  · subst hnm
    have HL := Sl.mk hl
    have HL2 := Sl.mk hl2
    obtain ⟨F, hF⟩ : ∃ F, decide (l = l2) = F := ⟨_, rfl⟩
    have HF := Sl.mk hF
    rw [hF]
    clear hl hl2 hF
    go_enter Tryd.func23, Tryd.ntmps23
    go_wp2_with fail
    go_loopw [5, 13] (fun _ s13 wr => ∃ i q : Nat, i ≤ n ∧ s13 = .int .i64 i ∧ Sl (F = decide (l.drop i = l2.drop i)) ∧ wr = w.drewN q) (fun _ s13 _ => n - (intOf s13).toNat)
    case atStart => exact ⟨0, 0, Nat.zero_le _, rfl, ⟨by simp [HF.out]⟩, rfl⟩
    case round =>
      obtain ⟨i, q, hi, rfl, HI, hq⟩ := hrel
      by_cases hil : i < n
      · obtain ⟨r, hr⟩ : ∃ r, l[i]? = some r := ⟨_, List.getElem?_eq_getElem (by rw [HL.out]; exact hil)⟩
        obtain ⟨s, hs⟩ : ∃ s, l2[i]? = some s := ⟨_, List.getElem?_eq_getElem (by rw [HL2.out]; exact hil)⟩
        obtain ⟨b1, o1, rfl, -, hld⟩ := isR_lit hR hr
        obtain ⟨b2, o2, rfl, -, hld2⟩ := isR_lit hR2 hs
        have HD := Sl.mk (drop_consI hr)
        have HD2 := Sl.mk (drop_consI hs)
        have hL1 : ∀ w', (∃ k, w' = wr.drewN k) → (loadVar 41 ⟨b1, o1 + i * 3, none⟩).run Tryd.prog w' = .ok (.agg (iC r).toArray) w' := fun w' ⟨k, hk⟩ => load_drI hld w' ⟨q + k, by rw [hk, hq, World.drewN_drewN]⟩
        have hL2 : ∀ w', (∃ k, w' = wr.drewN k) → (loadVar 41 ⟨b2, o2 + i * 3, none⟩).run Tryd.prog w' = .ok (.agg (iC s).toArray) w' := fun w' ⟨k, hk⟩ => load_drI hld2 w' ⟨q + k, by rw [hk, hq, World.drewN_drewN]⟩
        have Hq := Sl.mk hq
        have e1 : decide ((i : Int) < n) = true := by simp; omega
        have hi0 : (0 : Int) ≤ i := by omega
        have hi1 : (i : Int) < n := by omega
        clear hr hs hld hld2 hq
        go_wp2_with fail
        refine wp_region_quiet_tail 8 (by kernel_rfl) (by kernel_rfl) ?_
        simp only [List.take_succ_cons, List.take_zero, List.drop_succ_cons, List.drop_zero]
        quiet_step (fail)
        quiet_step (fail)
        quiet_step (fail)
        refine wpQuiet_load_atI (by rfl) 41 (.tmp 18) rfl _ (iC r).toArray rfl hL1 ?_
        quiet_step (fail)
        quiet_step (fail)
        quiet_step (fail)
        refine wpQuiet_load_atI (by rfl) 41 (.tmp 22) rfl _ (iC s).toArray rfl hL2 ?_
        refine wpQuiet_nil ?_
        intro _ hw'
        obtain ⟨nq, hw''⟩ := hw'
        subst hw''
        refine wpList_neqI rfl (.tmp 19) (.tmp 23) _ rfl r s rfl rfl ?_
        by_cases eR : r = s
        · have HN := Sl.mk (show F = decide (l.drop (i + 1) = l2.drop (i + 1)) by rw [HI.out, HD.out, HD2.out, eR]; simp)
          rw [decide_eq_true eR]
          go_wp2_with fail
          go_roundw
          case rel => exact ⟨i + 1, q + nq, by omega, by go_num, HN, by rw [Hq.out, World.drewN_drewN]⟩
          case measure => simp [intOf]; omega
        · have HN := Sl.mk (show F = false by rw [HI.out, HD.out, HD2.out]; simp [eR])
          rw [decide_eq_false eR]
          go_wp2_with fail
          go_ret
          exact ⟨by rw [HN.out]; rfl, q + nq, by rw [Hq.out, World.drewN_drewN]⟩
      · obtain rfl : i = n := by omega
        have HN := Sl.mk (show F = true by rw [HI.out, List.drop_of_length_le (by rw [HL.out]; omega), List.drop_of_length_le (by rw [HL2.out]; omega)]; simp)
        clear hR hR2
        go_wp2_with fail
        go_ret
        exact ⟨by rw [HN.out]; rfl, q, (by first | rfl | exact hq)⟩
  · have hne : ((n : Int) != m) = true := by simp; omega
    have HF := Sl.mk (show decide (l = l2) = false from decide_eq_false fun e => by subst e; omega)
    clear hR hR2 hnm
    go_enter Tryd.func23, Tryd.ntmps23
    go_wp2_with fail
    go_ret
    exact ⟨by rw [HF.out]; rfl, 0, rfl⟩
theorem alike_any (A1 A2 : Option Addr) (n m c1 c2 : Nat) (l l2 : List Ci) (w : World) (hn : n ≤ 1000000) (hm : m ≤ 1000000) (hR : Reads w w.heap.size 3 A1 n (isC l)) (hR2 : Reads w w.heap.size 3 A2 m (isC l2)) :
    Calls Tryd.prog 12 #[.slice A1 n c1, .slice A2 m c2] w fun e w' => e = .returned (.bool (decide (l = l2))) ∧ ∃ k, w' = w.drewN k := by
  have HE := Sl.mk (equalI_any A1 A2 n m c1 c2 l l2 w hn hm hR hR2)
  clear hR hR2
  go_enter Tryd.func12, Tryd.ntmps12
  go_wp2_with fail
  refine HE.out.mono ?_
  rintro e w1 ⟨rfl, k, rfl⟩
  go_wp2_with fail
  go_ret
  exact ⟨rfl, k, rfl⟩
end Go.Proofs.YtigdfkpkogompaaDoor
