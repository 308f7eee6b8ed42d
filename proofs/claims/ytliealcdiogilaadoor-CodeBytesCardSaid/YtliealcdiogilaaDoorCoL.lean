/-
  The contract of slices.Repeat at one text.
-/
import Derived.Test.YtliealcdiogilaaDoorCoK
import Derived.Laws.CopyOwn
import Derived.Laws.MakeOwn
namespace Go.Proofs.YtliealcdiogilaaDoor
open Go.RowKit
attribute [local go_sem ↓] Go.wp_at_zero Go.wp_at_succ

def strsC (l : List (List UInt8)) : List Value := l.map fun s => .string (bsS s)
theorem strsC_one (l : List (List UInt8)) : ∀ v ∈ strsC l, v.oneCell' = true := fun v hv => by
  obtain ⟨x, _, rfl⟩ := List.mem_map.1 hv; rfl
/-- 'make([]T, n)' of one-cell elements: the block is known whole. -/
theorem wpList_make_blk {P : Program} {w : World} {ops : Array Oper} {rest : List Oper} {o : Oper} {a : Act} {Q : Exit → Act → World → Prop}
    (hg : o.guard = none) (l c : Operand) (t : TypeId) (hop : o.op = Op.makeSlice t l c) (e : TypeId) (i : TypeInfo) (z : Value) (h1 : P.underlying t = some (.slice e)) (h2 : P.info? e = some i) (h3 : i.zero = some z) (h4 : i.size = 1) (h5 : z.cells = #[z]) (h6 : i.bytes ≤ 64)
    (n : Nat) (hl : a.eval l = .int .i64 n) (hc : a.eval c = .int .i64 n) (hn : n ≤ 1000000)
    (hK : ∀ w', Blk w' w.heap.size e (List.replicate n z).toArray → Below w.heap.size w w' → w'.heap.size = w.heap.size + 1 → wpList P ops Q rest (a.put o.dst (.slice (some ⟨w.heap.size, 0, none⟩) n n)) w') :
    wpList P ops Q (o :: rest) a w := by
  refine wpList_plain hg fun K hK' => ?_
  have hb : (i.bytes : Int) * (n : Int) ≤ 281474976710656 := by
    have : (i.bytes : Int) * (n : Int) ≤ 64 * (n : Int) := Int.mul_le_mul_of_nonneg_right (by omega) (by omega)
    omega
  have hrun := run_makeSlice (P := P) w t e i z h1 h2 h3 .i64 .i64 n n (by omega) (Int.le_refl _) (by rw [h4]; omega) hb (by omega)
  have hm : madeCells z.cells ((n : Int).toNat * i.size) = (List.replicate n z).toArray := by
    rw [h4, h5, Nat.mul_one, Int.toNat_natCast]
    apply Array.ext'
    apply List.ext_getElem
    · simp [madeCells]
    · intro j h1 h2
      simp [madeCells, Nat.mod_one]
  rw [hm, Int.toNat_natCast] at hrun
  unfold Oper.wp
  simp only [execOp, hop, hl, hc, hrun, Sem.run_bind, Sem.run_pure, Result.andThen_ok]
  exact hK' _ _ (hK _ (Blk.new w e _) (below_al (Below.refl _ _) _) (by simp))

theorem strInfoZ : (Tryd.prog.info? 9).map (fun i => (i.zero, i.size, i.bytes)) = some (some (.string ⟨#[]⟩), 1, 16) := by kernel_rfl
theorem rep_splice (x z : Value) (k m N : Nat) : splice (List.replicate k x ++ List.replicate (N - k) z) k (List.replicate m x) = List.replicate (k + m) x ++ List.replicate (N - (k + m)) z := by
  unfold splice
  rw [List.take_left' (by simp), List.length_replicate, ← List.drop_drop, List.drop_left' (by simp), List.drop_replicate, ← List.append_assoc, List.replicate_append_replicate, Nat.sub_sub]
def RepPost (w : World) (x : Value) (N : Nat) (e : Ending) (w' : World) : Prop :=
  ∃ g, e = .returned (.slice (some ⟨g, 0, none⟩) N N) ∧ w.heap.size ≤ g ∧ Blk w' g 9 (List.replicate N x).toArray ∧ Below w.heap.size w w'
set_option maxRecDepth 100000 in
set_option maxHeartbeats 4000000 in
theorem repeat_any (ab c N : Nat) (s : ByteArray) (w : World) (hb : ab < w.heap.size) (hc : w.cell? ⟨ab, 0, none⟩ = some (.string s)) (h1 : 1 ≤ N) (hN : N ≤ 1000000) :
    Calls Tryd.prog 43 #[.slice (some ⟨ab, 0, none⟩) 1 c, .int .i64 N] w (RepPost w (.string s) N) := by
  obtain ⟨j0, hj0, hy0, hy1, hy2⟩ := info_parts strInfoZ
  have HM := Sl.mk (fun W => bits_Mul 1 N (by omega) (by omega) W)
  rw [Nat.one_mul, Nat.div_eq_of_lt (show N < 18446744073709551616 by omega), Nat.mod_eq_of_lt (show N < 18446744073709551616 by omega)] at HM
  have HC := Sl.mk (show Sl (∀ W, Below w.heap.size w W → ∀ (j : Nat) v, [Value.string s][j]? = some v → W.cell? ((⟨ab, 0, none⟩ : Addr).add j) = some v) from ⟨fun W hW j v hj => by
    match j, hj with
    | 0, hj => simp at hj; subst hj; rw [show (⟨ab, 0, none⟩ : Addr).add 0 = ⟨ab, 0, none⟩ by simp [Addr.add], hW.cell (p := ⟨ab, 0, none⟩) hb]; exact hc⟩)
  have hNi : ¬ ((N : Int) < 0) := by omega
  clear hc
  go_enter Tryd.func43, Tryd.ntmps43
  go_wp2_with (first
    | (go_at_call 68; refine (HM.out _).mono ?_; rintro e w1 ⟨rfl, rfl⟩)
    | (refine wpList_make_blk rfl (.tmp 29) (.tmp 29) 35 rfl 9 j0 (.string ⟨#[]⟩) Tryd.underlying35 hj0 hy0 hy1 rfl (by rw [hy2]; omega) N rfl rfl hN ?_; intro w2 hB2 hE2 hS2; have hB2' : Blk w2 w1.heap.size 9 (List.replicate 0 (Value.string s) ++ List.replicate (N - 0) (Value.string ⟨#[]⟩)).toArray := hB2; clear hB2 hS2)
    | (refine wpList_copy_splice rfl (.tmp 31) (.tmp 32) 35 35 rfl 9 Tryd.underlying35 infoStr _ _ _ _ _ _ rfl rfl w1.heap.size 0 _ 9 hB2' (List.replicate 1 (.string s)) (Nat.min_eq_left h1).symm (fun _ => ⟨rfl, _, rfl, HC.out.out _ hE2⟩) (by simp; omega) (by intro v hv; rw [List.eq_of_mem_replicate hv]; rfl) w1.heap.size w1 hE2 (Nat.le_refl _) ?_; intro w3 hB3 hE3; rw [rep_splice _ _ 0 1 N, Nat.zero_add] at hB3; have HB3 := Sl.mk (unhide hB3); have HE3 := Sl.mk hE3; clear hB3 hE3))
  go_loopw [8] (fun v8 wr => ∃ k : Nat, 1 ≤ k ∧ k ≤ N ∧ v8 = .int .i64 k ∧ Blk wr w1.heap.size 9 (List.replicate k (Value.string s) ++ List.replicate (N - k) (Value.string ⟨#[]⟩)).toArray ∧ Below w1.heap.size w1 wr) (fun v8 _ => N - (intOf v8).toNat)
  case atStart => exact ⟨1, Nat.le_refl _, h1, rfl, HB3.out, HE3.out⟩
  case round =>
    obtain ⟨k, hk1, hkN, rfl, hB, hE⟩ := hrel
    by_cases hlt : k < N
    · obtain ⟨m, hm⟩ : ∃ m, Nat.min k (N - k) = m := ⟨_, rfl⟩
      have hm1 : 1 ≤ m := by rw [← hm]; exact Nat.le_min.2 ⟨hk1, by omega⟩
      have hm2 : m ≤ N - k := by rw [← hm]; exact Nat.min_le_right _ _
      have hmk : m ≤ k := by rw [← hm]; exact Nat.min_le_left _ _
      have HM2 := Sl.mk hm
      clear hm
      go_upto_region 9 with fail
      obtain ⟨wd, hwd⟩ : ∃ wd, wr.drew = wd := ⟨_, rfl⟩
      have hBd : Blk wd w1.heap.size 9 (List.replicate k (Value.string s) ++ List.replicate (N - k) (Value.string ⟨#[]⟩)).toArray := by rw [← hwd]; exact hB.drew
      have hEd : Below w1.heap.size w1 wd := by rw [← hwd]; exact hE.drew
      refine wp_region_X (fun W => W = wd) [0, 1, 2, 3, 4, 5, 6, 7, 8, 9] (by kernel_rfl) hwd (fun hS => ?_)
      rw [hwd] at hS ⊢
      clear hwd hB hE
      refine wpAnyX_P (i := 0) (v := ?_) rfl (by kernel_rfl) (by kernel_rfl) (by kernel_rfl) (by kernel_rfl) (fun _ _ _ h => h) (Or.inl ⟨by rfl, ?_⟩) ?_
      rotate_left 1
      · (intro w' hw'; (first | rw [hw'] | (have hw2 := HSF.out w' hw') | skip); go_simp; (try with_reducible rfl))
      simp only [Act.put, List.setIfInBounds_toArray, List.set_cons_zero, List.set_cons_succ]
      refine wpAnyX_P (i := 1) (v := ?_) rfl (by kernel_rfl) (by kernel_rfl) (by kernel_rfl) (by kernel_rfl) (fun _ _ _ h => h) (Or.inl ⟨by rfl, ?_⟩) ?_
      rotate_left 1
      · (intro w' hw'; (first | rw [hw'] | (have hw2 := HSF.out w' hw') | skip); go_simp; (try with_reducible rfl))
      simp only [Act.put, List.setIfInBounds_toArray, List.set_cons_zero, List.set_cons_succ]
      refine wpAnyX_P (i := 2) (v := ?_) rfl (by kernel_rfl) (by kernel_rfl) (by kernel_rfl) (by kernel_rfl) (fun _ _ _ h => h) (Or.inl ⟨by rfl, ?_⟩) ?_
      rotate_left 1
      · (intro w' hw'; (first | rw [hw'] | (have hw2 := HSF.out w' hw') | skip); go_simp; (try with_reducible rfl))
      simp only [Act.put, List.setIfInBounds_toArray, List.set_cons_zero, List.set_cons_succ]
      refine wpAnyX_P (i := 3) (v := ?_) rfl (by kernel_rfl) (by kernel_rfl) (by kernel_rfl) (by kernel_rfl) (fun _ _ _ h => h) (Or.inl ⟨by rfl, ?_⟩) ?_
      rotate_left 1
      · (intro w' hw'; (first | rw [hw'] | (have hw2 := HSF.out w' hw') | skip); go_simp; (try with_reducible rfl))
      simp only [Act.put, List.setIfInBounds_toArray, List.set_cons_zero, List.set_cons_succ]
      refine wpAnyX_P (i := 4) (v := ?_) rfl (by kernel_rfl) (by kernel_rfl) (by kernel_rfl) (by kernel_rfl) (fun _ _ _ h => h) (Or.inl ⟨by rfl, ?_⟩) ?_
      rotate_left 1
      · (intro w' hw'; (first | rw [hw'] | (have hw2 := HSF.out w' hw') | skip); go_simp; (try with_reducible rfl))
      simp only [Act.put, List.setIfInBounds_toArray, List.set_cons_zero, List.set_cons_succ]
      refine wpAnyX_P (i := 5) (v := ?_) rfl (by kernel_rfl) (by kernel_rfl) (by kernel_rfl) (by kernel_rfl) (fun _ _ _ h => h) (Or.inl ⟨by rfl, ?_⟩) ?_
      rotate_left 1
      · (intro w' hw'; (first | rw [hw'] | (have hw2 := HSF.out w' hw') | skip); go_simp; (try with_reducible rfl))
      simp only [Act.put, List.setIfInBounds_toArray, List.set_cons_zero, List.set_cons_succ]
      refine wpAnyX_P (i := 6) (v := ?_) rfl (by kernel_rfl) (by kernel_rfl) (by kernel_rfl) (by kernel_rfl) (fun _ _ _ h => h) (Or.inl ⟨by rfl, ?_⟩) ?_
      rotate_left 1
      · (intro w' hw'; (first | rw [hw'] | (have hw2 := HSF.out w' hw') | skip); go_simp; (try with_reducible rfl))
      simp only [Act.put, List.setIfInBounds_toArray, List.set_cons_zero, List.set_cons_succ]
      refine wpAnyX_tailF [7, 8, 9] (by kernel_rfl) (by rfl) (by rfl) (by rfl) ?_
      simp only [List.filterMap_cons, List.filterMap_nil, List.getElem?_cons_succ, List.getElem?_cons_zero]
      have hsrc : ∀ (j : Nat) v, (List.replicate m (Value.string s))[j]? = some v → wd.cell? ((⟨w1.heap.size, 0, none⟩ : Addr).add j) = some v := fun j v hv => by
        have hj : j < m := by have := (List.getElem?_eq_some_iff.1 hv).1; simpa using this
        have hv2 := List.eq_of_mem_replicate (List.mem_of_getElem? hv)
        subst hv2
        rw [show (⟨w1.heap.size, 0, none⟩ : Addr).add j = ⟨w1.heap.size, j, none⟩ by unfold Addr.add; split <;> simp_all, hBd.cell j, List.getElem?_toArray, List.getElem?_append_left (by simp; omega), List.getElem?_replicate, if_pos (by omega)]
      refine wpList_copy_splice rfl (.tmp 41) (.tmp 44) 35 35 rfl 9 Tryd.underlying35 infoStr _ _ _ _ _ _ rfl rfl w1.heap.size k _ 9 hBd (List.replicate m (.string s)) (by rw [List.length_replicate]; exact HM2.out.symm) (fun _ => ⟨if_neg (by omega), _, rfl, hsrc⟩) (by simp; omega) (by intro v hv; rw [List.eq_of_mem_replicate hv]; rfl) w1.heap.size w1 hEd (Nat.le_refl _) ?_
      intro w3 hB3 hE3
      rw [rep_splice _ _ k m N] at hB3
      have HB3 := Sl.mk (unhide hB3)
      have HE4 := Sl.mk hE3
      rw [List.length_replicate]
      clear hsrc hB3 hBd hEd hE3
      go_wp2_with fail
      refine NoPanic.normal ?_
      go_wp2_with fail
      go_roundw
      case rel => exact ⟨k + m, by omega, by omega, by go_num, HB3.out, HE4.out⟩
      case measure => simp [intOf]; omega
    · obtain rfl : k = N := by omega
      rw [Nat.sub_self, List.replicate_zero, List.append_nil] at hB
      go_wp2_with fail
      go_ret
      exact ⟨_, rfl, Nat.le_refl _, hB, hE⟩
end Go.Proofs.YtliealcdiogilaaDoor
