/-
  Appending to an empty row; the contracts of creelref05.Parse and Lead.
  The contracts of lists, size, slices.Grow and slices.Concat at items.
-/
import Derived.Test.YtmgblbkmbiiofaaDoorMd8
import Derived.ArgAppend
import Derived.Test.YtmgblbkmbiiofaaDoorMd5
import Derived.BigQuiet

namespace Go.Proofs.YtmgblbkmbiiofaaDoor
open Go.RowKit
attribute [local go_sem ↓] Go.wp_at_zero Go.wp_at_succ

theorem app_empty {P : Program} (w : World) (t ty e : TypeId) (i : TypeInfo) (z : Value) (size bytes : Nat) (ht : P.underlying t = some (.slice e)) (hi : P.info? e = some i) (hz : i.zero = some z) (hsize : i.size = size) (hby : i.bytes = bytes) (hzs : z.cells.size = size) (hsz : 0 < size)
    (base g : Nat) (hg : base ≤ g) (hB : Blk w g e #[]) (B n c : Nat) (A : Option Addr) (news : List Value) (hR : Reads w B size A n news) (h63 : n ≤ maxLen) (hbytes : n * bytes ≤ 140737488355328) :
    ∃ A' c' w', (Builtin.append_ #[t, t] ty #[.slice (some ⟨g, 0, none⟩) 0 0, .slice A n c]).run P w = .ok (.slice A' n c') w' ∧ w'.ownsRow base e size (.slice A' n c') n news ∧ Below w.heap.size w w' := by
  rcases Nat.eq_zero_or_pos n with h0 | h0
  · subst h0
    obtain rfl : news = [] := List.eq_nil_of_length_eq_zero (by simpa using hR.1)
    refine ⟨some ⟨g, 0, none⟩, 0, w, ?_, ⟨by simp, .inr ⟨g, 0, #[], rfl, hg, hB, Nat.le_refl _, by unfold maxLen; omega, by simp, by simp⟩⟩, Below.refl _ _⟩
    cases A with
    | none => simp [Builtin.append_, run_underlying ht, sizeOf, typeInfo, hi, Builtin.lenOf, Builtin.firstCells, storeCells]
    | some ad =>
      have hfc := run_firstCells_some (P := P) w i.size 0 ad 0 c [] (by simp) (fun j v h => by simp at h)
      simp [Builtin.append_, run_underlying ht, sizeOf, typeInfo, hi, Builtin.lenOf, hfc, storeCells]
  · obtain ⟨ad, rfl, _, hc⟩ := hR.2 h0
    obtain ⟨v', w', hrun, h1, h2⟩ := run_append_arg_grows (P := P) w t ty e i z size bytes ht hi hz hsize hby hzs hsz ⟨g, 0, none⟩ 0 0 [] (by simp) (fun j u h => by simp at h) ad n c news hR.1 hc (by omega) (by omega) (by simpa using hbytes)
    simp only [Nat.zero_add, List.nil_append] at h1
    obtain ⟨A', c', rfl⟩ := ownForm h1
    exact ⟨A', c', w', hrun, own_mono h1 (by have := hB.lt; omega), (Below.refl _ _).grown h2 (Nat.le_refl _) (fun g hg => by cases hg)⟩

theorem wp_app {P : Program} {o : Oper} {a : Act} {w w' : World} {K : Act → World → Prop} {Q : Exit → Act → World → Prop} {s x : Operand} {t : TypeId} {v1 v2 v : Value} (ho : o.op = .call { callee := .builtin .append, args := #[s, x], argTypes := #[t, t] })
    (hs : a.eval s = v1) (hx : a.eval x = v2) (hrun : (Builtin.append_ #[t, t] o.type #[v1, v2]).run P w = .ok v w') (h : K (a.put o.dst v) w') : o.wp P a w K Q := by
  unfold Oper.wp
  simp [execOp, ho, resolve, invoke, builtin, hs, hx, hrun, Result.andThen]
  exact h
theorem rowCap {w : World} {base n size c : Nat} {e : TypeId} {A : Option Addr} {xs : List Value} (h : w.ownsRow base e size (.slice A n c) n xs) : n ≤ c ∧ c ≤ 9223372036854775807 := by
  obtain ⟨A', c', e, h1, h2⟩ := ownCap h
  injection e with _ _ e
  subst e
  unfold maxLen at h2
  exact ⟨h1, by omega⟩
theorem parts_abs {s : ByteArray} (h : isAbs s = true) : partsF s = ⟨#[]⟩ :: partsF (cutF s) := by
  apply map_data_inj
  rw [parts_data, abs_form h, split_eq, List.map_cons, parts_data]
theorem cut_not {s : ByteArray} (h : isAbs s = false) : cutF s = s := by
  apply ByteArray.ext
  apply Array.ext'
  unfold isAbs at h
  unfold cutF Lib.trimPrefix
  rw [h]; simp
theorem abs_at {s : ByteArray} (h : 0 < s.size) : isAbs s = (s[0] == 47) := by
  have h0 := at_list h
  unfold isAbs Lib.hasPrefix
  cases hl : s.data.toList with
  | nil => rw [hl] at h0; cases h0
  | cons b r =>
    rw [hl] at h0
    simp only [List.getElem?_cons_zero, Option.some.injEq] at h0
    simp only [List.isPrefixOf, h0, Bool.and_true]
    rw [Bool.eq_iff_iff]; simp; exact eq_comm
theorem abs_nil {s : ByteArray} (h : s.size = 0) : isAbs s = false := by
  have : s.data.toList = [] := List.eq_nil_of_length_eq_zero (by simpa using h)
  unfold isAbs; rw [this]; rfl
theorem parse_root {s : ByteArray} (h : s.toList = [47]) : parseE s = 0 ∧ parseP s = [] := by
  have hs : s = ⟨#[47]⟩ := toList_inj (by rw [h]; decide +kernel)
  subst hs
  constructor <;> decide +kernel
theorem parse_abs {s : ByteArray} (h : isAbs s = true) (hr : ¬ s.toList = [47]) : parseP s = partsF (cutF s) := by
  unfold parseP
  rw [if_neg]
  intro e
  have := abs_form h
  rw [e] at this
  exact hr (by rw [ByteArray.toList_eq]; exact this)
theorem parts_pos (s : ByteArray) : 1 ≤ (partsF s).length := by rw [partsF_len]; omega
theorem tail_reads {w : World} {base n c : Nat} {A : Option Addr} {x : ByteArray} {q : List ByteArray} (h : w.ownsRow base 9 1 (.slice A n c) n (strV (x :: q))) (hq : 1 ≤ q.length) :
    ∃ g, A = some ⟨g, 0, none⟩ ∧ n = q.length + 1 ∧ Reads w w.heap.size 1 (some ⟨g, 1, none⟩) q.length (strV q) ∧ q.length ≤ c - 1 ∧ n ≤ c ∧ c ≤ 9223372036854775807 := by
  have hn := strs_n (Reads.of_own h)
  rw [List.length_cons] at hn
  obtain ⟨g, c', e, _, hlt, hc⟩ := ownCells h (by omega)
  obtain ⟨A', c'', e', h1, h2⟩ := ownCap h
  injection e with e _ _
  injection e' with _ _ e3
  subst e e3
  unfold maxLen at h2
  refine ⟨g, rfl, hn.symm, ⟨by rw [strV_len]; omega, fun _ => ⟨_, rfl, hlt, fun j u hu => ?_⟩⟩, by omega, h1, by omega⟩
  rw [Addr.add_lit, Nat.add_comm 1 j]
  exact hc (j + 1) u (by simpa [strV] using hu)

def RParsePost (w : World) (s : ByteArray) (e : Ending) (w' : World) : Prop :=
  Below w.heap.size w w' ∧ ((parseE s ≠ 0 ∧ e = .returned (.tuple #[.slice none 0 0, .int .i64 (parseE s)])) ∨
    (parseE s = 0 ∧ ∃ A n c, e = .returned (.tuple #[.slice A n c, .int .i64 0]) ∧ n = (parseP s).length ∧ n ≤ c ∧ c ≤ 9223372036854775807 ∧ Reads w' w'.heap.size 1 A n (strV (parseP s))))


theorem step_dot {p : List ByteArray} {t : ByteArray} (h : t.toList = [46]) : stepF p t = some p := if_pos h
theorem step_out {p : List ByteArray} {t : ByteArray} (h : t.toList = [46, 46]) : stepF p t = if p = [] then none else some p.dropLast := by
  unfold stepF
  rw [if_neg (by rw [h]; simp), if_pos h]
theorem step_name {p : List ByteArray} {t : ByteArray} (h1 : ¬ t.toList = [46]) (h2 : ¬ t.toList = [46, 46]) : stepF p t = if nameB t = true ∧ p.length < 8 then some (p ++ [t]) else none := by
  unfold stepF
  rw [if_neg h1, if_neg h2]
theorem step_bad {p : List ByteArray} {t : ByteArray} (h1 : ¬ t.toList = [46]) (h2 : ¬ t.toList = [46, 46]) (h : nameB t = false) : stepF p t = none := by
  rw [step_name h1 h2, if_neg (fun hh => by rw [h] at hh; cases hh.1)]
theorem step_full {p : List ByteArray} {t : ByteArray} (h1 : ¬ t.toList = [46]) (h2 : ¬ t.toList = [46, 46]) (h : 8 ≤ p.length) : stepF p t = none := by
  rw [step_name h1 h2, if_neg (fun hh => by have := hh.2; omega)]
theorem strV_take (p : List ByteArray) (k : Nat) : (strV p).take k = strV (p.take k) := by simp [strV, List.map_take]
def RLeadPost (w : World) (fr : List ByteArray) (s : ByteArray) (e : Ending) (w' : World) : Prop :=
  ∃ (A' : Option Addr) (k c' : Nat), e = .returned (.tuple #[.slice A' k c', .int .i64 (leadE fr s)]) ∧ Below w.heap.size w w'

/-- What the operations of one more name leave. -/
def LeadP (B n : Nat) (p : List ByteArray) (t : ByteArray) (k : Nat) (v : Value) (w : World) : Prop := match k with
  | 0 => ∃ g, v = .slice (some ⟨g, 0, none⟩) 0 0 ∧ B ≤ g ∧ Blk w g 9 #[]
  | 2 => ∃ A c, v = .slice A n c ∧ w.ownsRow B 9 1 (.slice A n c) n (strV p)
  | 7 => ∃ g, v = .slice (some ⟨g, 0, none⟩) 1 1 ∧ Reads w w.heap.size 1 (some ⟨g, 0, none⟩) 1 [.string t]
  | _ => False


end Go.Proofs.YtmgblbkmbiiofaaDoor

namespace Go.Proofs.YtmgblbkmbiiofaaDoor
open Go.RowKit
attribute [local go_sem ↓] Go.wp_at_zero Go.wp_at_succ

section
variable {P : Program}
theorem size_zeroCellsM (z : Array Value) (n : Nat) : (Builtin.zeroCells z n).size = n * z.size := by simp [Builtin.zeroCells]
theorem run_make_nil (w : World) (t tn ty e : TypeId) (i : TypeInfo) (z : Value) (ht : P.underlying t = some (.slice e)) (htn : P.underlying tn = some (.int .i64)) (hi : P.info? e = some i) (hz : i.zero = some z)
    (n : Nat) (h0 : 0 < n) (hsz : 0 < i.size) (h63 : (n : Int) ≤ 9223372036854775807) (h48 : n * i.bytes ≤ 281474976710656) :
    (Builtin.append_ #[t, tn] ty #[.slice none 0 0, .int .i64 n]).run P w =
      .ok (.slice (some ⟨w.heap.size, 0, none⟩) n (grownCap w n 0 e)) (w.drew.alloc (.cells (Builtin.zeroCells z.cells n ++ Builtin.zeroCells z.cells (grownCap w n 0 e - n)) e)) := by
  have hn : n ≠ 0 := by omega
  have h63' : ¬ (9223372036854775807 < (n : Int)) := by omega
  have h48' : ¬ (281474976710656 < Builtin.nextslicecap n 0 * i.bytes) := by rw [nextslicecap_zero h0]; omega
  have h48b : ¬ ((281474976710656 : Int) < (n : Int) * (i.bytes : Int)) := by
    have : ((n * i.bytes : Nat) : Int) ≤ 281474976710656 := by omega
    rw [Int.natCast_mul] at this
    omega
  have hw : IntKind.i64.wrap (n : Int) = n := Go.IntWalk.i64_in _ (by omega)
  have hneg : ¬ ((n : Int) < 0) := by omega
  simp [Builtin.append_, run_underlying ht, run_underlying htn, sizeOf, typeInfo, zeroValue, hi, hz, asInt, asIntOf, hw, hneg, hn, h63', h48', h48b, Question.forced, run_firstCells_none, newRow, grownCap]
  exact fun h => absurd h (Nat.ne_of_gt (Nat.mul_pos h0 hsz))
theorem wp_appT {o : Oper} {a : Act} {w w' : World} {K : Act → World → Prop} {Q : Exit → Act → World → Prop} {s x : Operand} {t tn : TypeId} {v1 v2 v : Value} (ho : o.op = .call { callee := .builtin .append, args := #[s, x], argTypes := #[t, tn] })
    (hs : a.eval s = v1) (hx : a.eval x = v2) (hrun : (Builtin.append_ #[t, tn] o.type #[v1, v2]).run P w = .ok v w') (h : K (a.put o.dst v) w') : o.wp P a w K Q := by
  unfold Oper.wp
  simp [execOp, ho, resolve, invoke, builtin, hs, hx, hrun, Result.andThen]
  exact h
theorem wpList_appT {w w' : World} {ops : Array Oper} {rest : List Oper} {o : Oper} {a : Act} {Q : Exit → Act → World → Prop} {s x : Operand} {t tn : TypeId} {v1 v2 v : Value} (hgd : o.guard = none) (ho : o.op = .call { callee := .builtin .append, args := #[s, x], argTypes := #[t, tn] })
    (hs : a.eval s = v1) (hx : a.eval x = v2) (hrun : ∀ ty, (Builtin.append_ #[t, tn] ty #[v1, v2]).run P w = .ok v w') (h : wpList P ops Q rest (a.put o.dst v) w') : wpList P ops Q (o :: rest) a w :=
  wpList_plain hgd fun _ hK => wp_appT ho hs hx (hrun _) (hK _ _ h)
end

theorem info_it : ∃ i, Tryd.prog.info? 62 = some i ∧ i.zero = some (.agg #[.string ⟨#[]⟩, .string ⟨#[]⟩]) ∧ i.size = 2 ∧ i.bytes = 32 := by
  have h := mInfo
  cases hi : Tryd.prog.info? 62 with
  | none => rw [hi] at h; cases h
  | some i =>
    rw [hi] at h
    simp only [Option.map_some, Option.some.injEq, Prod.mk.injEq] at h
    exact ⟨i, rfl, h.1, h.2.1, h.2.2⟩
/-- A row of items that the call owns. -/
def OwnI (w : World) (base : Nat) (A : Option Addr) (n c : Nat) (l : List It) : Prop := w.ownsRow base 62 2 (.slice A n c) n (itsC l)
theorem OwnI.reads {w : World} {base : Nat} {A : Option Addr} {n c : Nat} {l : List It} (h : OwnI w base A n c l) : Reads w w.heap.size 2 A n (itsC l) := by
  exact Reads.of_own h
set_option maxRecDepth 100000 in
set_option maxHeartbeats 2000000 in
theorem grow_any (n : Nat) (w : World) (hn : n ≤ 4000000) :
    Calls Tryd.prog 42 #[.slice none 0 0, .int .i64 n] w fun e w' => ∃ A c, e = .returned (.slice A 0 c) ∧ OwnI w' w.heap.size A 0 c [] ∧ Below w.heap.size w w' := by
  obtain ⟨i, hi, hz, hs, hby⟩ := info_it
  by_cases h0 : n = 0
  · subst h0
    go_enter Tryd.func42, Tryd.ntmps42
    go_wp2_with fail
    go_ret
    exact ⟨none, 0, rfl, World.ownsRow_nil _ _ _ _, Below.refl _ _⟩
  · have hp : 0 < n := by omega
    have hr := fun ty => run_make_nil (P := Tryd.prog) w 26 3 ty 62 i _ Tryd.underlying26 Tryd.underlying3 hi hz n hp (by omega) (by omega) (by rw [hby]; omega)
    have hge := grownCap_ge w n 0 62
    have hle := grownCap_le_maxLen w n 0 62 (by unfold maxLen; omega)
    obtain ⟨C, hC⟩ : ∃ C, grownCap w n 0 62 = C := ⟨_, rfl⟩
    rw [hC] at hr hge hle
    obtain ⟨cs, hcs⟩ : ∃ cs, Builtin.zeroCells (Value.agg #[.string ⟨#[]⟩, .string ⟨#[]⟩]).cells n ++ Builtin.zeroCells (Value.agg #[.string ⟨#[]⟩, .string ⟨#[]⟩]).cells (C - n) = cs := ⟨_, rfl⟩
    have hcz : cs.size = C * 2 := by
      rw [← hcs, Array.size_append, size_zeroCellsM, size_zeroCellsM]
      show n * 2 + (C - n) * 2 = C * 2
      omega
    rw [hcs] at hr
    have HO := Sl.mk (show OwnI (w.drew.alloc (.cells cs 62)) w.heap.size (some ⟨w.heap.size, 0, none⟩) 0 C [] from
      ⟨rfl, .inr ⟨w.heap.size, C, cs, rfl, Nat.le_refl _, heap_alloc_new w.drew _, Nat.zero_le _, hle, hcz, rfl⟩⟩)
    have HB := Sl.mk (show Below w.heap.size w (w.drew.alloc (.cells cs 62)) from (below_drN (Below.refl w.heap.size w) 1).alloc (Nat.le_refl _) _)
    clear hcs hcz hC
    go_enter Tryd.func42, Tryd.ntmps42
    go_wp2_with (refine wpList_appT rfl rfl rfl rfl hr ?_)
    go_ret
    exact ⟨_, _, rfl, HO.out, HB.out⟩

/-! ### A manifest's lists, and its size -/
/-- The lists' cells: the manifest lies at a place of a block. -/
def listsC (b o : Nat) : List Value :=
  [.string (bsS wPlug), .pointer (some ⟨b, o + 3, none⟩), .func (.func 30) #[] #[], .bool true,
   .string (bsS wSlot), .pointer (some ⟨b, o + 4, none⟩), .func (.func 30) #[] #[], .bool true,
   .string (bsS wHook), .pointer (some ⟨b, o + 5, none⟩), .func (.func 31) #[] #[], .bool true,
   .string (bsS wWant), .pointer (some ⟨b, o + 6, none⟩), .func (.func 32) #[] #[], .bool false]
def ListsPost (b o : Nat) (w : World) (e : Ending) (w' : World) : Prop :=
  e = .returned (.slice (some ⟨w.heap.size, 0, none⟩) 4 4) ∧ Below w.heap.size w w' ∧ w'.heap.size = w.heap.size + 1 ∧ ∀ j v, (listsC b o)[j]? = some v → w'.cell? ⟨w.heap.size, j, none⟩ = some v
set_option maxRecDepth 100000 in
set_option maxHeartbeats 2000000 in
theorem lists_any (b o : Nat) (w : World) : Calls Tryd.prog 16 #[.pointer (some ⟨b, o, none⟩)] w (ListsPost b o w) := by
  go_enter Tryd.func16, Tryd.ntmps16
  go_wp2_with fail
  refine wp_region_quiet_tail 16 (by kernel_rfl) (by kernel_rfl) ?_
  simp only [List.take_succ_cons, List.take_zero, List.drop_succ_cons, List.drop_zero]
  repeat (any_goals (first | go_big_quiet_step (fail) | quiet_step (fail)))
  refine wpQuiet_nil ?_
  intro _ hw'
  obtain ⟨nq, hw''⟩ := hw'
  subst hw''
  go_wp2_with fail
  go_ret
  refine ⟨rfl, below_al (below_drN (Below.refl w.heap.size w) nq) _, by simp, fun j v hj => ?_⟩
  rw [World.cell?_alloc_at _ _ _ _ (by simp)]
  show (listsC b o).toArray[j]? = some v
  rw [List.getElem?_toArray]
  exact hj
/-- A manifest's seven cells: the lists' slices as they lie. -/
structure Hd where
  A : Option Addr
  n : Nat
  c : Nat
def Hd.v (h : Hd) : Value := .slice h.A h.n h.c
set_option maxRecDepth 100000 in
set_option maxHeartbeats 2000000 in
theorem size_any (b o : Nat) (h0 h1 h2 h3 : Hd) (w : World) (l0 : h0.n ≤ 1000000) (l1 : h1.n ≤ 1000000) (l2 : h2.n ≤ 1000000) (l3 : h3.n ≤ 1000000)
    (c0 : w.cell? ⟨b, o + 3, none⟩ = some h0.v) (c1 : w.cell? ⟨b, o + 4, none⟩ = some h1.v) (c2 : w.cell? ⟨b, o + 5, none⟩ = some h2.v) (c3 : w.cell? ⟨b, o + 6, none⟩ = some h3.v) :
    Calls Tryd.prog 23 #[.pointer (some ⟨b, o, none⟩)] w fun e w' => e = .returned (.int .i64 ((h0.n + h1.n + h2.n + h3.n : Nat) : Int)) ∧ Below w.heap.size w w' := by
  obtain ⟨A0, n0, k0⟩ := h0
  obtain ⟨A1, n1, k1⟩ := h1
  obtain ⟨A2, n2, k2⟩ := h2
  obtain ⟨A3, n3, k3⟩ := h3
  simp only [Hd.v] at *
  obtain ⟨s1, hs1⟩ : ∃ s : Nat, n0 + n1 = s := ⟨_, rfl⟩
  obtain ⟨s2, hs2⟩ : ∃ s : Nat, s1 + n2 = s := ⟨_, rfl⟩
  obtain ⟨s3, hs3⟩ : ∃ s : Nat, s2 + n3 = s := ⟨_, rfl⟩
  have HS := Sl.mk (show n0 + n1 + n2 + n3 = s3 by omega)
  have e1 : IntKind.i64.wrap ((n0 : Int) + (n1 : Int)) = (s1 : Nat) := by rw [show (n0 : Int) + (n1 : Int) = (s1 : Nat) by omega]; exact Go.IntWalk.i64_in _ (by omega)
  have e2 : IntKind.i64.wrap ((s1 : Int) + (n2 : Int)) = (s2 : Nat) := by rw [show (s1 : Int) + (n2 : Int) = (s2 : Nat) by omega]; exact Go.IntWalk.i64_in _ (by omega)
  have e3 : IntKind.i64.wrap ((s2 : Int) + (n3 : Int)) = (s3 : Nat) := by rw [show (s2 : Int) + (n3 : Int) = (s3 : Nat) by omega]; exact Go.IntWalk.i64_in _ (by omega)
  clear hs1 hs2 hs3
  go_enter Tryd.func23, Tryd.ntmps23
  go_wp2_with fail
  go_quiet (fail)
  go_wp2_with fail
  go_ret
  exact ⟨by rw [HS.out]; rfl, below_drN (Below.refl _ _) _⟩
end Go.Proofs.YtmgblbkmbiiofaaDoor
