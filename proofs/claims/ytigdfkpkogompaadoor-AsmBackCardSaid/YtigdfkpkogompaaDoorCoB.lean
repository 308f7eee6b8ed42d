/-
  The contracts of code's right and top, and of the table of effects.
-/
import Derived.Test.YtigdfkpkogompaaDoorCoA
import Derived.Maps.OwnSet
import Derived.Maps.Views
namespace Go.Proofs.YtigdfkpkogompaaDoor
open Go.RowKit
attribute [local go_sem ↓] Go.wp_at_zero Go.wp_at_succ

/-! ### Trimmed to nothing -/
theorem nt_contains (c : UInt8) : ([110, 116] : List UInt8).contains c = ntB c := by
  rw [List.contains_cons, List.contains_cons, List.contains_nil, Bool.or_false]; rfl
theorem drop_nil (f : UInt8 → Bool) : ∀ l : List UInt8, (l.dropWhile f = []) ↔ l.all f = true
  | [] => by simp
  | x :: r => by
    rw [List.dropWhile_cons, List.all_cons]
    cases hx : f x
    · simp
    · simp [drop_nil f r]
theorem head_not (f : UInt8 → Bool) : ∀ (l : List UInt8) (x : UInt8) (r : List UInt8), l.dropWhile f = x :: r → f x = false
  | [], _, _, h => by simp at h
  | y :: r, x, r', h => by
    rw [List.dropWhile_cons] at h
    cases hy : f y
    · rw [hy, if_neg (by simp)] at h
      obtain ⟨rfl, _⟩ := List.cons.inj h
      exact hy
    · rw [hy, if_pos rfl] at h
      exact head_not f r x r' h
theorem trim_gone (f : UInt8 → Bool) (l : List UInt8) : ((l.reverse.dropWhile f).reverse.dropWhile f == []) = l.all f := by
  cases h : l.all f
  · have h2 : l.reverse.dropWhile f ≠ [] := fun e2 => by
      rw [drop_nil, List.all_reverse, h] at e2; cases e2
    obtain ⟨x, r, hx⟩ := List.exists_cons_of_ne_nil h2
    have h3 := head_not f _ x r hx
    have h1 : ¬ (l.reverse.dropWhile f).reverse.dropWhile f = [] := fun e => by
      rw [drop_nil, List.all_reverse, hx, List.all_cons, h3] at e
      cases e
    exact beq_eq_false_iff_ne.2 h1
  · have h1 : l.reverse.dropWhile f = [] := by rw [drop_nil, List.all_reverse]; exact h
    rw [h1]; rfl
theorem trimS_nil (l : List UInt8) : (Lib.trimS l [110, 116] == []) = l.all ntB := by
  unfold Lib.trimS Lib.trimLeftS Lib.trimRightS
  rw [show (fun x => ([110, 116] : List UInt8).contains x) = ntB from funext nt_contains]
  exact trim_gone ntB l

theorem nt_ascii : ∀ (j : Nat) b, (⟨#[110, 116]⟩ : ByteArray).data.toList[j]? = some b → b.toNat < 128 := fun j b h => by
  have := List.all_eq_true.1 (show ([110, 116] : List UInt8).all (fun c => decide (c.toNat < 128)) = true by decide) b (List.mem_of_getElem? h)
  simpa using this
theorem trim_any (s : ByteArray) (w : World) (hs : s.size ≤ 9223372036854775807) :
    Calls Tryd.prog 34 #[.string s, .string ⟨#[110, 116]⟩] w fun e w' => e = .returned (.string (bsS (Lib.trimS s.data.toList [110, 116]))) ∧ Below w.heap.size w w' :=
  Any.strings_Trim_laid lays160 (by kernel_rfl) s ⟨#[110, 116]⟩ w hs (by decide) nt_ascii

theorem bs_list (l : List UInt8) : (bsS l).toList = l := by rw [ByteArray.toList_eq]; rfl
theorem bs_size (l : List UInt8) : (bsS l).size = l.length := by simp [bsS, ByteArray.size]
theorem bs_empty (l : List UInt8) : (bsS l).toList.isEmpty = (l == []) := by
  rw [bs_list]; cases l <;> rfl
theorem bs_cut (l : List UInt8) (a b : Nat) : (bsS l).extract a b = bsS ((l.drop a).take (b - a)) := by
  refine ByteArray.ext ?_
  rw [ByteArray.data_extract]
  refine Array.ext' ?_
  simp [bsS, List.extract_eq_take_drop]
theorem bs_app (a b : List UInt8) : bsS a ++ bsS b = bsS (a ++ b) := by
  refine ByteArray.ext ?_
  refine Array.ext' ?_
  simp [bsS]


/-! ### The table of effects -/
/-- How an effect reads. -/
def effR (v : Value) : Option (DataW Unit × List MemPlace) :=
  match v with
  | .agg cs => match cs.toList with
    | [.string a, .string b] => some (.agg [.lit (.string a.data.toList), .lit (.string b.data.toList)], [])
    | _ => none
  | _ => none
def effD (e : List UInt8 × List UInt8) : DataW Unit := .agg [.lit (.string e.1), .lit (.string e.2)]
def effK : List Nat := [0, 1, 2, 6, 7, 8, 10, 11, 12, 13, 14, 15, 16, 17, 18, 19, 20, 21]
def effAll : DataW Unit := effK.foldl (fun (D : DataW Unit) (k : Nat) => D.put (.int .i64 (k : Nat)) (effD ((fixT k).getD ([], [])))) (.map [])
theorem effR_mk (a b : ByteArray) : effR (.agg #[.string a, .string b]) = some (.agg [.lit (.string a.data.toList), .lit (.string b.data.toList)], []) := rfl

/-- 'map[K]V{.., k: v, ..}' at the operation. -/
theorem wpList_insert_own {H : Type} {P : Program} (w : World) {ops : Array Oper} {rest : List Oper} {o : Oper} {a : Act} {Q : Exit → Act → World → Prop}
    (hg : o.guard = none) (m x v : Operand) (t : TypeId) (hop : o.op = Op.insert t m x v)
    (k e : TypeId) (K : Go.Maps.Keyed P k) (ht : P.underlying t = some (.map k e)) (R : Value → Option (DataW H × List MemPlace)) (b n : Nat) (D : DataW H)
    (hm : a.eval m = .map (some b)) (hown : w.ownsMap P k R b n D) (hn : n < maxLen) (key val : Value) (kl : Lit) (hx : a.eval x = key) (hv : a.eval v = val) (hkey : keyOf P k key = some kl)
    (d : DataW H) (ps : List MemPlace) (hval : R val = some (d, ps))
    (hK : ∀ w', w'.ownsMap P k R b (n + 1) (D.put kl d) → w.grownBy w' (some b) → wpList P ops Q rest (a.put o.dst undef) w') :
    wpList P ops Q (o :: rest) a w := by
  refine wpList_plain hg fun K' hK' => ?_
  obtain ⟨w', hrun, r1, r2⟩ := hown.update K ht hn hkey hval
  unfold Oper.wp
  simp [execOp, hop, hm, hx, hv, hrun, Result.andThen]
  exact hK' _ _ (hK w' r1 r2)

/-- The table so far: block b, made by the call. -/
structure EffW (w w1 : World) (n : Nat) (D : DataW Unit) : Prop where
  own : w1.ownsMap Tryd.prog 3 effR w.heap.size n D
  bel : Below w.heap.size w w1


end Go.Proofs.YtigdfkpkogompaaDoor
