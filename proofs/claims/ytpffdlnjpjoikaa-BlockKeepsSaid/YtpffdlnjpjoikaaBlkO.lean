/-
  What is read of a sector, in plain words.
-/
import Derived.Test.YtpffdlnjpjoikaaBlkK
namespace Go.Proofs.Ytpffdlnjpjoikaa

def secF (B : List Int) (no : Nat) : List Int := (B.drop (no * 64)).take 64
def rdF (B : List Int) (l : List Wt) (no : Nat) : List Int := match lastW l no with
  | some x => x.b
  | none => secF B no
theorem readF_rd (s : DSt) (no : Nat) : readF s no = rdF s.laid s.line no := rfl
theorem rd_nil (B : List Int) (no : Nat) : rdF B [] no = secF B no := rfl
theorem lastW_snoc (l : List Wt) (x : Wt) (no : Nat) : lastW (l ++ [x]) no = if x.no = no then some x else lastW l no := by
  unfold lastW
  rw [List.reverse_append, List.reverse_singleton, List.singleton_append, List.find?_cons]
  by_cases h : x.no = no
  · simp [h]
  · have : (x.no == no) = false := by simp [h]
    rw [this, if_neg h]
theorem rd_yes {B : List Int} {l : List Wt} {x : Wt} {no : Nat} (h : x.no = no) : rdF B (l ++ [x]) no = x.b := by unfold rdF; rw [lastW_snoc, if_pos h]
theorem rd_no {B : List Int} {l : List Wt} {x : Wt} {no : Nat} (h : x.no ≠ no) : rdF B (l ++ [x]) no = rdF B l no := by unfold rdF; rw [lastW_snoc, if_neg h]
theorem sec_yes {B b : List Int} {no n : Nat} (hB : B.length = n * 64) (hb : b.length = 64) (h : no < n) : secF (splice B no b) no = b := by
  unfold secF splice
  have hl : (B.take (no * 64)).length = no * 64 := by rw [List.length_take]; omega
  rw [List.append_assoc, List.drop_append_of_le_length (by rw [hl]; exact Nat.le_refl _), List.drop_of_length_le (by rw [hl]; exact Nat.le_refl _), List.nil_append, List.take_append_of_le_length (by omega), List.take_of_length_le (by omega)]
theorem sec_no {B b : List Int} {no no' n : Nat} (hB : B.length = n * 64) (hb : b.length = 64) (h' : no' < n) (hne : no' ≠ no) : secF (splice B no' b) no = secF B no := by
  unfold secF splice
  have hl : (B.take (no' * 64)).length = no' * 64 := by rw [List.length_take]; omega
  apply List.ext_getElem?
  intro j
  rw [List.getElem?_take, List.getElem?_take]
  split
  · rename_i hj
    rw [List.getElem?_drop, List.getElem?_drop]
    rcases Nat.lt_or_ge no no' with hlt | hge
    · rw [List.getElem?_append_left (by rw [List.length_append, hl, hb]; omega), List.getElem?_append_left (by rw [hl]; omega), List.getElem?_take, if_pos (by omega)]
    · rw [List.getElem?_append_right (by rw [List.length_append, hl, hb]; omega), List.length_append, hl, hb, List.getElem?_drop]
      congr 1; omega
  · rfl

/-- What is laid of a sector behind the first i writes. -/
theorem sec_lay {p : Nat → Bool} {B : List Int} {l : List Wt} {n no : Nat} (hB : B.length = n * 64) (hok : ∀ x ∈ l, x.no < n) : ∀ i, i ≤ l.length → (∀ j, j < i → p j = true) → secF (layF p B l i) no = rdF B (l.take i) no
  | 0, _, _ => by simp [layF, rd_nil]
  | i + 1, hi, hp => by
    have hx : l[i]? = some l[i] := List.getElem?_eq_getElem (by omega)
    have ih := sec_lay (no := no) hB hok i (by omega) (fun j hj => hp j (by omega))
    have hl := layF_len (p := p) hB hok i
    have hxn := hok l[i] (List.getElem_mem _)
    rw [layF_yes hx (hp i (by omega)), List.take_succ_eq_append_getElem (by omega)]
    by_cases h : l[i].no = no
    · rw [rd_yes h, ← h, sec_yes hl l[i].h (by omega)]
    · rw [rd_no h, sec_no hl l[i].h hxn h, ih]
/-- .. behind writes that some function picks: it is as it was, or as one of them has it. -/
theorem sec_any {p : Nat → Bool} {B : List Int} {l : List Wt} {n no : Nat} (hB : B.length = n * 64) (hok : ∀ x ∈ l, x.no < n) : ∀ i, secF (layF p B l i) no = secF B no ∨ ∃ x ∈ l, x.no = no ∧ secF (layF p B l i) no = x.b
  | 0 => .inl rfl
  | i + 1 => by
    have ih := sec_any (p := p) (no := no) hB hok i
    cases hx : l[i]? with
    | none =>
      have e : layF p B l (i + 1) = layF p B l i := by simp [layF, hx]
      rw [e]; exact ih
    | some x =>
      cases hp : p i
      · rw [layF_no hp]; exact ih
      · have hl := layF_len (p := p) hB hok i
        have hm := List.mem_of_getElem? hx
        rw [layF_yes hx hp]
        by_cases h : x.no = no
        · exact .inr ⟨x, hm, h, by rw [← h, sec_yes hl x.h (hok x hm)]⟩
        · rw [sec_no hl x.h (hok x hm) h]; exact ih
theorem cntF_all {p : Nat → Bool} : ∀ n, (∀ j, j < n → p j = true) → cntF p n = n
  | 0, _ => rfl
  | n + 1, h => by unfold cntF; rw [cntF_all n (fun j hj => h j (by omega)), if_pos (h n (by omega))]
def upK (k : Nat) : List Int := (List.range k).map fun (j : Nat) => (j : Int)
theorem upK_has {k i : Nat} (h : i < k) : hasI (upK k) i = true := by unfold hasI upK; simp; exact ⟨i, h, rfl⟩
theorem upK_succ (k : Nat) : upK (k + 1) = upK k ++ [(k : Int)] := by simp [upK, List.range_succ]
theorem upK_len (k : Nat) : (upK k).length = k := by simp [upK]

end Go.Proofs.Ytpffdlnjpjoikaa
