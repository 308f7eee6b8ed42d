/-
  Assembling as plain data: a text's program; a program's text.
-/
import Derived.Test.YtigdfkpkogompaaDoorCoV
import Derived.Test.YtigdfkpkogompaaDoorSpl
import Derived.Lib.IndexMore
import Derived.Lib.IndexAny
import Derived.Lib.ItoaNum
import Derived.Lib.Split
import Derived.Lib.SlTrimSet
namespace Go.Proofs.YtigdfkpkogompaaDoor

def bl2 : List UInt8 := [32, 9]
/-- A label. -/
def labF (s : List UInt8) : Bool := !s.isEmpty && s.all fun c => decide (97 ≤ c.toNat) && decide (c.toNat ≤ 122)
def digB (c : UInt8) : Bool := decide (48 ≤ c.toNat) && decide (c.toNat ≤ 57)
def decF (s : List UInt8) : Nat := s.foldl (fun a c => 10 * a + (c.toNat - 48)) 0
def numOk (s : List UInt8) : Bool := decide (1 ≤ s.length) && decide (s.length ≤ 4) && !(s.getD 0 0 == 48 && decide (1 < s.length)) && s.all digB
def numF (s : List UInt8) : Nat × Bool := if numOk s = true then (decF s, true) else (0, false)

/-- What was assembled so far: instructions, labels with their places, and what is asked for: a place, a line, a label. -/
structure Ps where
  l : List Ci
  lab : List (List UInt8 × Nat)
  ask : List (Nat × Nat × List UInt8)
def markF (p : Ps) (s : List UInt8) : Option Ps :=
  if p.lab.lookup s = none ∧ labF s = true then some ⟨p.l, (s, p.l.length) :: p.lab, p.ask⟩ else none
def quotF (s : List UInt8) : Bool := [34].isPrefixOf s && [34].isSuffixOf (s.drop 1) && txS (s.drop 1).dropLast
/-- An instruction of a word and of what is behind it; does it ask for a label? -/
def oneI (word rest : List UInt8) : Option (Ci × Bool) :=
  match wordsL.findIdx? (· == word) with
  | none => none
  | some op =>
    if op = 1 ∨ op = 21 then (if (numF rest).2 = true ∧ (op = 1 ∨ rightI ⟨21, ((numF rest).1 : Nat), []⟩ 0 = true) then some (⟨(op : Nat), ((numF rest).1 : Nat), []⟩, false) else none)
    else if op = 2 then (if quotF rest = true then some (⟨2, 0, (rest.drop 1).dropLast⟩, false) else none)
    else if op = 11 ∨ op = 12 then (if labF rest = true then some (⟨(op : Nat), 0, []⟩, true) else none)
    else if rest = [] then some (⟨(op : Nat), 0, []⟩, false) else none
def oneF (p : Ps) (word rest : List UInt8) (no : Nat) : Option Ps :=
  match oneI word rest with
  | none => none
  | some (x, a) => some ⟨p.l ++ [x], p.lab, if a = true then p.ask ++ [(p.l.length, no, rest)] else p.ask⟩
/-- A line's text, without what is said of it, and without blanks. -/
def bareF (s : List UInt8) : List UInt8 := Lib.trimS (Lib.cut s [35]).1 bl2
def wordAt (s : List UInt8) : Nat := (Lib.indexAny (s ++ [32]) bl2).toNat
def restF (s : List UInt8) : List UInt8 := Lib.trimLeftS (s.drop (wordAt s)) bl2
def lineF (p : Ps) (s : List UInt8) (no : Nat) : Ps × Int :=
  if bareF s = [] then (p, 0)
  else if [58].isSuffixOf (bareF s) = true then
    (match markF p (bareF s).dropLast with
    | none => (p, 3)
    | some q => (q, 0))
  else
    match oneF p ((bareF s).take (wordAt (bareF s))) (restF (bareF s)) no with
    | none => (p, 3)
    | some q => if p.l.length = 200 then (p, 6) else (q, 0)
def linesF : Ps → List (List UInt8) → Nat → Ps × Nat × Int
  | p, [], _ => (p, 0, 0)
  | p, s :: r, no => if (lineF p s no).2 = 0 then linesF (lineF p s no).1 r (no + 1) else (p, no, (lineF p s no).2)
/-- What is asked for is filled in. -/
def resF (lab : List (List UInt8 × Nat)) : List (Nat × Nat × List UInt8) → List Ci → List Ci × Nat × Int
  | [], l => (l, 0, 0)
  | a :: r, l => match lab.lookup a.2.2 with
    | none => ([], a.2.1, 7)
    | some k => resF lab r (l.modify a.1 fun x => ⟨x.op, (k : Nat), x.s⟩)
def ps0 : Ps := ⟨[], [], []⟩
def asmF (s : List UInt8) : List Ci × Nat × Int :=
  if 8192 < s.length then ([], 0, 2)
  else if (linesF ps0 (Lib.split s [10]) 1).2.2 = 0 then resF (linesF ps0 (Lib.split s [10]) 1).1.lab (linesF ps0 (Lib.split s [10]) 1).1.ask (linesF ps0 (Lib.split s [10]) 1).1.l
  else ([], (linesF ps0 (Lib.split s [10]) 1).2.1, (linesF ps0 (Lib.split s [10]) 1).2.2)

/-! ### A program's text -/
def namF (n : Nat) : List UInt8 := 108 :: (Lib.itoa n).map (· + 49)
def insF (x : Ci) : List UInt8 :=
  wordF x.op ++ (if x.op = 1 ∨ x.op = 21 then 32 :: Lib.itoa x.n else if x.op = 2 then 32 :: 34 :: (x.s ++ [34]) else if x.op = 11 ∨ x.op = 12 then 32 :: namF x.n.toNat else [])
def jumpI (x : Ci) : Bool := x.op == 11 || x.op == 12
def isPl (l : List Ci) (i : Nat) : Bool := l.any fun x => jumpI x && x.n == (i : Int)
def prAt (l : List Ci) (i : Nat) : List (List UInt8) :=
  (if isPl l i = true then [namF i ++ [58]] else []) ++ (match l[i]? with | some x => [insF x] | none => [])
def prN (l : List Ci) (i : Nat) : List (List UInt8) := (List.range i).flatMap (prAt l)
def endL (L : List (List UInt8)) : List UInt8 := L.flatMap (· ++ [10])
def prF (l : List Ci) : List UInt8 := endL (prN l (l.length + 1))

/-! ### What a state keeps -/
def jumpZ (x : Ci) : Ci := if jumpI x = true then ⟨x.op, 0, x.s⟩ else x
structure InvP (p : Ps) : Prop where
  len : p.l.length ≤ 200
  ok : ∀ x ∈ p.l, ∀ c : Int, 0 ≤ c → rightI x c = true
  ask : ∀ a ∈ p.ask, ∃ x, p.l[a.1]? = some x ∧ jumpI x = true
  jmp : ∀ (i : Nat) x, p.l[i]? = some x → jumpI x = true → ∃ a ∈ p.ask, a.1 = i
  lab : ∀ a ∈ p.lab, a.2 ≤ p.l.length
theorem inv0 : InvP ps0 := ⟨by simp [ps0], by simp [ps0], by simp [ps0], by simp [ps0], by simp [ps0]⟩
theorem find_lt {s : List UInt8} {op : Nat} (h : wordsL.findIdx? (· == s) = some op) : op ≤ 21 := by
  have := List.findIdx?_eq_some_iff_getElem.1 h
  obtain ⟨h1, _⟩ := this
  have e : wordsL.length = 22 := by decide
  omega
theorem one_right {word rest : List UInt8} {x : Ci} {a : Bool} (h : oneI word rest = some (x, a)) : (∀ c : Int, 0 ≤ c → rightI x c = true) ∧ jumpI x = a := by
  unfold oneI at h
  split at h
  · cases h
  · rename_i op ho
    have hop := find_lt ho
    by_cases h1 : op = 1 ∨ op = 21
    · rw [if_pos h1] at h
      split at h
      · rename_i hc
        injection h with h; injection h with hx ha
        subst hx; subst ha
        refine ⟨fun c _ => ?_, by unfold jumpI; rcases h1 with rfl | rfl <;> rfl⟩
        rcases h1 with rfl | rfl
        · have hn : (numF rest).1 ≤ 9999 := by
            unfold numF
            split
            · rename_i hk
              unfold numOk at hk
              simp only [Bool.and_eq_true, decide_eq_true_eq] at hk
              obtain ⟨⟨⟨k1, k2⟩, _⟩, k3⟩ := hk
              show decF rest ≤ 9999
              rw [List.all_eq_true] at k3
              have dg : ∀ c ∈ rest, c.toNat - 48 ≤ 9 := fun c hc => by
                have := k3 c hc; unfold digB at this; simp at this; omega
              match rest, k1, k2, dg with
              | [a], _, _, dg => have := dg a (by simp); simp [decF]; omega
              | [a, b], _, _, dg => have := dg a (by simp); have := dg b (by simp); simp [decF]; omega
              | [a, b, c], _, _, dg => have := dg a (by simp); have := dg b (by simp); have := dg c (by simp); simp [decF]; omega
              | [a, b, c, d], _, _, dg => have := dg a (by simp); have := dg b (by simp); have := dg c (by simp); have := dg d (by simp); simp [decF]; omega
            · exact Nat.zero_le _
          unfold rightI
          simp
          omega
        · rcases hc.2 with h2 | h2
          · exact absurd h2 (by decide)
          · unfold rightI at h2 ⊢
            simpa using h2
      · cases h
    · rw [if_neg h1] at h
      by_cases h2 : op = 2
      · subst h2
        rw [if_pos rfl] at h
        split at h
        · rename_i hc
          injection h with h; injection h with hx ha
          subst hx; subst ha
          refine ⟨fun c _ => ?_, rfl⟩
          unfold quotF at hc
          simp only [Bool.and_eq_true] at hc
          unfold rightI
          have hc2 := hc.2
          rw [List.drop_one] at hc2
          simp [hc2]
        · cases h
      · rw [if_neg h2] at h
        by_cases h3 : op = 11 ∨ op = 12
        · rw [if_pos h3] at h
          split at h
          · injection h with h; injection h with hx ha
            subst hx; subst ha
            refine ⟨fun c hc => ?_, by unfold jumpI; rcases h3 with rfl | rfl <;> rfl⟩
            unfold rightI
            rcases h3 with rfl | rfl <;> simp [hc]
          · cases h
        · rw [if_neg h3] at h
          split at h
          · injection h with h; injection h with hx ha
            subst hx; subst ha
            have q1 : ¬ ((op : Int) = 2) := by omega
            have q2 : ¬ ((op : Int) = 1) := by omega
            have q3 : ¬ ((op : Int) = 21) := by omega
            have q4 : ¬ ((op : Int) = 11 ∨ (op : Int) = 12) := by omega
            refine ⟨fun c hc => ?_, ?_⟩
            · unfold rightI
              rw [if_neg q1, if_neg q2, if_neg q3, if_neg q4]
              simp
              omega
            · unfold jumpI
              simp
              omega
          · cases h
theorem mark_inv {p q : Ps} {s : List UInt8} (h : InvP p) (hm : markF p s = some q) : InvP q ∧ q.l = p.l := by
  unfold markF at hm
  split at hm
  · injection hm with hm
    subst hm
    exact ⟨⟨h.len, h.ok, h.ask, h.jmp, fun a ha => by rcases List.mem_cons.1 ha with rfl | ha; exact Nat.le_refl _; exact h.lab a ha⟩, rfl⟩
  · cases hm
theorem one_inv {p q : Ps} {word rest : List UInt8} {no : Nat} (h : InvP p) (ho : oneF p word rest no = some q) (hl : p.l.length ≠ 200) : InvP q := by
  unfold oneF at ho
  split at ho
  · cases ho
  · rename_i x a hx
    injection ho with ho
    subst ho
    obtain ⟨h1, h2⟩ := one_right hx
    have hlen := h.len
    refine ⟨by simp; omega, fun y hy c hc => ?_, fun y hy => ?_, fun i y hi hj => ?_, fun y hy => by have := h.lab y hy; simp; omega⟩
    · rcases List.mem_append.1 hy with hy | hy
      · exact h.ok y hy c hc
      · obtain rfl := List.mem_singleton.1 hy
        exact h1 c hc
    · simp only at hy ⊢
      split at hy
      · rcases List.mem_append.1 hy with hy | hy
        · obtain ⟨z, hz, hzj⟩ := h.ask y hy
          refine ⟨z, ?_, hzj⟩
          rw [List.getElem?_append_left (List.getElem?_eq_some_iff.1 hz).1]
          exact hz
        · obtain rfl := List.mem_singleton.1 hy
          exact ⟨x, by simp, by rw [h2]; assumption⟩
      · obtain ⟨z, hz, hzj⟩ := h.ask y hy
        refine ⟨z, ?_, hzj⟩
        rw [List.getElem?_append_left (List.getElem?_eq_some_iff.1 hz).1]
        exact hz
    · simp only at hi ⊢
      rcases Nat.lt_trichotomy i p.l.length with hlt | heq | hgt
      · rw [List.getElem?_append_left hlt] at hi
        obtain ⟨b, hb, hbe⟩ := h.jmp i y hi hj
        refine ⟨b, ?_, hbe⟩
        split
        · exact List.mem_append_left _ hb
        · exact hb
      · subst heq
        have e : x = y := by simpa using hi
        subst e
        rw [hj] at h2
        rw [← h2]
        exact ⟨_, by rw [if_pos rfl]; exact List.mem_append_right _ (List.mem_singleton.2 rfl), rfl⟩
      · rw [List.getElem?_eq_none (by simp; omega)] at hi
        cases hi
theorem line_inv {p : Ps} {s : List UInt8} {no : Nat} (h : InvP p) : InvP (lineF p s no).1 := by
  unfold lineF
  split
  · exact h
  · split
    · split
      · exact h
      · rename_i q hq
        exact (mark_inv h hq).1
    · split
      · exact h
      · rename_i q hq
        split
        · exact h
        · rename_i hl
          exact one_inv h hq hl
theorem lines_inv : ∀ (L : List (List UInt8)) (p : Ps) (no : Nat), InvP p → InvP (linesF p L no).1
  | [], p, _, h => h
  | s :: r, p, no, h => by
    rw [linesF]
    split
    · exact lines_inv r _ _ (line_inv h)
    · exact h

/-! ### What is assembled is right -/
theorem modify_get (l : List Ci) (i j : Nat) (f : Ci → Ci) : (l.modify i f)[j]? = if i = j then l[j]?.map f else l[j]? := by
  rw [List.getElem?_modify]
  by_cases h : i = j
  · simp [h]
  · simp [h]
theorem look_mem {s : List UInt8} {k : Nat} : ∀ {lab : List (List UInt8 × Nat)}, lab.lookup s = some k → (s, k) ∈ lab
  | [], h => by cases h
  | (b, c) :: t, h => by
    rw [List.lookup_cons] at h
    split at h
    · rename_i hb
      injection h with h
      subst h
      rw [eq_of_beq hb]
      exact List.mem_cons_self
    · exact List.mem_cons_of_mem _ (look_mem h)
theorem res_right (lab : List (List UInt8 × Nat)) : ∀ (A : List (Nat × Nat × List UInt8)) (l : List Ci) (x : List Ci) (no : Nat), (∀ a ∈ lab, a.2 ≤ l.length) → (∀ a ∈ A, ∃ x, l[a.1]? = some x ∧ jumpI x = true) → (∀ x ∈ l, rightI x l.length = true) → resF lab A l = (x, no, 0) → x.length = l.length ∧ no = 0 ∧ ∀ y ∈ x, rightI y l.length = true
  | [], l, x, no, _, _, h, e => by
    rw [resF] at e
    injection e with e1 e2; injection e2 with e2 e3
    subst e1; subst e2
    exact ⟨rfl, rfl, h⟩
  | a :: r, l, x, no, hl, ha, h, e => by
    rw [resF] at e
    split at e
    · injection e with _ e2; injection e2 with _ e3; cases e3
    · rename_i k hk
      have hkl : k ≤ l.length := by
        exact hl _ (look_mem hk)
      have hlen : (l.modify a.1 fun x => (⟨x.op, (k : Nat), x.s⟩ : Ci)).length = l.length := List.length_modify ..
      have := res_right lab r _ x no (by rw [hlen]; exact hl) (fun b hb => ?_) (fun y hy => ?_) e
      · rw [hlen] at this; exact this
      · obtain ⟨z, hz, hzj⟩ := ha b (List.mem_cons_of_mem _ hb)
        rw [modify_get]
        by_cases hab : a.1 = b.1
        · rw [if_pos hab, hz]; exact ⟨_, rfl, hzj⟩
        · rw [if_neg hab]; exact ⟨z, hz, hzj⟩
      · rw [hlen]
        obtain ⟨j, hj⟩ := List.mem_iff_getElem?.1 hy
        rw [modify_get] at hj
        obtain ⟨z, hz, hzj⟩ := ha a List.mem_cons_self
        split at hj
        · rename_i haj
          rw [← haj, hz] at hj
          injection hj with hj
          subst hj
          have h0 := h z (List.mem_of_getElem? hz)
          unfold jumpI at hzj
          unfold rightI at h0 ⊢
          simp only [Bool.or_eq_true, beq_iff_eq] at hzj
          rcases hzj with hzj | hzj
          · simp [hzj] at h0 ⊢
            exact ⟨h0.1.1, hkl⟩
          · simp [hzj] at h0 ⊢
            exact ⟨h0.1.1, hkl⟩
        · exact h y (List.mem_of_getElem? hj)
theorem asm_right {s : List UInt8} {x : List Ci} {no : Nat} (h : asmF s = (x, no, 0)) : x.length ≤ 200 ∧ no = 0 ∧ ∀ y ∈ x, rightI y x.length = true := by
  unfold asmF at h
  split at h
  · injection h with _ h; injection h with _ h; cases h
  · have hi := lines_inv (Lib.split s [10]) ps0 1 inv0
    split at h
    · have := res_right _ _ _ _ _ hi.lab hi.ask (fun y hy => hi.ok y hy _ (Int.natCast_nonneg _)) h
      obtain ⟨h1, h2, h3⟩ := this
      refine ⟨by rw [h1]; exact hi.len, h2, fun y hy => ?_⟩
      rw [h1]; exact h3 y hy
    · rename_i hne
      injection h with _ h; injection h with _ h
      exact absurd h hne
end Go.Proofs.YtigdfkpkogompaaDoor
