/-
  Programs as plain data: words, what is right, the state behind an instruction, the places' states.
-/
import Derived.Lib.SlTrimSet
import Derived.Lib.Fields
namespace Go.Proofs.YtigdfkpkogompaaDoor

/-- An instruction: its word, number, text. -/
structure Ci where
  op : Int
  n : Int
  s : List UInt8
deriving DecidableEq, Inhabited

def wordsS : List UInt8 := [104, 97, 108, 116, 32, 112, 117, 115, 104, 32, 116, 101, 120, 116, 32, 100, 114, 111, 112, 32, 99, 111, 112, 121, 32, 115, 119, 97, 112, 32, 97, 100, 100, 32, 115, 117, 98, 32, 108, 101, 115, 115, 32, 115, 97, 109, 101, 32, 110, 111, 116, 32, 106, 117, 109, 112, 32, 110, 111, 110, 101, 32, 106, 111, 105, 110, 32, 115, 105, 122, 101, 32, 114, 101, 97, 100, 32, 119, 114, 105, 116, 101, 32, 100, 105, 114, 32, 114, 101, 109, 111, 118, 101, 32, 103, 101, 116, 32, 112, 117, 116, 32, 102, 97, 105, 108]
def wordsL : List (List UInt8) := [[104, 97, 108, 116], [112, 117, 115, 104], [116, 101, 120, 116], [100, 114, 111, 112], [99, 111, 112, 121], [115, 119, 97, 112], [97, 100, 100], [115, 117, 98], [108, 101, 115, 115], [115, 97, 109, 101], [110, 111, 116], [106, 117, 109, 112], [110, 111, 110, 101], [106, 111, 105, 110], [115, 105, 122, 101], [114, 101, 97, 100], [119, 114, 105, 116, 101], [100, 105, 114], [114, 101, 109, 111, 118, 101], [103, 101, 116], [112, 117, 116], [102, 97, 105, 108]]
theorem fields_words : Lib.fields wordsS = wordsL := by decide +kernel
/-- A word; the empty one. -/
def wordF (op : Int) : List UInt8 := if 0 ≤ op ∧ op ≤ 21 then wordsL.getD op.toNat [] else []
theorem wordF_ne (op : Int) : (wordF op == []) = !(decide (0 ≤ op) && decide (op ≤ 21)) := by
  unfold wordF
  by_cases h : 0 ≤ op ∧ op ≤ 21
  · rw [if_pos h]
    obtain ⟨k, rfl⟩ : ∃ k : Nat, op = k := ⟨op.toNat, by omega⟩
    have hk : k ≤ 21 := by omega
    have : ∀ k, k ≤ 21 → (wordsL.getD k [] == []) = false := by decide
    rw [Int.toNat_natCast, this k hk]
    have h1 : ((k : Int) ≤ 21) := h.2
    simp [h1]
  · rw [if_neg h]
    by_cases h0 : 0 ≤ op
    · simp [h0, show ¬ op ≤ 21 from fun e => h ⟨h0, e⟩]
    · simp [h0]

/-! ### Behind an instruction -/
def ntB (c : UInt8) : Bool := c == 110 || c == 116
def rightS (s : List UInt8) : Bool := decide (s.length ≤ 16) && s.all ntB
/-- What an instruction of a fixed kind takes and leaves. -/
def fixT : Nat → Option (List UInt8 × List UInt8)
  | 0 => some ([], [])
  | 1 => some ([], [110])
  | 2 => some ([], [116])
  | 6 => some ([110, 110], [110])
  | 7 => some ([110, 110], [110])
  | 8 => some ([110, 110], [110])
  | 10 => some ([110], [110])
  | 11 => some ([], [])
  | 12 => some ([110], [])
  | 13 => some ([116, 116], [116])
  | 14 => some ([116], [110])
  | 15 => some ([116], [116, 110])
  | 16 => some ([116, 116], [110])
  | 17 => some ([116], [110])
  | 18 => some ([116], [110])
  | 19 => some ([116], [116, 110])
  | 20 => some ([116, 116], [110])
  | 21 => some ([], [])
  | _ => none
/-- The last n letters. -/
def lastN (s : List UInt8) (n : Nat) : List UInt8 := s.drop (s.length - n)
/-- What the others take and leave. -/
def turnF (s : List UInt8) (op : Nat) : Option (List UInt8 × List UInt8) :=
  if op = 3 then (if 1 ≤ s.length then some (lastN s 1, []) else none)
  else if op = 4 then (if 1 ≤ s.length then some (lastN s 1, lastN s 1 ++ lastN s 1) else none)
  else if op = 5 then (if 2 ≤ s.length then some (lastN s 2, (lastN s 2).reverse) else none)
  else if 2 ≤ s.length ∧ (lastN s 2).getD 0 0 = (lastN s 2).getD 1 0 then some (lastN s 2, [110]) else none
def effF (s : List UInt8) (op : Nat) : Option (List UInt8 × List UInt8) :=
  match fixT op with
  | some e => some e
  | none => turnF s op
/-- The state behind an instruction, and the error's number. -/
def behF (s : List UInt8) (op : Int) : List UInt8 × Int :=
  if rightS s = false ∨ ¬ (0 ≤ op ∧ op ≤ 21) then ([], 1)
  else match effF s op.toNat with
    | none => ([], 16)
    | some (t, l) =>
      if t.isSuffixOf s then
        (if s.length - t.length + l.length ≤ 16 then (s.take (s.length - t.length) ++ l, 0) else ([], 6))
      else ([], 16)

/-! ### What is right -/
def txB (c : UInt8) : Bool := decide (33 ≤ c.toNat) && decide (c.toNat ≤ 126) && !(c == 34) && !(c == 35)
def txS (s : List UInt8) : Bool := decide (s.length ≤ 60) && s.all txB
def rightI (x : Ci) (count : Int) : Bool :=
  if x.op = 2 then decide (x.n = 0) && txS x.s
  else if x.op = 1 then x.s.isEmpty && decide (0 ≤ x.n) && decide (x.n ≤ 9999)
  else if x.op = 21 then x.s.isEmpty && decide (1 ≤ x.n) && decide (x.n ≤ 99)
  else if x.op = 11 ∨ x.op = 12 then x.s.isEmpty && decide (0 ≤ x.n) && decide (x.n ≤ count)
  else decide (0 ≤ x.op) && decide (x.op ≤ 21) && x.s.isEmpty && decide (x.n = 0)
/-- Where a program is wrong, and why. -/
def chkF (l : List Ci) : Int × Int :=
  if 200 < l.length then (200, 2)
  else match l.findIdx? fun x => !rightI x l.length with
    | some i => ((i : Nat), 3)
    | none => ((l.length : Nat), 0)

/-! ### The places' states -/
/-- The states; the places that are still to be looked at. -/
abbrev Vs := List (List UInt8) × List Bool
/-- A place is reached with a state. -/
def reachV (v : Vs) (at_ : Nat) (s : List UInt8) : Vs :=
  if v.1.getD at_ [] = [45] then (v.1.set at_ s, v.2.set at_ true) else v
def lookV (l : List Ci) (v : Vs) (at_ : Nat) : Vs × Option (Nat × Int) :=
  let x := l.getD at_ default
  let (s, e) := behF (v.1.getD at_ []) x.op
  if e ≠ 0 then (v, some (at_, e))
  else
    let v1 := if x.op ≠ 0 ∧ x.op ≠ 11 ∧ x.op ≠ 21 then reachV v (at_ + 1) s else v
    if (x.op ≠ 0 ∧ x.op ≠ 11 ∧ x.op ≠ 21) ∧ v1.1.getD (at_ + 1) [] ≠ s then (v1, some (at_ + 1, 17))
    else
      let v2 := if x.op = 11 ∨ x.op = 12 then reachV v1 x.n.toNat s else v1
      if (x.op = 11 ∨ x.op = 12) ∧ v2.1.getD x.n.toNat [] ≠ s then (v2, some (x.n.toNat, 17))
      else (v2, none)
/-- All places, the lowest first: the states, or where something is wrong, and what. -/
def verV (l : List Ci) : Nat → Vs → List (List UInt8) × Nat × Int
  | 0, v => (v.1, l.length, 0)
  | f + 1, v =>
    match v.2.findIdx? id with
    | none => (v.1, l.length, 0)
    | some at_ =>
      let v1 : Vs := (v.1, v.2.set at_ false)
      if at_ = l.length then verV l f v1
      else match lookV l v1 at_ with
        | (_, some (k, e)) => ([], k, e)
        | (v2, none) => verV l f v2
/-- How much is left to do. -/
def leftV (v : Vs) : Nat := 2 * v.1.countP (· == [45]) + v.2.countP id

end Go.Proofs.YtigdfkpkogompaaDoor
