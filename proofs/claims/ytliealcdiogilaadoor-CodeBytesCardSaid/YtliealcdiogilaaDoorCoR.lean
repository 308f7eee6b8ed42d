/-
  The contract of the reference's Verify: the plain side, what it holds in memory.
-/
import Derived.Test.YtliealcdiogilaaDoorCoQ
import Derived.Deep.DeepCutAuto
namespace Go.Proofs.YtliealcdiogilaaDoor
open Go.RowKit

/-- Where the program goes on from an instruction. -/
def nextA (op : Int) (k : Nat) : List Nat := if op ≠ 0 ∧ op ≠ 11 ∧ op ≠ 21 then [k + 1] else []
def nextB (op : Int) (m : Nat) : List Nat := if op = 11 ∨ op = 12 then [m] else []
def seqV (s : List UInt8) : Vs → List Nat → Vs × Option (Nat × Int)
  | v, [] => (v, none)
  | v, k :: r => if (reachV v k s).1.getD k [] = s then seqV s (reachV v k s) r else (reachV v k s, some (k, 17))
theorem look_seq {l : List Ci} {v : Vs} {k : Nat} {op m : Int} {q s : List UInt8} (hx : l[k]? = some ⟨op, m, q⟩) (hb : behF (v.1.getD k []) op = (s, 0)) : lookV l v k = seqV s v (nextA op k ++ nextB op m.toNat) := by
  by_cases h1 : op = 0 ∨ op = 21
  · rw [look_stop hx hb h1]
    have e : nextA op k ++ nextB op m.toNat = [] := by rcases h1 with rfl | rfl <;> rfl
    rw [e, seqV]
  · by_cases h11 : op = 11
    · subst h11
      rw [look_jump hx hb]
      show _ = seqV s v [m.toNat]
      rw [seqV, seqV]
      by_cases hg : (reachV v m.toNat s).1.getD m.toNat [] = s
      · rw [if_pos hg, if_pos hg]
      · rw [if_neg hg, if_neg hg]
    · by_cases h12 : op = 12
      · subst h12
        rw [look_none hx hb]
        show _ = seqV s v [k + 1, m.toNat]
        rw [seqV, seqV, seqV]
        by_cases hg : (reachV v (k + 1) s).1.getD (k + 1) [] = s
        · rw [if_pos hg, if_pos hg]
          by_cases hg2 : (reachV (reachV v (k + 1) s) m.toNat s).1.getD m.toNat [] = s
          · rw [if_pos hg2, if_pos hg2]
          · rw [if_neg hg2, if_neg hg2]
        · rw [if_neg hg, if_neg hg]
      · rw [look_next hx hb (fun e => h1 (.inl e)) h11 h12 (fun e => h1 (.inr e))]
        have e : nextA op k ++ nextB op m.toNat = [k + 1] := by
          unfold nextA nextB
          rw [if_pos ⟨fun e => h1 (.inl e), h11, fun e => h1 (.inr e)⟩, if_neg (fun c => c.elim h11 h12)]
          rfl
        rw [e, seqV, seqV]
        by_cases hg : (reachV v (k + 1) s).1.getD (k + 1) [] = s
        · rw [if_pos hg, if_pos hg]
        · rw [if_neg hg, if_neg hg]
def boolsC (l : List Bool) : List Value := l.map Value.bool
theorem boolsC_get {l : List Bool} {k : Nat} (h : k < l.length) : (boolsC l).toArray[k]? = some (.bool (l.getD k false)) := by
  rw [List.getElem?_toArray, List.getD_eq_getElem?_getD]
  simp [boolsC, List.getElem?_eq_getElem h]
theorem boolsC_set (l : List Bool) (k : Nat) (b : Bool) : (boolsC l).toArray.setIfInBounds k (.bool b) = (boolsC (l.set k b)).toArray := by
  apply Array.ext'
  simp [boolsC, List.map_set]
/-- The two rows of the reference's Verify. -/
structure Wr (w : World) (base sb tb n : Nat) (v : Vs) : Prop where
  sts : Blk w sb 9 (strsC v.1).toArray
  tod : Blk w tb 4 (boolsC v.2).toArray
  l1 : v.1.length = n + 1
  l2 : v.2.length = n + 1
  bb : base ≤ sb ∧ base ≤ tb
  slen : ∀ s ∈ v.1, s.length ≤ 16
section
variable {w w' : World} {base sb tb n k : Nat} {v : Vs}
theorem Wr.be (h : Wr w base sb tb n v) (hb : Below w.heap.size w w') : Wr w' base sb tb n v := ⟨h.sts.be hb, h.tod.be hb, h.l1, h.l2, h.bb, h.slen⟩
theorem Wr.ne_ (h : Wr w base sb tb n v) : sb ≠ tb := h.sts.ne_ h.tod (by decide)
theorem Wr.todo (h : Wr w base sb tb n v) (b : Bool) : Wr (w.setCell ⟨tb, k, none⟩ (.bool b)) base sb tb n (v.1, v.2.set k b) :=
  ⟨h.sts.far (p := ⟨tb, k, none⟩) h.ne_ _, by show Blk _ tb 4 (boolsC (v.2.set k b)).toArray; rw [← boolsC_set]; exact h.tod.set_ k _, h.l1, by show (v.2.set k b).length = n + 1; rw [List.length_set]; exact h.l2, h.bb, h.slen⟩
theorem Wr.state (h : Wr w base sb tb n v) {s : List UInt8} (hs : s.length ≤ 16) : Wr (w.setCell ⟨sb, k, none⟩ (.string (bsS s))) base sb tb n (v.1.set k s, v.2) :=
  ⟨by show Blk _ sb 9 (strsC (v.1.set k s)).toArray; rw [← strsC_set]; exact h.sts.set_ k _, h.tod.far (p := ⟨sb, k, none⟩) h.ne_.symm _, by show (v.1.set k s).length = n + 1; rw [List.length_set]; exact h.l1, h.l2, h.bb, fun x hx => by
    rcases List.mem_or_eq_of_mem_set hx with h1 | rfl
    · exact h.slen x h1
    · exact hs⟩
theorem Wr.gets (h : Wr w base sb tb n v) (hk : k ≤ n) : w.cell? ⟨sb, k, none⟩ = some (.string (bsS (v.1.getD k []))) := (h.sts.cell k).trans (strsC_get (by have := h.l1; omega))
theorem Wr.gett (h : Wr w base sb tb n v) (hk : k ≤ n) : w.cell? ⟨tb, k, none⟩ = some (.bool (v.2.getD k false)) := (h.tod.cell k).trans (boolsC_get (by have := h.l2; omega))
end
/-- The states while they are laid: the first empty, the next ones nowhere, the others not yet. -/
def stL (n i : Nat) : List (List UInt8) := (List.range (n + 1)).map fun j => if j = 0 ∨ i ≤ j then [] else [45]
theorem stL_len (n i : Nat) : (stL n i).length = n + 1 := by simp [stL]
theorem stL_one (n : Nat) : stL n 1 = List.replicate (n + 1) [] := by
  refine List.ext_getElem (by simp [stL]) fun j h1 h2 => ?_
  simp only [stL, List.getElem_map, List.getElem_range, List.getElem_replicate]
  rw [if_pos (by omega)]
theorem stL_set (n i : Nat) (h1 : 1 ≤ i) : (stL n i).set i [45] = stL n (i + 1) := by
  refine List.ext_getElem (by simp [stL]) fun j h2 h3 => ?_
  rw [List.getElem_set]
  simp only [stL, List.getElem_map, List.getElem_range]
  by_cases h : i = j
  · subst h
    rw [if_pos rfl, if_neg (by omega)]
  · rw [if_neg h]
    by_cases h4 : j = 0 ∨ i ≤ j
    · rw [if_pos h4, if_pos (by omega)]
    · rw [if_neg h4, if_neg (by omega)]
theorem v0_eq (n : Nat) : v0 n = (stL n (n + 1), (List.replicate (n + 1) false).set 0 true) := by
  unfold v0 reachV
  rw [if_pos (by rw [List.getD_eq_getElem?_getD, List.getElem?_replicate, if_pos (by omega)]; rfl)]
  congr 1
  refine List.ext_getElem (by simp [stL]) fun j h2 h3 => ?_
  rw [List.getElem_set]
  simp only [stL, List.getElem_map, List.getElem_range, List.getElem_replicate]
  have : j < n + 1 := by simpa [stL] using h3
  by_cases h : 0 = j
  · rw [if_pos h, if_pos (by omega)]
  · rw [if_neg h, if_neg (by omega)]
theorem set_same {α : Type} (l : List α) (k : Nat) (x : α) (h : l[k]? = some x) : l.set k x = l := by
  refine List.ext_getElem? fun j => ?_
  rw [List.getElem?_set]
  by_cases e : k = j
  · subst e
    rw [if_pos rfl, h]
    rw [if_pos (List.getElem?_eq_some_iff.1 h).1]
  · rw [if_neg e]
theorem getD_some {l : List Bool} {k : Nat} {b : Bool} (hk : k < l.length) (h : l.getD k false = b) : l[k]? = some b := by
  rw [List.getD_eq_getElem?_getD, List.getElem?_eq_getElem hk] at h
  rw [List.getElem?_eq_getElem hk]
  exact congrArg some h
theorem first_todo {l : List Bool} {k : Nat} (hk : k < l.length) (h : l.getD k false = true) (hn : ∀ j, j < k → l.getD j false = false) : l.findIdx? id = some k :=
  find_first _ _ k true (getD_some hk h) rfl fun j y hj hy => by
    have := hn j hj
    rw [List.getD_eq_getElem?_getD, hy] at this
    exact this
theorem no_todo {l : List Bool} (hn : ∀ j, j < l.length → l.getD j false = false) : l.findIdx? id = none :=
  find_no _ _ fun j y hj hy => by
    have := hn j hj
    rw [List.getD_eq_getElem?_getD, hy] at this
    exact this
theorem getD_set_b (l : List Bool) (k j : Nat) (b : Bool) (hk : k < l.length) : (l.set k b).getD j false = if j = k then b else l.getD j false := by
  rw [List.getD_eq_getElem?_getD, List.getElem?_set, List.getD_eq_getElem?_getD]
  by_cases e : k = j
  · subst e
    rw [if_pos rfl, if_pos hk, if_pos rfl]; rfl
  · rw [if_neg e, if_neg (fun h => e h.symm)]
def natsC (l : List Nat) : List Value := l.map fun k : Nat => Value.int .i64 k
theorem natsC_one (l : List Nat) : ∀ v ∈ natsC l, v.oneCell' = true := fun v hv => by
  obtain ⟨x, _, rfl⟩ := List.mem_map.1 hv; rfl
theorem nextA_le (op : Int) (k : Nat) : (nextA op k).length ≤ 1 ∧ ∀ j ∈ nextA op k, j = k + 1 := by
  unfold nextA
  split
  · exact ⟨Nat.le_refl _, fun j hj => by simpa using hj⟩
  · exact ⟨Nat.zero_le _, fun j hj => nomatch hj⟩
theorem nextB_le (op : Int) (m : Nat) : (nextB op m).length ≤ 1 ∧ ∀ j ∈ nextB op m, j = m ∧ (op = 11 ∨ op = 12) := by
  unfold nextB
  split
  · rename_i h
    exact ⟨Nat.le_refl _, fun j hj => ⟨by simpa using hj, h⟩⟩
  · exact ⟨Nat.zero_le _, fun j hj => nomatch hj⟩
end Go.Proofs.YtliealcdiogilaaDoor
