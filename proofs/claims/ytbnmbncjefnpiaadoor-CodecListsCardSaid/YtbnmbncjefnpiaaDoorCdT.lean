/-
  A stack of open lists: what holds of it, and what each step does to it.
-/
import Derived.Test.YtbnmbncjefnpiaaDoorCdS
namespace Go.Proofs.YtbnmbncjefnpiaaDoor
open Go.RowKit

/-- An open list: the header of its row. -/
structure Opn where
  p : Option Addr
  l : List Vx
  c : Nat
def Opn.x (o : Opn) : Vx := .mk 2 0 none [] 0 o.p o.l o.c
def Opn.row (o : Opn) : Value := .slice o.p o.l.length o.c
def Opn.blk (o : Opn) : Option Nat := o.row.ownBlock
def osC (os : List Opn) : List Value := vxsC (os.map Opn.x)
theorem osC_app (a b : List Opn) : osC (a ++ b) = osC a ++ osC b := by simp [osC, vxsC_app]
theorem osC_len (os : List Opn) : (osC os).length = os.length * 4 := by simp [osC, vxsC_len]
theorem osC_one (o : Opn) : osC [o] = [.int .i64 2, .int .i64 0, .slice none 0 0, o.row] := by simp [osC, vxsC, Opn.x, vxC_mk, Opn.row]
/-- Blocks that nobody may still write to. -/
def Free (w : World) (base : Nat) (s : Option Nat) (os : List Opn) (g : Nat) : Prop := base ≤ g ∧ g < w.heap.size ∧ s ≠ some g ∧ ∀ o ∈ os, o.blk ≠ some g
structure Stk (w : World) (base : Nat) (A : Option Addr) (n c : Nat) (os : List Opn) : Prop where
  row : w.ownsRow base 26 4 (.slice A n c) n (osC os)
  len : os.length = n
  kid : ∀ o ∈ os, w.ownsRow base 26 4 o.row o.l.length (vxsC o.l)
  few : ∀ o ∈ os, o.l.length ≤ 1000
  apart : ∀ o ∈ os, o.blk = none ∨ o.blk ≠ (Value.slice A n c).ownBlock
  dist : os.Pairwise (fun o p => o.blk = none ∨ o.blk ≠ p.blk)
  ok : ∀ o ∈ os, ∀ y ∈ o.l, VxOk w (Free w base (Value.slice A n c).ownBlock os) y
section
variable {w w' : World} {base : Nat} {A : Option Addr} {n c : Nat} {os ps : List Opn}
theorem Stk.lt (h : Stk w base A n c os) {o : Opn} (ho : o ∈ os) {g : Nat} (hg : o.blk = some g) : base ≤ g ∧ g < w.heap.size := (h.kid o ho).lt g hg
/-- Memory that is only made. -/
theorem Stk.be (h : Stk w base A n c os) (hb : Below w.heap.size w w') : Stk w' base A n c os :=
  ⟨own_below h.row hb, h.len, fun o ho => own_below (h.kid o ho) hb, h.few, h.apart, h.dist, fun o ho y hy =>
    VxOk.mono (fun _ hg => ⟨hg.1, Nat.lt_of_lt_of_le hg.2.1 hb.size, hg.2.2⟩) y (VxOk.keep (fun _ hp => hb.cell hp.2.1) y (h.ok o ho y hy))⟩
/-- What only two rows' blocks and new memory may differ in. -/
structure Two (w w' : World) (a b : Option Nat) : Prop where
  os : w'.os = w.os
  tape : w'.tape = w.tape
  output : w'.output = w.output
  size : w.heap.size ≤ w'.heap.size
  block : ∀ g, g < w.heap.size → some g ≠ a → some g ≠ b → w'.heap[g]? = w.heap[g]?
theorem Two.of1 {a b : Option Nat} (h : w.grownBy w' a) : Two w w' a b := ⟨h.os, h.tape, h.output, h.size, fun g hg h1 _ => h.block g hg h1⟩
theorem Two.trans {w1 w2 : World} {a b : Option Nat} (h : Two w w1 a b) (k : Two w1 w2 a b) : Two w w2 a b :=
  ⟨k.os.trans h.os, k.tape.trans h.tape, k.output.trans h.output, Nat.le_trans h.size k.size, fun g hg h1 h2 => (k.block g (Nat.lt_of_lt_of_le hg h.size) h1 h2).trans (h.block g hg h1 h2)⟩
/-- A step that writes one of the two, or what is newer than the first world. -/
theorem Two.step {w1 w2 : World} {a b r : Option Nat} (h : Two w w1 a b) (k : w1.grownBy w2 r) (hr : r = a ∨ r = b ∨ ∀ g, r = some g → w.heap.size ≤ g) : Two w w2 a b :=
  ⟨k.os.trans h.os, k.tape.trans h.tape, k.output.trans h.output, Nat.le_trans h.size k.size, fun g hg h1 h2 => (k.block g (Nat.lt_of_lt_of_le hg h.size) (fun e => by
    rcases hr with rfl | rfl | hr
    · exact h1 e
    · exact h2 e
    · have := hr g e.symm; omega)).trans (h.block g hg h1 h2)⟩
theorem Two.below {B : Nat} {a b : Option Nat} {w0 : World} (h0 : Below B w0 w) (h : Two w w' a b) (hB : B ≤ w.heap.size) (ha : ∀ g, a = some g → B ≤ g) (hb : ∀ g, b = some g → B ≤ g) : Below B w0 w' :=
  ⟨h.os.trans h0.os, h.tape.trans h0.tape, h.output.trans h0.output, Nat.le_trans h0.size h.size, fun g hg => (h.block g (by omega) (fun e => by have := ha g e.symm; omega) (fun e => by have := hb g e.symm; omega)).trans (h0.block g hg)⟩
theorem own_two {e : TypeId} {size k : Nat} {v : Value} {xs : List Value} {a b : Option Nat} (h : w.ownsRow base e size v k xs) (t : Two w w' a b) (h1 : v.ownBlock = none ∨ (v.ownBlock ≠ a ∧ v.ownBlock ≠ b)) : w'.ownsRow base e size v k xs := by
  refine ⟨h.1, ?_⟩
  rcases h.2 with hn | ⟨g, cap, cur, rfl, hb, hgg, rest⟩
  · exact .inl hn
  · refine .inr ⟨g, cap, cur, rfl, hb, ?_, rest⟩
    rcases h1 with h1 | ⟨h1, h2⟩
    · simp [Value.ownBlock] at h1
    · rw [t.block g (by
        rcases Nat.lt_or_ge g w.heap.size with h3 | h3
        · exact h3
        · simp [h3] at hgg) (fun e => h1 (by rw [← e]; rfl)) (fun e => h2 (by rw [← e]; rfl))]
      exact hgg
/-- One value more in the top's list. -/
theorem Stk.push {o o' : Opn} {x : Vx} (h : Stk w base A n c (ps ++ [o])) (hl : o'.l = o.l ++ [x]) (hfew : o.l.length < 1000) (hbl : o'.blk = o.blk ∨ ∃ g, o'.blk = some g ∧ w.heap.size ≤ g ∧ g < w'.heap.size)
    (t : Two w w' o.blk (Value.slice A n c).ownBlock) (hrow : w'.ownsRow base 26 4 (.slice A n c) n (osC (ps ++ [o']))) (hkid : w'.ownsRow base 26 4 o'.row o'.l.length (vxsC o'.l))
    (hx : VxOk w (Free w base (Value.slice A n c).ownBlock (ps ++ [o])) x) : Stk w' base A n c (ps ++ [o']) := by
  have hom : o ∈ ps ++ [o] := by simp
  have hpm : ∀ p ∈ ps, p ∈ ps ++ [o] := fun p hp => List.mem_append_left _ hp
  have hdist := List.pairwise_append.1 h.dist
  have hpo : ∀ p ∈ ps, p.blk = none ∨ p.blk ≠ o.blk := fun p hp => hdist.2.2 p hp o (by simp)
  have hsub : ∀ g, Free w base (Value.slice A n c).ownBlock (ps ++ [o]) g → Free w' base (Value.slice A n c).ownBlock (ps ++ [o']) g := fun g hg => by
    refine ⟨hg.1, Nat.lt_of_lt_of_le hg.2.1 t.size, hg.2.2.1, fun q hq => ?_⟩
    rcases List.mem_append.1 hq with hq | hq
    · exact hg.2.2.2 q (hpm q hq)
    · obtain rfl : q = o' := by simpa using hq
      rcases hbl with e | ⟨g', e, hg', _⟩
      · rw [e]; exact hg.2.2.2 o hom
      · rw [e]; intro e2; injection e2 with e2; have := hg.2.1; omega
  have hkeep : ∀ y : Vx, VxOk w (Free w base (Value.slice A n c).ownBlock (ps ++ [o])) y → VxOk w' (Free w' base (Value.slice A n c).ownBlock (ps ++ [o'])) y := fun y hy =>
    VxOk.mono hsub y (VxOk.keep (fun p hp => World.cell?_of_block (t.block p.block hp.2.1 (fun e => hp.2.2.2 o hom e.symm) (fun e => hp.2.2.1 e.symm))) y hy)
  refine ⟨hrow, by have := h.len; simp at this ⊢; exact this, fun q hq => ?_, fun q hq => ?_, fun q hq => ?_, ?_, fun q hq y hy => ?_⟩
  · rcases List.mem_append.1 hq with hq | hq
    · refine own_two (h.kid q (hpm q hq)) t ?_
      rcases hpo q hq with e | e
      · exact .inl e
      · rcases h.apart q (hpm q hq) with e2 | e2
        · exact .inl e2
        · exact .inr ⟨e, e2⟩
    · obtain rfl : q = o' := by simpa using hq
      exact hkid
  · rcases List.mem_append.1 hq with hq | hq
    · exact h.few q (hpm q hq)
    · obtain rfl : q = o' := by simpa using hq
      rw [hl]; simp; omega
  · rcases List.mem_append.1 hq with hq | hq
    · exact h.apart q (hpm q hq)
    · obtain rfl : q = o' := by simpa using hq
      rcases hbl with e | ⟨g', e, hg', _⟩
      · rw [e]; exact h.apart o hom
      · right; rw [e]; intro e2; have := h.row.lt g' e2.symm; omega
  · refine List.pairwise_append.2 ⟨hdist.1, by simp, fun p hp q hq => ?_⟩
    obtain rfl : q = o' := by simpa using hq
    rcases hbl with e | ⟨g', e, hg', _⟩
    · rw [e]; exact hpo p hp
    · right; rw [e]; intro e2; have := h.lt (hpm p hp) e2; omega
  · rcases List.mem_append.1 hq with hq | hq
    · exact hkeep y (h.ok q (hpm q hq) y hy)
    · obtain rfl : q = o' := by simpa using hq
      rw [hl] at hy
      rcases List.mem_append.1 hy with hy | hy
      · exact hkeep y (h.ok o hom y hy)
      · obtain rfl : y = x := by simpa using hy
        exact hkeep y hx
/-- The top is closed: it stands as the last value of the one below. -/
theorem own_take {e : TypeId} {size k m : Nat} {B : Option Addr} {d : Nat} {xs ys : List Value} (h : w.ownsRow base e size (.slice B (k + m) d) (k + m) (xs ++ ys)) (hk : xs.length = k * size) : w.ownsRow base e size (.slice B k d) k xs := by
  refine ⟨hk, ?_⟩
  rcases h.2 with ⟨e1, h0⟩ | ⟨g, cap, cur, e1, h1, h2, h3, h4, h5, h6⟩
  · injection e1 with e1 _ e3
    have : k = 0 := by omega
    subst this
    exact .inl ⟨by rw [e1, e3], rfl⟩
  · injection e1 with e1 _ e3
    refine .inr ⟨g, cap, cur, by rw [e1, e3], h1, h2, by omega, h4, h5, ?_⟩
    have := congrArg (List.take (k * size)) h6
    rw [List.take_take, Nat.min_eq_left (Nat.mul_le_mul_right _ (Nat.le_add_right _ _)), List.take_left' hk] at this
    exact this
theorem Stk.pop {o : Opn} (h : Stk w base A (n + 1) c (ps ++ [o])) : Stk w base A n c ps ∧ VxOk w (Free w base (Value.slice A n c).ownBlock ps) o.x := by
  have hom : o ∈ ps ++ [o] := by simp
  have hpm : ∀ p ∈ ps, p ∈ ps ++ [o] := fun p hp => List.mem_append_left _ hp
  have hdist := List.pairwise_append.1 h.dist
  have hlen : ps.length = n := by have := h.len; simpa using this
  have hown : (Value.slice A (n + 1) c).ownBlock = (Value.slice A n c).ownBlock := by cases A <;> rfl
  have hsub : ∀ g, Free w base (Value.slice A (n + 1) c).ownBlock (ps ++ [o]) g → Free w base (Value.slice A n c).ownBlock ps g := fun g hg => ⟨hg.1, hg.2.1, by rw [← hown]; exact hg.2.2.1, fun q hq => hg.2.2.2 q (hpm q hq)⟩
  refine ⟨⟨own_take (m := 1) (by rw [← osC_app]; exact h.row) (by rw [osC_len, hlen]), hlen, fun q hq => h.kid q (hpm q hq), fun q hq => h.few q (hpm q hq), fun q hq => by rw [← hown]; exact h.apart q (hpm q hq), hdist.1, fun q hq y hy => VxOk.mono hsub y (h.ok q (hpm q hq) y hy)⟩, ?_⟩
  have hk := h.kid o hom
  have hf := h.few o hom
  refine VxOk.iff.2 ⟨RdC.nil, RdC.own hk fun g e h1 h2 => ⟨h1, h2, ?_, fun q hq e2 => ?_⟩, ⟨by omega, by omega, by omega, by omega, ⟨Nat.le_refl _, by simp⟩, ownCapS hk, by simp, by omega, fun x hx => nomatch hx⟩, fun y hy => VxOk.mono hsub y (h.ok o hom y hy)⟩
  · rw [← hown]
    intro e2
    rcases h.apart o hom with e3 | e3
    · rw [show o.blk = some g from e] at e3; cases e3
    · exact e3 (by rw [e2]; exact e)
  · rcases hdist.2.2 q hq o (by simp) with e3 | e3
    · rw [e2] at e3; cases e3
    · exact e3 (by rw [e2]; exact e.symm)
/-- One more open list on top. -/
theorem Stk.open_ {A' : Option Addr} {c' : Nat} (h : Stk w base A n c os) (hrow : w'.ownsRow base 26 4 (.slice A' (n + 1) c') (n + 1) (osC (os ++ [⟨none, [], 0⟩])))
    (hg : w.grownBy w' (Value.slice A n c).ownBlock) (hbl : (Value.slice A' (n + 1) c').ownBlock = (Value.slice A n c).ownBlock ∨ (Value.slice A' (n + 1) c').ownBlock = some w.heap.size) : Stk w' base A' (n + 1) c' (os ++ [⟨none, [], 0⟩]) := by
  have hsub : ∀ g, Free w base (Value.slice A n c).ownBlock os g → Free w' base (Value.slice A' (n + 1) c').ownBlock (os ++ [⟨none, [], 0⟩]) g := fun g hf => by
    refine ⟨hf.1, Nat.lt_of_lt_of_le hf.2.1 hg.size, ?_, fun q hq => ?_⟩
    · rcases hbl with e | e
      · rw [e]; exact hf.2.2.1
      · rw [e]; intro e2; injection e2 with e2; have := hf.2.1; omega
    · rcases List.mem_append.1 hq with hq | hq
      · exact hf.2.2.2 q hq
      · obtain rfl : q = ⟨none, [], 0⟩ := by simpa using hq
        intro e; cases e
  refine ⟨hrow, by rw [List.length_append, h.len]; rfl, fun q hq => ?_, fun q hq => ?_, fun q hq => ?_, ?_, fun q hq y hy => ?_⟩
  · rcases List.mem_append.1 hq with hq | hq
    · exact (h.kid q hq).kept hg (h.apart q hq)
    · obtain rfl : q = ⟨none, [], 0⟩ := by simpa using hq
      exact World.ownsRow_nil _ _ _ _
  · rcases List.mem_append.1 hq with hq | hq
    · exact h.few q hq
    · obtain rfl : q = ⟨none, [], 0⟩ := by simpa using hq
      exact Nat.zero_le _
  · rcases List.mem_append.1 hq with hq | hq
    · rcases h.apart q hq with e | e
      · exact .inl e
      · rcases hbl with e2 | e2
        · rw [e2]; exact .inr e
        · right; rw [e2]; intro e3; have := h.lt hq e3; omega
    · obtain rfl : q = ⟨none, [], 0⟩ := by simpa using hq
      exact .inl rfl
  · refine List.pairwise_append.2 ⟨h.dist, by simp, fun p hp q hq => ?_⟩
    obtain rfl : q = ⟨none, [], 0⟩ := by simpa using hq
    rcases Option.eq_none_or_eq_some p.blk with e | ⟨g, e⟩
    · exact .inl e
    · right; rw [e]; intro e2; cases e2
  · rcases List.mem_append.1 hq with hq | hq
    · exact VxOk.mono hsub y (VxOk.keep (fun p hp => World.cell?_of_block (hg.block p.block hp.2.1 (fun e => hp.2.2.1 e.symm))) y (h.ok q hq y hy))
    · obtain rfl : q = ⟨none, [], 0⟩ := by simpa using hq
      exact nomatch hy
end

end Go.Proofs.YtbnmbncjefnpiaaDoor
