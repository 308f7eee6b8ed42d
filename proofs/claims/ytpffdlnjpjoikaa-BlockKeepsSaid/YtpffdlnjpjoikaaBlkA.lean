/-
  The disk in memory: its cells, its rows, what a call may touch of it.
-/
import Derived.Test.YtpffdlnjpjoikaaWordsV
import Derived.Test.YtpffdlnjpjoikaaProg
import Derived.Test.YtpffdlnjpjoikaaWordsH
import Derived.Laws.LoneSync
import Derived.Laws.MakeOwn
namespace Go.Proofs.Ytpffdlnjpjoikaa
open Go.RowKit

/-- Bytes as cells. -/
def bsC (l : List Int) : List Value := l.map (Value.int .u8)
structure Wt where
  no : Nat
  b : List Int
  h : b.length = 64
def wtC (x : Wt) : List Value := .int .i64 x.no :: bsC x.b
def lineC (l : List Wt) : List Value := l.flatMap wtC
theorem bsC_len (l : List Int) : (bsC l).length = l.length := by simp [bsC]
theorem wtC_len (x : Wt) : (wtC x).length = 65 := by simp [wtC, bsC, x.h]
theorem lineC_len (l : List Wt) : (lineC l).length = l.length * 65 := by
  induction l with
  | nil => rfl
  | cons x l ih => simp only [lineC, List.flatMap_cons, List.length_append, wtC_len, List.length_cons] at ih ⊢; omega
theorem lineC_snoc (l : List Wt) (x : Wt) : lineC (l ++ [x]) = lineC l ++ wtC x := by simp [lineC]

/-- What a disk holds. -/
structure DSt where
  off : Bool
  n : Nat
  laid : List Int
  line : List Wt
  wr : Int
  fl : Int

/-- Below no block number but the disk's own the world is as it was. -/
structure Touch (w w' : World) (M : Nat → Prop) : Prop where
  os : w'.os = w.os
  tape : w'.tape = w.tape
  output : w'.output = w.output
  size : w.heap.size ≤ w'.heap.size
  block : ∀ k, k < w.heap.size → ¬ M k → w'.heap[k]? = w.heap[k]?

def mine (g : Nat) (vl vq : Value) (k : Nat) : Prop := k = g ∨ vl.ownBlock = some k ∨ vq.ownBlock = some k

theorem Touch.refl (w : World) (M : Nat → Prop) : Touch w w M := ⟨rfl, rfl, rfl, Nat.le_refl _, fun _ _ _ => rfl⟩
theorem Touch.of_below {w w' : World} (h : Below w.heap.size w w') (M : Nat → Prop) : Touch w w' M := ⟨h.os, h.tape, h.output, h.size, fun k hk _ => h.block k hk⟩
theorem Touch.of_grown {w w' : World} {g : Nat} {M : Nat → Prop} (h : w.grownBy w' (some g)) (hM : M g) : Touch w w' M :=
  ⟨h.os, h.tape, h.output, h.size, fun k hk hn => h.block k hk (fun e => by injection e with e; subst e; exact hn hM)⟩
theorem Touch.trans {a b c : World} {M M' : Nat → Prop} (h : Touch a b M) (k : Touch b c M') (hM : ∀ i, M' i → M i ∨ a.heap.size ≤ i) : Touch a c M :=
  ⟨k.os.trans h.os, k.tape.trans h.tape, k.output.trans h.output, Nat.le_trans h.size k.size, fun i hi hn => (k.block i (Nat.lt_of_lt_of_le hi h.size) (fun hm => (hM i hm).elim hn (fun h1 => by omega))).trans (h.block i hi hn)⟩
theorem Touch.below {w w' : World} {M : Nat → Prop} {B : Nat} (h : Touch w w' M) (hB : B ≤ w.heap.size) (hM : ∀ k, M k → B ≤ k) : Below B w w' :=
  ⟨h.os, h.tape, h.output, h.size, fun k hk => h.block k (by omega) (fun hm => by have := hM k hm; omega)⟩
theorem Touch.blk {w w' : World} {M : Nat → Prop} {g : Nat} {t : TypeId} {cs : Array Value} (h : Touch w w' M) (hb : Blk w g t cs) (hg : ¬ M g) : Blk w' g t cs := (h.block g hb.lt hg).trans hb
theorem Touch.row {w w' : World} {M : Nat → Prop} {base n size : Nat} {e : TypeId} {v : Value} {xs : List Value} (h : Touch w w' M) (ho : w.ownsRow base e size v n xs) (hg : ∀ k, v.ownBlock = some k → ¬ M k) : w'.ownsRow base e size v n xs := by
  obtain ⟨h1, h2⟩ := ho
  refine ⟨h1, ?_⟩
  rcases h2 with h2 | ⟨g, cap, cur, rfl, hb, hh, rest⟩
  · exact .inl h2
  · refine .inr ⟨g, cap, cur, rfl, hb, ?_, rest⟩
    have hlt : g < w.heap.size := by
      rcases Nat.lt_or_ge g w.heap.size with hlt | hge
      · exact hlt
      · rw [Array.getElem?_eq_none hge] at hh; cases hh
    exact (h.block g hlt (hg g rfl)).trans hh

/-- A disk that is not armed. -/
structure Dk (W : World) (base g : Nat) (s : DSt) (vl vq : Value) : Prop where
  blk : Blk W g 70 #[.bool s.off, .bool false, .int .i64 0, vl, vq, .int .i64 s.wr, .int .i64 s.fl]
  laid : W.ownsRow base 75 64 vl s.n (bsC s.laid)
  line : W.ownsRow base 77 65 vq s.line.length (lineC s.line)
  lo : base ≤ g

/-- .. behind a call: what it touched, what is its own. -/
def DkTo (w w' : World) (base g : Nat) (s : DSt) (vl vq : Value) : Prop :=
  ∃ vl' vq', Dk w' base g s vl' vq' ∧ Touch w w' (mine g vl vq) ∧ ∀ k, mine g vl' vq' k → mine g vl vq k ∨ w.heap.size ≤ k

section
variable {w w' w'' : World} {base g : Nat} {s s' : DSt} {vl vq : Value}
theorem Dk.ge (h : Dk w base g s vl vq) : ∀ k, mine g vl vq k → base ≤ k := by
  rintro k (rfl | hk | hk)
  · exact h.lo
  · exact ownGe h.laid hk
  · exact ownGe h.line hk
theorem own_lt' {n size : Nat} {e : TypeId} {v : Value} {xs : List Value} (h : w.ownsRow base e size v n xs) {g : Nat} (hg : v.ownBlock = some g) : g < w.heap.size := by
  rcases h.2 with ⟨rfl, _⟩ | ⟨g', cap, cur, rfl, hb, hh, _⟩
  · simp [Value.ownBlock] at hg
  · have : g' = g := by simpa [Value.ownBlock] using hg
    subst this
    rcases Nat.lt_or_ge g' w.heap.size with hlt | hge
    · exact hlt
    · rw [Array.getElem?_eq_none hge] at hh; cases hh
theorem Dk.lt (h : Dk w base g s vl vq) : ∀ k, mine g vl vq k → k < w.heap.size := by
  rintro k (rfl | hk | hk)
  · exact h.blk.lt
  · exact own_lt' h.laid hk
  · exact own_lt' h.line hk
theorem own_typ {n size : Nat} {e : TypeId} {v : Value} {xs : List Value} (h : w.ownsRow base e size v n xs) {g : Nat} (hg : v.ownBlock = some g) : ∃ cs, Blk w g e cs := by
  rcases h.2 with ⟨rfl, _⟩ | ⟨g', cap, cur, rfl, hb, hh, _⟩
  · simp [Value.ownBlock] at hg
  · have : g' = g := by simpa [Value.ownBlock] using hg
    subst this
    exact ⟨_, hh⟩
theorem Dk.ne_l (h : Dk w base g s vl vq) : vl.ownBlock ≠ some g := own_blk_ne h.laid h.blk (by decide)
theorem Dk.ne_q (h : Dk w base g s vl vq) : vq.ownBlock ≠ some g := own_blk_ne h.line h.blk (by decide)
theorem Dk.ne_lq (h : Dk w base g s vl vq) (k : Nat) (h1 : vl.ownBlock = some k) : vq.ownBlock ≠ some k := fun h2 => by
  obtain ⟨c1, b1⟩ := own_typ h.laid h1
  obtain ⟨c2, b2⟩ := own_typ h.line h2
  exact Blk.ne_ b1 b2 (by decide) rfl
/-- What leaves the disk's own blocks alone. -/
theorem Dk.apart (h : Dk w base g s vl vq) {M : Nat → Prop} (ht : Touch w w' M) (hM : ∀ k, mine g vl vq k → ¬ M k) : Dk w' base g s vl vq :=
  ⟨ht.blk h.blk (hM g (.inl rfl)), ht.row h.laid (fun k hk => hM k (.inr (.inl hk))), ht.row h.line (fun k hk => hM k (.inr (.inr hk))), h.lo⟩
theorem Dk.be (h : Dk w base g s vl vq) (hb : Below w.heap.size w w') : Dk w' base g s vl vq :=
  h.apart (M := fun _ => False) (Touch.of_below hb _) (fun _ _ h => h)
theorem DkTo.refl (h : Dk w base g s vl vq) : DkTo w w base g s vl vq := ⟨vl, vq, h, Touch.refl _ _, fun _ h => .inl h⟩
theorem DkTo.below (h : Dk w base g s vl vq) (hb : base ≤ w.heap.size) (h' : DkTo w w' base g s' vl vq) : Below base w w' := by
  obtain ⟨_, _, _, ht, _⟩ := h'
  exact ht.below hb h.ge
/-- Another disk (or whatever lies apart) is as it was. -/
theorem DkTo.frame {M : Nat → Prop} (h' : DkTo w w' base g s' vl vq) (hM : ∀ k, M k → k < w.heap.size ∧ ¬ mine g vl vq k) :
    (∀ k, M k → w'.heap[k]? = w.heap[k]?) ∧ ∀ vl' vq', (∀ k, mine g vl' vq' k → mine g vl vq k ∨ w.heap.size ≤ k) → ∀ k, M k → ¬ mine g vl' vq' k := by
  obtain ⟨_, _, _, ht, _⟩ := h'
  refine ⟨fun k hk => ht.block k (hM k hk).1 (hM k hk).2, fun vl' vq' h k hk hm => ?_⟩
  rcases h k hm with h1 | h1
  · exact (hM k hk).2 h1
  · have := (hM k hk).1; omega
end

theorem infoDk : (Try.prog.info? 70).map (·.size) = some 7 := by kernel_rfl
theorem infoSec : (Try.prog.info? 75).map (·.size) = some 64 := by kernel_rfl
theorem infoWt : (Try.prog.info? 77).map (·.size) = some 65 := by kernel_rfl

/-! The counters. -/
theorem call_load (g i : Nat) (x : Int) (w : World) (hc : w.cell? ⟨g, i, none⟩ = some (.int .i64 x)) : (callFunc 50 #[.pointer (some ⟨g, i, none⟩)]).run Try.prog w = .ok (.value (.int .i64 x)) w :=
  run_call_load Try.func50 (by kernel_rfl) (by kernel_rfl) (by kernel_rfl) .i64 (by kernel_rfl) hc
theorem call_store (g i : Nat) (y : Int) (u : Value) (w : World) (hc : w.cell? ⟨g, i, none⟩ = some u) (hz : w.frozen? ⟨g, i, none⟩ = false) : (callFunc 49 #[.pointer (some ⟨g, i, none⟩), .int .i64 y]).run Try.prog w = .ok (.value (.tuple #[])) (w.setCell ⟨g, i, none⟩ (.int .i64 y)) :=
  run_call_store Try.func49 (by kernel_rfl) (by kernel_rfl) (by kernel_rfl) (by kernel_rfl) hc hz
theorem call_add (g i : Nat) (x y : Int) (w : World) (hc : w.cell? ⟨g, i, none⟩ = some (.int .i64 x)) (hz : w.frozen? ⟨g, i, none⟩ = false) (h : -9223372036854775808 ≤ x + y ∧ x + y ≤ 9223372036854775807) : (callFunc 46 #[.pointer (some ⟨g, i, none⟩), .int .i64 y]).run Try.prog w = .ok (.value (.int .i64 (x + y))) (w.setCell ⟨g, i, none⟩ (.int .i64 (x + y))) :=
  run_call_add Try.func46 (by kernel_rfl) (by kernel_rfl) (by kernel_rfl) .i64 (by kernel_rfl) hc hz (by simp [go_sem]; rw [IntKind.wrap_i64]; omega)

set_option maxHeartbeats 400000 in
theorem load_any (g i : Nat) (x : Int) (w : World) (hc : w.cell? ⟨g, i, none⟩ = some (.int .i64 x)) :
    Calls Try.prog 43 #[.pointer (some ⟨g, i, none⟩)] w fun e w' => e = .returned (.int .i64 x) ∧ w = w' := by
  have hl := call_load g i x w hc
  go_enter Try.func43, Try.ntmps43
  go_wp2
  go_ret
  exact ⟨rfl, rfl⟩
set_option maxHeartbeats 400000 in
theorem store_any (g i : Nat) (y : Int) (u : Value) (w : World) (hc : w.cell? ⟨g, i, none⟩ = some u) (hz : w.frozen? ⟨g, i, none⟩ = false) :
    Calls Try.prog 42 #[.pointer (some ⟨g, i, none⟩), .int .i64 y] w fun e w' => e = .returned (.tuple #[]) ∧ w' = w.setCell ⟨g, i, none⟩ (.int .i64 y) := by
  have hl := call_store g i y u w hc hz
  go_enter Try.func42, Try.ntmps42
  go_wp2
  go_end0
  exact ⟨rfl, rfl⟩
set_option maxHeartbeats 400000 in
theorem add_any (g i : Nat) (x y : Int) (w : World) (hc : w.cell? ⟨g, i, none⟩ = some (.int .i64 x)) (hz : w.frozen? ⟨g, i, none⟩ = false) (h : -9223372036854775808 ≤ x + y ∧ x + y ≤ 9223372036854775807) :
    Calls Try.prog 34 #[.pointer (some ⟨g, i, none⟩), .int .i64 y] w fun e w' => e = .returned (.int .i64 (x + y)) ∧ w' = w.setCell ⟨g, i, none⟩ (.int .i64 (x + y)) := by
  have hl := call_add g i x y w hc hz h
  go_enter Try.func34, Try.ntmps34
  go_wp2
  go_ret
  exact ⟨rfl, rfl⟩

end Go.Proofs.Ytpffdlnjpjoikaa
