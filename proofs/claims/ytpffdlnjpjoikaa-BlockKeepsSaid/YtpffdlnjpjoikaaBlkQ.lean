/-
  The calls that come in.
-/
import Derived.Test.YtpffdlnjpjoikaaBlkO
import Derived.Test.YtpffdlnjpjoikaaRows
import Derived.ProofKit
import Derived.Lib.SmallJoins
import Derived.Deep.Slices
namespace Go.Proofs.Ytpffdlnjpjoikaa
open Go.ChangeShapes Go.WideShapes Go.ChangeAt Go.RowKit Go.ChangeMaps Go.Deep Go.Joins

theorem cell_ltB {w : World} {p : Addr} {v : Value} (h : w.cell? p = some v) : p.block < w.heap.size := by
  rcases Nat.lt_or_ge p.block w.heap.size with hlt | hge
  · exact hlt
  · have : w.heap[p.block]? = none := Array.getElem?_eq_none hge
    simp [World.cell?, this] at h
/-- A slice of integers, as it reads. -/
theorem trod_ints {H : Type} {enc : TypeId × Value → H} {P : Program} {W : World} {T E : TypeId} {k : IntKind} {fuel : Nat} {v : Value} {x : DataW H × List MemPlace}
    (hT : P.underlying T = some (.slice E)) (hE : P.underlying E = some (.int k)) (hC : P.cellsOf E = 1) (hf : DataW.trod enc P W 0 (fun _ => true) true fuel T [v] = some x) :
    ∃ (A : Option Addr) (n c : Nat) (l : List Int), v = .slice A n c ∧ n ≤ c ∧ c ≤ 9223372036854775807 ∧ Reads W W.heap.size 1 A n (l.map (Value.int k)) := by
  rcases open_ints hT hE hC hf with ⟨hcs, -⟩ | ⟨x, l, cc, zs, hcs, -, hl, hm, hz, -, hcell, hwz⟩
  · injection hcs with hcs
    exact ⟨none, 0, 0, [], hcs, Nat.le_refl _, by omega, Reads.none_⟩
  · injection hcs with hcs
    simp only [if_true] at hz
    unfold maxLen at hm
    refine ⟨some x, l, cc, zs.take l, hcs, hl, hm, ⟨by simp [hz]; omega, fun hn => ⟨x, rfl, ?_, fun j u hu => ?_⟩⟩⟩
    · have h0 := cell_ltB (hcell 0 (by omega))
      rw [block_of_add] at h0
      exact h0
    · rw [List.getElem?_map, List.getElem?_take] at hu
      split at hu
      · rename_i hj
        have hj2 : j < zs.length := by omega
        rw [hcell j hj2]
        rw [List.getElem?_eq_getElem hj2] at hu
        simp at hu
        subst hu
        simp [List.getD, List.getElem?_eq_getElem hj2]
      · simp at hu

structure ActI where
  kind : Int
  no : Int
  A : Option Addr
  n : Nat
  c : Nat
  b : List Int
  keep : Value
/-- The call number i, as it reads. -/
def ActAt (W : World) (A : Option Addr) (i : Nat) (x : ActI) : Prop := ∃ ad, A = some ad ∧ ad.block < W.heap.size ∧ W.cell? (ad.add (i * 4)) = some (.int .i64 x.kind) ∧ W.cell? (ad.add (i * 4 + 1)) = some (.int .i64 x.no) ∧
  W.cell? (ad.add (i * 4 + 2)) = some (.slice x.A x.n x.c) ∧ Reads W W.heap.size 1 x.A x.n (bsC x.b)

theorem act_cells {H : Type} {enc : TypeId × Value → H} {W : World} {fuel : Nat} {cs : List Value} {x : DataW H × List MemPlace} (h : DataW.trod enc Try.prog W 0 (fun _ => true) true fuel 32 cs = some x) :
    ∃ y : ActI, cs = [.int .i64 y.kind, .int .i64 y.no, .slice y.A y.n y.c, y.keep] ∧ Reads W W.heap.size 1 y.A y.n (bsC y.b) := by
  have hc1 : Try.prog.cellsOf 3 = 1 := by kernel_rfl
  have hcb : Try.prog.cellsOf 30 = 1 := by kernel_rfl
  have hcR : Try.prog.cellsOf 32 = 4 := by kernel_rfl
  obtain ⟨xs, n, -, -, hl, hx, hf⟩ := DataW.trod_struct Try.underlying32 h
  rw [hcR] at hl
  have hx4 : xs.length = 4 := hx
  have g : ∀ i, i < 4 → ∃ y, xs[i]? = some y := fun i hi => ⟨_, List.getElem?_eq_getElem (by omega)⟩
  obtain ⟨y0, e0⟩ := g 0 (by omega)
  obtain ⟨y1, e1⟩ := g 1 (by omega)
  obtain ⟨y2, e2⟩ := g 2 (by omega)
  have f0 := hf 0 _ rfl
  have f1 := hf 1 _ rfl
  have f2 := hf 2 _ rfl
  rw [e0] at f0
  rw [e1] at f1
  rw [e2] at f2
  have f0' : DataW.trod enc Try.prog W 0 (fun _ => true) true n 3 ((cs.drop 0).take (Try.prog.cellsOf 3)) = some y0 := f0
  have f1' : DataW.trod enc Try.prog W 0 (fun _ => true) true n 3 ((cs.drop 1).take (Try.prog.cellsOf 3)) = some y1 := f1
  have f2' : DataW.trod enc Try.prog W 0 (fun _ => true) true n 30 ((cs.drop 2).take (Try.prog.cellsOf 30)) = some y2 := f2
  rw [hc1] at f0' f1'
  rw [hcb] at f2'
  match cs, hl with
  | [c0, c1, c2, c3], _ =>
    obtain ⟨k, hk, -, -⟩ := DataW.trod_int Try.underlying3 f0'
    obtain ⟨m, hm, -, -⟩ := DataW.trod_int Try.underlying3 f1'
    obtain ⟨A, len, c, l, hv, -, -, hR⟩ := trod_ints (v := c2) Try.underlying30 Try.underlying5 (by kernel_rfl) f2'
    injection hk with hk
    injection hm with hm
    subst hk hm hv
    exact ⟨⟨k, m, A, len, c, l, c3⟩, rfl, hR⟩

theorem open_acts {H : Type} {enc : TypeId × Value → H} {W : World} {base : Nat} {v : Value} {d : DataW H} {p : List MemPlace}
    (h : DataW.Trod enc Try.prog W 0 (fun _ => true) true 22 v d p) (o : Value.okWide Try.prog W .any base 22 v) :
    ∃ (A : Option Addr) (n c : Nat) (D : Nat → ActI), v = .slice A n c ∧ n ≤ 9223372036854775807 ∧ ∀ i, i < n → ActAt W A i (D i) := by
  have hcR : Try.prog.cellsOf 32 = 4 := by kernel_rfl
  obtain ⟨A, n, c, rfl⟩ := okWide_slice Try.underlying22 o
  obtain ⟨fuel, hf⟩ := h
  rcases open_slice Try.underlying22 hf with ⟨hcs, -⟩ | ⟨a, len, cap, m, k, D, Pl, hcs, -, hl, hm, hmm, -, hi⟩
  · simp [Value.cells] at hcs
    obtain ⟨rfl, rfl, rfl⟩ := hcs
    exact ⟨none, 0, 0, fun _ => ⟨0, 0, none, 0, 0, [], undef⟩, rfl, by omega, fun i h => by omega⟩
  · simp [Value.cells] at hcs
    obtain ⟨rfl, rfl, rfl⟩ := hcs
    unfold maxLen at hm
    rw [if_pos rfl] at hmm
    rw [hcR] at hi
    have hex : ∀ i, ∃ y : ActI, i < n → ActAt W (some a) i y := fun i => by
      by_cases hin : i < n
      · obtain ⟨cs', hc, ht⟩ := hi i (by omega)
        obtain ⟨y, rfl, hR⟩ := act_cells ht
        refine ⟨y, fun _ => ⟨a, rfl, ?_, ?_, ?_, ?_, hR⟩⟩
        all_goals
          obtain ⟨_, hcl, hat⟩ := World.cells?_some hc
          have h0 := hat 0 (by omega)
          have h1 := hat 1 (by omega)
          have h2 := hat 2 (by omega)
          rw [add_of_add] at h0 h1 h2
          first
            | exact h0
            | exact h1
            | exact h2
            | (have := cell_ltB h0; rw [block_of_add] at this; exact this)
      · exact ⟨⟨0, 0, none, 0, 0, [], undef⟩, fun h => absurd h hin⟩
    exact ⟨some a, n, c, fun i => Classical.choose (hex i), rfl, by omega, fun i hi => Classical.choose_spec (hex i) hi⟩

end Go.Proofs.Ytpffdlnjpjoikaa
