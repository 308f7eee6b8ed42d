/-
  A contract that hands on the cells which a region that draws its order goes on reading.
-/
import Derived.Test.YtigdfkpkogompaaDoorWordsC
import Derived.WalkSpells
namespace Go.Proofs.YtigdfkpkogompaaDoor
open Go.RowKit

section
variable {P : Program} {f : FuncId} {args : Array Value} {w : World} {r : Value}
theorem with5 {p0 p1 p2 p3 p4 : Addr} {v0 v1 v2 v3 v4 : Value} (hc : Calls P f args w fun e w' => e = .returned r ∧ Below w.heap.size w w')
    (hS : w.cell? p0 = some v0 ∧ w.cell? p1 = some v1 ∧ w.cell? p2 = some v2 ∧ w.cell? p3 = some v3 ∧ w.cell? p4 = some v4) :
    Calls P f args w fun e w' => e = .returned r ∧ Below w.heap.size w w' ∧ (w'.cell? p0 = some v0 ∧ w'.cell? p1 = some v1 ∧ w'.cell? p2 = some v2 ∧ w'.cell? p3 = some v3 ∧ w'.cell? p4 = some v4) :=
  hc.mono fun _ _ ⟨he, hb⟩ => ⟨he, hb, cell_later hb hS.1, cell_later hb hS.2.1, cell_later hb hS.2.2.1, cell_later hb hS.2.2.2.1, cell_later hb hS.2.2.2.2⟩
theorem with8 {p0 p1 p2 p3 p4 p5 p6 p7 : Addr} {v0 v1 v2 v3 v4 v5 v6 v7 : Value} (hc : Calls P f args w fun e w' => e = .returned r ∧ Below w.heap.size w w')
    (hS : w.cell? p0 = some v0 ∧ w.cell? p1 = some v1 ∧ w.cell? p2 = some v2 ∧ w.cell? p3 = some v3 ∧ w.cell? p4 = some v4 ∧ w.cell? p5 = some v5 ∧ w.cell? p6 = some v6 ∧ w.cell? p7 = some v7) :
    Calls P f args w fun e w' => e = .returned r ∧ Below w.heap.size w w' ∧ (w'.cell? p0 = some v0 ∧ w'.cell? p1 = some v1 ∧ w'.cell? p2 = some v2 ∧ w'.cell? p3 = some v3 ∧ w'.cell? p4 = some v4 ∧ w'.cell? p5 = some v5 ∧ w'.cell? p6 = some v6 ∧ w'.cell? p7 = some v7) :=
  hc.mono fun _ _ ⟨he, hb⟩ => ⟨he, hb, cell_later hb hS.1, cell_later hb hS.2.1, cell_later hb hS.2.2.1, cell_later hb hS.2.2.2.1, cell_later hb hS.2.2.2.2.1, cell_later hb hS.2.2.2.2.2.1, cell_later hb hS.2.2.2.2.2.2.1, cell_later hb hS.2.2.2.2.2.2.2⟩
theorem with8R {p0 p1 p2 p3 p4 p5 p6 p7 : Addr} {v0 v1 v2 v3 v4 v5 v6 v7 : Value} {B size n : Nat} {A : Option Addr} {xs : List Value} (hc : Calls P f args w fun e w' => e = .returned r ∧ Below w.heap.size w w')
    (hS : w.cell? p0 = some v0 ∧ w.cell? p1 = some v1 ∧ w.cell? p2 = some v2 ∧ w.cell? p3 = some v3 ∧ w.cell? p4 = some v4 ∧ w.cell? p5 = some v5 ∧ w.cell? p6 = some v6 ∧ w.cell? p7 = some v7 ∧ (Reads w B size A n xs ∧ B ≤ w.heap.size)) :
    Calls P f args w fun e w' => e = .returned r ∧ Below w.heap.size w w' ∧ (w'.cell? p0 = some v0 ∧ w'.cell? p1 = some v1 ∧ w'.cell? p2 = some v2 ∧ w'.cell? p3 = some v3 ∧ w'.cell? p4 = some v4 ∧ w'.cell? p5 = some v5 ∧ w'.cell? p6 = some v6 ∧ w'.cell? p7 = some v7 ∧ (Reads w' B size A n xs ∧ B ≤ w'.heap.size)) :=
  hc.mono fun _ _ ⟨he, hb⟩ => ⟨he, hb, cell_later hb hS.1, cell_later hb hS.2.1, cell_later hb hS.2.2.1, cell_later hb hS.2.2.2.1, cell_later hb hS.2.2.2.2.1, cell_later hb hS.2.2.2.2.2.1, cell_later hb hS.2.2.2.2.2.2.1, cell_later hb hS.2.2.2.2.2.2.2.1,
    hS.2.2.2.2.2.2.2.2.1.below (hb.mono hS.2.2.2.2.2.2.2.2.2), Nat.le_trans hS.2.2.2.2.2.2.2.2.2 hb.size⟩
end
theorem below_drN {B : Nat} {a w : World} (h : Below B a w) (n : Nat) : Below B a (w.drewN n) := ⟨h.os, h.tape, h.output, h.size, h.block⟩
theorem Keep.drN {w wx : World} {L : List (Nat × TypeId × Array Value)} (h : Keep w wx L) (n : Nat) : Keep w (wx.drewN n) L := ⟨below_drN h.1 n, fun x hx => (h.2 x hx).drewN n⟩

end Go.Proofs.YtigdfkpkogompaaDoor
