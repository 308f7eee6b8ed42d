/-
  The walk of the law ArchiveTells.
-/
import Derived.Test.YticcphppnmoogaaGreatDoorBy14

namespace Go.Proofs.YticcphppnmoogaaGreatDoor
open Go.RowKit
attribute [local go_sem ↓] Go.wp_at_zero Go.wp_at_succ

theorem neq_dig (A : List Nat) (hA : A.length = 32) (w : World) : (binOp .neq 89 (.agg (u8s A).toArray) (.agg (u8s A).toArray)).run Tryz.prog w = .ok (.bool false) w := by
  have h := eql_dig A A hA hA w
  rw [run_eql_struct] at h
  rw [run_neq_struct]
  revert h
  cases (Op.equalIn 10000 89 (.agg (u8s A).toArray) (.agg (u8s A).toArray)).run Tryz.prog w with
  | ok b w' =>
    intro h
    simp only [Result.andThen] at h ⊢
    injection h with h1 h2
    injection h1 with h1
    have : b = true := by rw [h1]; simp
    rw [this, h2]; rfl
  | halt c w' => intro h; simp [Result.andThen] at h
theorem idxE_same {q : List ByteArray} : ∀ {l m : List Ex}, l.map (·.e) = m.map (·.e) → idxE q l = idxE q m
  | [], [], _ => rfl
  | [], _ :: _, h => by simp at h
  | _ :: _, [], h => by simp at h
  | x :: l, y :: m, h => by
    simp only [List.map_cons, List.cons.injEq] at h
    unfold idxE
    rw [h.1, idxE_same h.2]
theorem len_same {l m : List Ex} (h : l.map (·.e) = m.map (·.e)) : l.length = m.length := by
  have := congrArg List.length h
  simpa using this
theorem placE_same {q : List ByteArray} {l m : List Ex} (h : l.map (·.e) = m.map (·.e)) : placE q l = placE q m := by
  unfold placE; rw [idxE_same h, len_same h]
theorem files_same {l m : List Ex} (h : l.map (·.e) = m.map (·.e)) : filesF l = filesF m := by
  have e : ∀ l : List Ex, filesF l = ((l.map (·.e)).map fun x => if x.kind = 0 then 1 else 0).sum := fun l => by simp only [filesF, List.map_map]; rfl
  rw [e, e, h]
theorem all_same {l m : List Ex} (h : l.map (·.e) = m.map (·.e)) : allF l = allF m := by
  have e : ∀ l : List Ex, allF l = ((l.map (·.e)).map fun x => if x.kind = 0 then x.data.length else 0).sum := fun l => by simp only [allF, List.map_map]; rfl
  rw [e, e, h]
theorem eqL_self (l : List Ex) : eqL l l = true := (eqL_iff l l).2 rfl
theorem eqL_same {l l' m m' : List Ex} (h : l.map (·.e) = m.map (·.e)) (h' : l'.map (·.e) = m'.map (·.e)) : eqL m m' = eqL l l' := by
  have h1 := eqL_iff l l'
  have h2 := eqL_iff m m'
  rw [← h, ← h'] at h2
  exact Bool.eq_iff_iff.2 (h2.trans h1.symm)
theorem get_same {l m : List Ex} {i : Nat} {x : Ex} (h : l.map (·.e) = m.map (·.e)) (hx : l[i]? = some x) : ∃ y, m[i]? = some y ∧ y.e = x.e := by
  have h1 : (l.map (·.e))[i]? = some x.e := by simp [hx]
  rw [h, List.getElem?_map] at h1
  cases hm : m[i]? with
  | none => rw [hm] at h1; simp at h1
  | some y => rw [hm] at h1; simp at h1; exact ⟨y, rfl, h1⟩
theorem digC_at : ∀ (l : List Ex) (i : Nat) (r : Ex), l[i]? = some r → ∀ (j : Nat) (v : Value), (u8s (shaF r.e.data))[j]? = some v → (digC l)[i * 32 + j]? = some v
  | [], i, r, h, _, _, _ => by simp at h
  | x :: l, 0, r, h, j, v, hv => by
    simp at h; subst h
    have hj : j < (u8s (shaF x.e.data)).length := (List.getElem?_eq_some_iff.1 hv).1
    simp only [digC, List.flatMap_cons, Nat.zero_mul, Nat.zero_add]
    rw [List.getElem?_append_left hj, hv]
  | x :: l, i + 1, r, h, j, v, hv => by
    have h' : l[i]? = some r := by simpa using h
    have h32 : (u8s (shaF x.e.data)).length = 32 := by rw [u8s_len, shaF_len]
    have e : (i + 1) * 32 + j = (u8s (shaF x.e.data)).length + (i * 32 + j) := by rw [h32]; omega
    simp only [digC, List.flatMap_cons]
    rw [e, List.getElem?_append_right (by omega), Nat.add_sub_cancel_left]
    exact digC_at l i r h' j v hv
theorem Exs.one {w : World} {A : Option Addr} {x : Ex} (h : Reads w w.heap.size 4 A 1 (exC x)) (hx : ExOk w w.heap.size x) : Exs w A 1 [x] :=
  ⟨by have e : exsC [x] = exC x := by simp [exsC]
      rw [e]; exact h, fun y hy => by simp at hy; subst hy; exact hx⟩

theorem ToSt.exs2 {w : World} {base n c c' : Nat} {A A' : Option Addr} {l m : List Ex} (h : ToSt w base (.slice A n c) (.slice A' n c') n l m) : Exs w A n l ∧ Exs w A' n m :=
  ⟨⟨Reads.of_own h.o4, fun x hx => (h.k4 x hx).1.ok⟩, ⟨Reads.of_own h.o5, fun x hx => (h.k5 x hx).ok⟩⟩
theorem digInfoS : (Tryz.prog.info? 89).map (·.size) = some 32 := by kernel_rfl

/-- What Find has told. -/
def Told (w : World) (g : Nat) (E : Int) (q : List ByteArray) (L : List Ex) : Prop :=
  (∃ x x' : Ex, E = 0 ∧ L[idxE q L]? = some x ∧ x'.e = x.e ∧ Blk w g 40 (exC x').toArray ∧ ExOk w w.heap.size x') ∨ (E = 7 ∧ idxE q L = L.length)
theorem Told.drewN {w : World} {g : Nat} {E : Int} {q : List ByteArray} {L : List Ex} (h : Told w g E q L) (k : Nat) : Told (w.drewN k) g E q L := by
  rcases h with ⟨x, x', h1, h2, h3, h4, h5⟩ | h
  · exact .inl ⟨x, x', h1, h2, h3, h4.drewN k, h5.be (below_drN (Below.refl _ _) k)⟩
  · exact .inr h

section
variable {a : World} {g : Nat} {c0 c1 c2 c3 : Value}
theorem s6_al {W : World} (o : Obj) (h : Below a.heap.size a W ∧ W.cell? ⟨g, 0, none⟩ = some c0 ∧ W.cell? ⟨g, 1, none⟩ = some c1 ∧ W.cell? ⟨g, 2, none⟩ = some c2 ∧ W.cell? ⟨g, 3, none⟩ = some c3) :
    Below a.heap.size a (W.alloc o) ∧ (W.alloc o).cell? ⟨g, 0, none⟩ = some c0 ∧ (W.alloc o).cell? ⟨g, 1, none⟩ = some c1 ∧ (W.alloc o).cell? ⟨g, 2, none⟩ = some c2 ∧ (W.alloc o).cell? ⟨g, 3, none⟩ = some c3 := by
  have hl : g < W.heap.size := cell_lt' h.2.1
  exact ⟨below_al h.1 o, (World.cell?_alloc_lt W o ⟨g, 0, none⟩ hl).trans h.2.1, (World.cell?_alloc_lt W o ⟨g, 1, none⟩ hl).trans h.2.2.1, (World.cell?_alloc_lt W o ⟨g, 2, none⟩ hl).trans h.2.2.2.1, (World.cell?_alloc_lt W o ⟨g, 3, none⟩ hl).trans h.2.2.2.2⟩
theorem s6_be {W W' : World} (h : Below a.heap.size a W ∧ W.cell? ⟨g, 0, none⟩ = some c0 ∧ W.cell? ⟨g, 1, none⟩ = some c1 ∧ W.cell? ⟨g, 2, none⟩ = some c2 ∧ W.cell? ⟨g, 3, none⟩ = some c3) (hb : Below W.heap.size W W') :
    Below a.heap.size a W' ∧ W'.cell? ⟨g, 0, none⟩ = some c0 ∧ W'.cell? ⟨g, 1, none⟩ = some c1 ∧ W'.cell? ⟨g, 2, none⟩ = some c2 ∧ W'.cell? ⟨g, 3, none⟩ = some c3 := by
  have hl : g < W.heap.size := cell_lt' h.2.1
  exact ⟨below_tr h.1 hb, (hb.cell (p := ⟨g, 0, none⟩) hl).trans h.2.1, (hb.cell (p := ⟨g, 1, none⟩) hl).trans h.2.2.1, (hb.cell (p := ⟨g, 2, none⟩) hl).trans h.2.2.2.1, (hb.cell (p := ⟨g, 3, none⟩) hl).trans h.2.2.2.2⟩
theorem reads_blk4' {w : World} {g : Nat} {T : TypeId} {a b c d : Value} (h : Blk w g T #[a, b, c, d]) : Reads w w.heap.size 4 (some ⟨g, 0, none⟩) 1 [a, b, c, d] :=
  ⟨rfl, fun _ => ⟨_, rfl, h.lt, fun j u hj => by
    rw [addr_add0, h.cell j]
    simpa using hj⟩⟩
theorem of6 {W : World} {b : Nat} {x : Ex} (hx : ExOk a a.heap.size x) (hS : Below a.heap.size a W ∧ W.cell? ⟨g, 0, none⟩ = some c0 ∧ W.cell? ⟨g, 1, none⟩ = some c1 ∧ W.cell? ⟨g, 2, none⟩ = some c2 ∧ W.cell? ⟨g, 3, none⟩ = some c3) (hb : Blk W b 40 (exC x).toArray) :
    Calls Tryz.prog 9 #[.slice (some ⟨b, 0, none⟩) 1 1] W fun e w' => ∃ A' c', e = .returned (.slice A' 1 c') ∧ Exs w' A' 1 [x] ∧ (Below a.heap.size a w' ∧ w'.cell? ⟨g, 0, none⟩ = some c0 ∧ w'.cell? ⟨g, 1, none⟩ = some c1 ∧ w'.cell? ⟨g, 2, none⟩ = some c2 ∧ w'.cell? ⟨g, 3, none⟩ = some c3) := by
  have hE : Exs W (some ⟨b, 0, none⟩) 1 [x] := Exs.one (reads_blk4' hb) (hx.be hS.1)
  refine (aof_any (some ⟨b, 0, none⟩) 1 1 [x] W (by omega) hE).mono fun e w' hp => ?_
  obtain ⟨A', c', rfl, ho, hB⟩ := hp
  exact ⟨A', c', rfl, ⟨Reads.of_own ho, fun y hy => ((hE.be hB).ok y hy)⟩, s6_be hS hB⟩
theorem same6 {W : World} {A' A2 : Option Addr} {c' c2' : Nat} {x y : Ex} (hy : Exs a A2 1 [y]) (hxy : eqL [x] [y] = true) (hS : Below a.heap.size a W ∧ W.cell? ⟨g, 0, none⟩ = some c0 ∧ W.cell? ⟨g, 1, none⟩ = some c1 ∧ W.cell? ⟨g, 2, none⟩ = some c2 ∧ W.cell? ⟨g, 3, none⟩ = some c3) (hA : Exs W A' 1 [x]) :
    Calls Tryz.prog 8 #[.slice A' 1 c', .slice A2 1 c2'] W fun e w' => e = .returned (.bool true) ∧ (Below a.heap.size a w' ∧ w'.cell? ⟨g, 0, none⟩ = some c0 ∧ w'.cell? ⟨g, 1, none⟩ = some c1 ∧ w'.cell? ⟨g, 2, none⟩ = some c2 ∧ w'.cell? ⟨g, 3, none⟩ = some c3) := by
  refine (rsames_any A' A2 1 c' 1 c2' [x] [y] W (by omega) (by omega) hA (hy.be hS.1)).mono fun e w' hp => ?_
  obtain ⟨rfl, hB⟩ := hp
  rw [hxy]
  exact ⟨rfl, s6_be hS (below_of_drewN hB)⟩
end


end Go.Proofs.YticcphppnmoogaaGreatDoor
