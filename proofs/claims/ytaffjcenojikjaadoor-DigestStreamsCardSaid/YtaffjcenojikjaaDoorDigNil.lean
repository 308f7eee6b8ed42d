/-
  The contract of the law's known(), and the walk of the law DigestNil.
-/
import Derived.Test.YtaffjcenojikjaaDoorDigHex
import Derived.Lib.SlBytesConst
import Derived.Test.YtaffjcenojikjaaDoorWordsI
namespace Go.Proofs.YtaffjcenojikjaaDoor
open Go.RowKit
attribute [local go_sem ↓] Go.wp_at_zero Go.wp_at_succ

theorem shaF_lt (cs : List Nat) : ∀ x ∈ shaF cs, x < 256 := by
  intro x hx
  simp only [shaF, sumF, bytesF, List.mem_map] at hx
  obtain ⟨i, -, rfl⟩ := hx
  exact Nat.mod_lt _ (by decide)
set_option maxRecDepth 100000 in
theorem hex0 : hexS (shaF []) = ⟨#[101, 51, 98, 48, 99, 52, 52, 50, 57, 56, 102, 99, 49, 99, 49, 52, 57, 97, 102, 98, 102, 52, 99, 56, 57, 57, 54, 102, 98, 57, 50, 52, 50, 55, 97, 101, 52, 49, 101, 52, 54, 52, 57, 98, 57, 51, 52, 99, 97, 52, 57, 53, 57, 57, 49, 98, 55, 56, 53, 50, 98, 56, 53, 53]⟩ := by
  rw [sha0]; rfl
set_option maxRecDepth 100000 in
theorem hexabc : hexS (shaF [97, 98, 99]) = ⟨#[98, 97, 55, 56, 49, 54, 98, 102, 56, 102, 48, 49, 99, 102, 101, 97, 52, 49, 52, 49, 52, 48, 100, 101, 53, 100, 97, 101, 50, 50, 50, 51, 98, 48, 48, 51, 54, 49, 97, 51, 57, 54, 49, 55, 55, 97, 57, 99, 98, 52, 49, 48, 102, 102, 54, 49, 102, 50, 48, 48, 49, 53, 97, 100]⟩ := by
  rw [shaabc]; rfl

theorem add_zero' (g j : Nat) : (⟨g, 0, none⟩ : Addr).add j = ⟨g, j, none⟩ := by unfold Addr.add; split <;> simp_all
theorem rd_cells {w : World} {S : Nat → Prop} {g : Nat} {l : List Nat} (hS : S g) (h : ∀ j, j < l.length → w.cell? ⟨g, j, none⟩ = some (.int .u8 ((l.getD j 0 : Nat) : Int))) : RdS w S (some ⟨g, 0, none⟩) l := fun j hj =>
  ⟨_, rfl, hS, by rw [add_zero']; exact h j hj⟩

theorem conv2 (w : World) (o : Obj) (C : Array Value) (n c : Nat) : (convert 23 23 (.slice (some ⟨w.heap.size + 1, 0, none⟩) n c)).run Tryd.prog ((w.alloc o).alloc (.cells C 5)) =
    .ok (.slice (some ⟨w.heap.size + 1, 0, none⟩) n c) ((w.alloc o).alloc (.cells C 5 (C.size, C.size + 1))) := by
  have := Lib.run_convert_bytes_const (P := Tryd.prog) (w.alloc o) 23 5 C n c Tryd.underlying23 Tryd.underlying5
  rwa [show (w.alloc o).heap.size = w.heap.size + 1 by simp] at this

theorem known_world (w2 : World) : ∃ w3, (((w2.alloc (.cells #[.int .u8 97] 5 (1, 2))).alloc (.cells #[.int .u8 98, .int .u8 99] 5 (2, 3))).alloc
    (.cells #[.slice (some ⟨w2.heap.size, 0, none⟩) 1 1, .slice (some ⟨w2.heap.size + 1, 0, none⟩) 2 2] 23)) = w3 ∧ w3.cell? ⟨w2.heap.size, 0, none⟩ = some (.int .u8 97) ∧ w3.cell? ⟨w2.heap.size + 1, 0, none⟩ = some (.int .u8 98) ∧
    w3.cell? ⟨w2.heap.size + 1, 1, none⟩ = some (.int .u8 99) ∧ w3.cell? ⟨w2.heap.size + 2, 0, none⟩ = some (.slice (some ⟨w2.heap.size, 0, none⟩) 1 1) ∧ w3.cell? ⟨w2.heap.size + 2, 1, none⟩ = some (.slice (some ⟨w2.heap.size + 1, 0, none⟩) 2 2) ∧
    w3.heap.size = w2.heap.size + 3 := by
  refine ⟨_, rfl, ?_, ?_, ?_, ?_, ?_, ?_⟩ <;> simp [World.cell?, World.alloc, Array.getElem?_push, Array.getElem_push, -World.alloc_eq]
  rw [if_neg (by omega)]
  rfl

set_option maxRecDepth 100000 in
set_option maxHeartbeats 4000000 in
theorem known_any (w : World) (hT : Tabs w) : Calls Tryd.prog 14 #[] w fun e w' => e = .returned (.bool true) ∧ Below w.heap.size w w' := by
  have kc := fun (w : World) (C : Array Value) (n c : Nat) => Lib.run_convert_bytes_const (P := Tryd.prog) w 23 5 C n c Tryd.underlying23 Tryd.underlying5
  have kc2 := fun (w : World) (o : Obj) (C : Array Value) (n c : Nat) => conv2 w o C n c
  go_enter Tryd.func14, Tryd.ntmps14
  go_wp2_with fail
  refine (of_any none 0 [] (fun _ => False) _ (by decide) (by decide) hT (fun i hi => by simp at hi) (fun _ h => h.elim)).mono ?_
  rintro e w1 ⟨rfl, hB1⟩
  go_wp2_with fail
  refine (hex_any _ _ (shaF_len _) (shaF_lt _)).mono ?_
  rintro e w2 ⟨rfl, hB2⟩
  have hB := below_tr hB1 hB2
  have hT2 := hT.below hB hT.1
  go_wp2_with fail
  obtain ⟨w3, hw3, a0, a1, a2, a3, a4, hs3⟩ := known_world w2
  have hB3 : Below w.heap.size w w3 := by rw [← hw3]; exact below_al (below_al (below_al hB _) _) _
  rw [hw3]
  have hT3 := hT.below hB3 hT.1
  clear hw3 kc kc2 hB hB1 hB2 hT2
  refine (of_any (some ⟨w2.heap.size + 2, 0, none⟩) 2 [[97], [98, 99]] (fun b => b < w3.heap.size) w3 (by decide) (by decide) hT3 (fun i hi => by
    match i, hi with
    | 0, _ => exact ⟨_, some ⟨w2.heap.size, 0, none⟩, 1, rfl, by show w2.heap.size + 2 < _; omega, by rw [add_zero']; exact a3, rd_cells (by show _ < _; omega) (fun j hj => by
        match j, hj with
        | 0, _ => exact a0)⟩
    | 1, _ => exact ⟨_, some ⟨w2.heap.size + 1, 0, none⟩, 2, rfl, by show w2.heap.size + 2 < _; omega, by rw [add_zero']; exact a4, rd_cells (by show _ < _; omega) (fun j hj => by
        match j, hj with
        | 0, _ => exact a1
        | 1, _ => exact a2)⟩) (fun _ h => h)).mono ?_
  rintro e w4 ⟨rfl, hB4⟩
  have hfl : ([[97], [98, 99]] : List (List Nat)).flatten = [97, 98, 99] := rfl
  rw [hfl]
  clear a0 a1 a2 a3 a4 hfl
  go_wp2_with fail
  refine (hex_any _ _ (shaF_len _) (shaF_lt _)).mono ?_
  rintro e w5 ⟨rfl, hB5⟩
  rw [hexabc, hex0]
  go_wp2_with fail
  go_ret
  exact ⟨rfl, below_tr (below_tr hB3 hB4) hB5⟩

theorem eql_dig (A B : List Nat) (hA : A.length = 32) (hB : B.length = 32) (w : World) : (binOp .eql 37 (.agg (u8s A).toArray) (.agg (u8s B).toArray)).run Tryd.prog w = .ok (.bool (A == B)) w := by
  have := run_eql_arr (P := Tryd.prog) w 37 5 32 .u8 .u8 (A.map fun n : Nat => (n : Int)) (B.map fun n : Nat => (n : Int)) (by simpa using hA) (by simpa using hB) Tryd.underlying37 Tryd.underlying5 info8u
  rw [List.map_map, List.map_map] at this
  have e : ((A.map fun n : Nat => (n : Int)) == (B.map fun n : Nat => (n : Int))) = (A == B) := by
    rw [Bool.eq_iff_iff, beq_iff_eq, beq_iff_eq]
    exact List.map_inj_right (fun a b h => by exact_mod_cast h)
  rw [e] at this
  exact this
theorem sum0 : sumF zS = shaF [] := rfl

set_option maxRecDepth 100000 in
set_option maxHeartbeats 4000000 in
theorem nil_walk (b : Value) (w : World) (hb : ∃ A n c, b = .slice A n c) (hT : Tabs w) : Calls Tryd.prog 4 #[b] w fun e w' => e = .returned (.bool true) ∧ Below w.heap.size w w' := by
  obtain ⟨A, n, c, rfl⟩ := hb
  go_enter Tryd.func4, Tryd.ntmps4
  go_wp2_with fail
  refine (fork_nil _).mono ?_
  rintro e w1 ⟨rfl, hS1, hB1⟩
  have hT1 := hT.below hB1 hT.1
  have hl1 : w.heap.size < w1.heap.size := hS1.lt
  go_wp2_with fail
  refine (known_any _ hT1).mono ?_
  rintro e w2 ⟨rfl, hB2⟩
  have hS2 := Blk.be hS1 hB2
  have hE2 := below_tr hB1 hB2
  clear hS1 hT1 hB1
  go_wp2_with fail
  refine (write_nil _ _).mono ?_
  rintro e w3 ⟨rfl, rfl⟩
  go_wp2_with fail
  refine (len_nil _).mono ?_
  rintro e w3 ⟨rfl, rfl⟩
  go_wp2_with fail
  refine (sum_nil _ (hT.below (below_al hE2 _) hT.1)).mono ?_
  rintro e w3 ⟨rfl, hB3⟩
  have hE3 := below_tr (below_al hE2 _) hB3
  go_wp2_with fail
  refine (of_any none 0 [] (fun _ => False) _ (by decide) (by decide) (hT.below hE3 hT.1) (fun i hi => by simp at hi) (fun _ h => h.elim)).mono ?_
  rintro e w4 ⟨rfl, hB4⟩
  have hE4 := below_tr hE3 hB4
  have hfl : ([] : List (List Nat)).flatten = [] := rfl
  rw [hfl, sum0]
  have heq : ∀ w', (binOp .eql 37 (.agg (u8s (shaF [])).toArray) (.agg (u8s (shaF [])).toArray)).run Tryd.prog w' = .ok (.bool true) w' := fun w' => by
    rw [eql_dig _ _ (shaF_len _) (shaF_len _)]; simp
  have hS4 := (Blk.alloc hS2 (.cells #[.slice A n c] 23)).be hB3 |>.be hB4
  clear hfl
  go_wp2_with fail
  refine (len_any w.heap.size zS _ zS_ok hS4).mono ?_
  rintro e w5 ⟨rfl, rfl⟩
  go_wp2_with fail
  go_ret
  exact ⟨rfl, hE4⟩

end Go.Proofs.YtaffjcenojikjaaDoor
