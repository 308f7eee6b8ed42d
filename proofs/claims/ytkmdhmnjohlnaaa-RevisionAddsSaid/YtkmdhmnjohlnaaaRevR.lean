/-
  The words for the document's packages and revisions.
-/
import Derived.Test.YtkmdhmnjohlnaaaRevTo
namespace Go.Proofs.Ytkmdhmnjohlnaaa
open Go.RowKit

theorem infoRvR : (Try.prog.info? 27).map (·.size) = some 34 := by kernel_rfl
theorem rvInfoR : (Try.prog.info? 27).map (fun i => (i.zero, i.size, i.bytes)) = some (some zeroRv, 34, 48) := by kernel_rfl
section
variable {ops : Array Oper} {rest : List Oper} {op : Oper} {a : Act} {w : World} {Q : Exit → Act → World → Prop} {g : Nat}
/-- A package is loaded out of a block that is known whole. -/
theorem ld_pkR {cs : Array Value} (hB : Blk w g 24 cs) (hgd : op.guard = none) (x : Operand) (ho : op.op = .load 24 x) (hx : a.eval x = .pointer (some ⟨g, 0, none⟩)) (hs : cs.size = 4)
    (h : wpList Try.prog ops Q rest (a.put op.dst (.agg cs)) w) : wpList Try.prog ops Q (op :: rest) a w :=
  wpList_load_row hgd 24 x ho g hx 24 cs (0, 0) _ hB Try.underlying24 rfl (by rw [infoRef, hs]) h
/-- .. is stored into one. -/
theorem st_pkR {cs : Array Value} (hB : Blk w g 24 cs) (hgd : op.guard = none) (x y : Operand) (ho : op.op = .store 24 x y) (s1 s2 : ByteArray) (ac : Int) (A : Option Addr) (n c : Nat)
    (hx : a.eval x = .pointer (some ⟨g, 0, none⟩)) (hy : a.eval y = .agg #[.string s1, .string s2, .int .i64 ac, .slice A n c]) (hs : cs.size = 4)
    (h : ∀ w', Blk w' g 24 #[.string s1, .string s2, .int .i64 ac, .slice A n c] → w.grownBy w' (some g) → w'.heap.size = w.heap.size → wpList Try.prog ops Q rest (a.put op.dst undef) w') : wpList Try.prog ops Q (op :: rest) a w := by
  refine wpList_store_all hgd 24 x y ho g 24 cs.toList [.string s1, .string s2, .int .i64 ac, .slice A n c] hB hx hy (by simp [hs]) infoRef ?_ h
  intro v hv
  simp at hv
  rcases hv with rfl | rfl | rfl | rfl <;> rfl
/-- .. into the block that was just made. -/
theorem st_pknR {w1 : World} (hgd : op.guard = none) (x y : Operand) (ho : op.op = .store 24 x y) (s1 s2 : ByteArray) (ac : Int) (A : Option Addr) (n c : Nat)
    (hx : a.eval x = .pointer (some ⟨w1.heap.size, 0, none⟩)) (hy : a.eval y = .agg #[.string s1, .string s2, .int .i64 ac, .slice A n c])
    (h : ∀ w', Blk w' w1.heap.size 24 #[.string s1, .string s2, .int .i64 ac, .slice A n c] → Below w1.heap.size w1 w' → w'.heap.size = w1.heap.size + 1 → wpList Try.prog ops Q rest (a.put op.dst undef) w') :
    wpList Try.prog ops Q (op :: rest) a (w1.alloc (.cells #[.string { data := #[] }, .string { data := #[] }, .int .i64 0, .slice none 0 0] 24)) := by
  refine wpList_store_fresh hgd 24 x y ho 24 [.string ⟨#[]⟩, .string ⟨#[]⟩, .int .i64 0, .slice none 0 0] [.string s1, .string s2, .int .i64 ac, .slice A n c] _ rfl hx hy rfl infoRef ?_ h
  intro v hv
  simp at hv
  rcases hv with rfl | rfl | rfl | rfl <;> rfl
/-- A revision is loaded out of its block. -/
theorem ld_rvR {r : Rv} (hB : Blk w g 27 (rvC r).toArray) (hgd : op.guard = none) (x : Operand) (ho : op.op = .load 27 x) (hx : a.eval x = .pointer (some ⟨g, 0, none⟩))
    (h : wpList Try.prog ops Q rest (a.put op.dst (.agg (rvC r).toArray)) w) : wpList Try.prog ops Q (op :: rest) a w :=
  wpList_load_row hgd 27 x ho g hx 27 _ (0, 0) _ hB Try.underlying27 rfl (by rw [infoRvR]; simp [rvC_len]) h
/-- .. out of a slice's cells. -/
theorem ld_elR {r : Rv} {ad : Addr} (hld : ∀ j v, (rvC r)[j]? = some v → w.cell? (ad.add j) = some v) (hgd : op.guard = none) (x : Operand) (ho : op.op = .load 27 x) (hx : a.eval x = .pointer (some ad))
    (h : wpList Try.prog ops Q rest (a.put op.dst (.agg (rvC r).toArray)) w) : wpList Try.prog ops Q (op :: rest) a w :=
  wpList_load_at hgd 27 x ho ad hx (rvC r) _ hld Try.underlying27 rfl (by rw [infoRvR, rvC_len]) h
/-- .. is stored into the block that was just made. -/
theorem st_newR {w1 : World} {cs : Array Value} (hcs : cs = (rvC rv0).toArray) (hgd : op.guard = none) (x y : Operand) (ho : op.op = .store 27 x y) (r : Rv)
    (hx : a.eval x = .pointer (some ⟨w1.heap.size, 0, none⟩)) (hy : a.eval y = .agg (rvC r).toArray)
    (h : ∀ w', Blk w' w1.heap.size 27 (rvC r).toArray → Below w1.heap.size w1 w' → w'.heap.size = w1.heap.size + 1 → wpList Try.prog ops Q rest (a.put op.dst undef) w') :
    wpList Try.prog ops Q (op :: rest) a (w1.alloc (.cells cs 27)) :=
  wpList_store_fresh hgd 27 x y ho 27 (rvC rv0) (rvC r) _ hcs hx hy (by simp [rvC_len]) (by rw [infoRvR, rvC_len]) (rvC_one r) h
/-- .. is stored over another. -/
theorem st_rvR {r0 : Rv} (hB : Blk w g 27 (rvC r0).toArray) (hgd : op.guard = none) (x y : Operand) (ho : op.op = .store 27 x y) (r : Rv)
    (hx : a.eval x = .pointer (some ⟨g, 0, none⟩)) (hy : a.eval y = .agg (rvC r).toArray)
    (h : ∀ w', Blk w' g 27 (rvC r).toArray → w.grownBy w' (some g) → w'.heap.size = w.heap.size → wpList Try.prog ops Q rest (a.put op.dst undef) w') : wpList Try.prog ops Q (op :: rest) a w :=
  wpList_store_all hgd 27 x y ho g 27 (rvC r0) (rvC r) hB hx hy (by simp [rvC_len]) (by rw [infoRvR, rvC_len]) (rvC_one r) h
end

theorem reads_oneR (w : World) (r : Rv) : Reads (w.alloc (.cells (rvC r).toArray 27)) (w.heap.size + 1) 34 (some ⟨w.heap.size, 0, none⟩) 1 (rvC r) := by
  refine ⟨by rw [rvC_len], fun _ => ⟨_, rfl, by simp, fun j u hj => ?_⟩⟩
  have hadd : (⟨w.heap.size, 0, none⟩ : Addr).add j = ⟨w.heap.size, j, none⟩ := by unfold Addr.add; split <;> simp_all
  rw [hadd, (Blk.new w _ _).cell j]
  simpa using hj


theorem build_rvR (r : Rv) (w : World) : Sem.run Try.prog (Instr.build 27 #[(0, .int .i64 r.no), (1, .agg (r.seal_.map (Value.int .u8)).toArray), (2, .int .i64 r.size)]) w = .ok (.agg (rvC r).toArray) w := by
  have h := r.h
  go_simp
  rw [fold_seal r _ (.int .i64 r.no) (.int .i64 0) (by rfl)]
  rw [if_neg (by simp [h])]
  have e : ((Value.int .i64 r.no :: (r.seal_.map (Value.int .u8) ++ [.int .i64 0])).toArray).setIfInBounds 33 (.int .i64 r.size) = (rvC r).toArray := by
    unfold rvC
    rw [List.setIfInBounds_toArray]
    congr 1
    rw [List.set_cons_succ, List.set_append_right _ _ (by simp [h])]
    simp [h]
  rw [e]
  rfl


end Go.Proofs.Ytkmdhmnjohlnaaa
