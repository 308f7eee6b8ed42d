/-
  The contracts of slices.Clone at revisions, copied, checked.
-/
import Derived.Test.YtkmdhmnjohlnaaaRevB
import Derived.Lib.SliceRun
namespace Go.Proofs.Ytkmdhmnjohlnaaa
open Go.RowKit

def zeroRv : Value := .agg (rvC rv0).toArray
theorem rvInfo : (Try.prog.info? 36).map (fun i => (i.zero, i.size, i.bytes)) = some (some zeroRv, 34, 48) := by kernel_rfl

theorem fold_put : ∀ (l : List Value) (k : Nat) (cs : Array Value), k + l.length = cs.size → (l.zipIdx k).foldl (fun cs x => cs.setIfInBounds x.snd x.fst) cs = (cs.toList.take k ++ l).toArray
  | [], k, cs, h => by
    have hk : cs.toList.take k = cs.toList := List.take_of_length_le (by simp at h; simp; omega)
    simp only [List.zipIdx_nil, List.foldl_nil, List.append_nil]
    rw [hk]
  | v :: l, k, cs, h => by
    have hlen : (v :: l).length = l.length + 1 := rfl
    rw [List.zipIdx_cons, List.foldl_cons, fold_put l (k + 1) _ (by simp; omega)]
    have h1 : (cs.setIfInBounds k v).toList.take (k + 1) = cs.toList.take k ++ [v] := by
      rw [Array.toList_setIfInBounds, List.take_succ_eq_append_getElem (by simp; omega), List.take_set_of_le (Nat.le_refl _)]
      simp
    rw [h1]; simp
theorem fold_rv (r : Rv) (cs : Array Value) (h : cs.size = 34) : (rvC r).zipIdx.foldl (fun cs x => cs.setIfInBounds x.snd x.fst) cs = (rvC r).toArray := by
  rw [fold_put (rvC r) 0 cs (by rw [rvC_len, h])]; simp

theorem own_mono {w : World} {b b' : Nat} {e : TypeId} {size n : Nat} {v : Value} {xs : List Value} (h : w.ownsRow b e size v n xs) (hb : b' ≤ b) : w.ownsRow b' e size v n xs := by
  refine ⟨h.1, ?_⟩
  rcases h.2 with h | ⟨g, cap, cur, h1, h2, h3⟩
  · exact .inl h
  · exact .inr ⟨g, cap, cur, h1, by omega, h3⟩

theorem clone_any (A : Option Addr) (n c : Nat) (l : List Rv) (w : World) (hn : n ≤ 1000000) (hR : Reads w w.heap.size 34 A n (revC l)) :
    Calls Try.prog 45 #[.slice A n c] w fun e w' => ∃ v', e = .returned v' ∧ w'.ownsRow w.heap.size 36 34 v' n (revC l) ∧ Below w.heap.size w w' := by
  have q : ∀ (w : World) (a : Option Addr) (n c n' c' : Nat), (binOp .eql 28 (.slice a n c) (.slice none n' c')).run Try.prog w = .ok (.bool a.isNone) w := fun w a n c n' c' => Lib.run_eql_slice_nil w _ _ a n c n' c' Try.underlying28
  obtain ⟨i0, hi0, hz0, hz1, hz2⟩ := info_parts rvInfo
  have hl := reads_n hR
  cases A with
  | none =>
    have h0 : n = 0 := by
      rcases Nat.eq_zero_or_pos n with h | h
      · exact h
      · obtain ⟨ad, h, _⟩ := hR.2 h; cases h
    subst h0
    obtain rfl : l = [] := List.eq_nil_of_length_eq_zero hl
    clear hR
    go_enter Try.func45, Try.ntmps45
    go_wp2
    go_ret
    exact ⟨_, rfl, World.ownsRow_nil _ _ _ _, Below.refl _ _⟩
  | some ad =>
    have HR := Sl.mk (hR.alloc (Nat.le_refl _) (.cells #[] 36))
    clear hR
    go_enter Try.func45, Try.ntmps45
    go_wp2_with (at_builtin; refine wpList_append_anyG _ rfl (.tmp 5) (.tmp 6) 28 rfl w.heap.size 36 i0 zeroRv 34 48 Try.underlying28 hi0 hz0 hz1 hz2 (by rfl) (by decide) _ _ _ rfl (own_empty w _ 34) w.heap.size _ _ _ _ rfl HR.out (revC_one l) (by unfold maxLen; omega) (by omega) (by simp) ?_)
    intro v1 w1 hown hg hb
    go_wp2_with fail
    go_ret
    refine ⟨_, rfl, by simpa using hown, (below_al (Below.refl _ _) _).grown hg (by simp) (fun x hx => by simp [Value.ownBlock] at hx; omega)⟩

theorem infoPk : (Try.prog.info? 30).map (·.size) = some 4 := by kernel_rfl
/-- A whole row stored over a whole row. -/
theorem wpList_store_all {P : Program} {ops : Array Oper} {rest : List Oper} {op : Oper} {a : Act} {w : World} {Q : Exit → Act → World → Prop} (hgd : op.guard = none) (ty : TypeId) (x y : Operand) (ho : op.op = .store ty x y)
    (g : Nat) (t : TypeId) (l vs : List Value) (hB : Blk w g t l.toArray) (hx : a.eval x = .pointer (some ⟨g, 0, none⟩)) (hy : a.eval y = .agg vs.toArray)
    (hl : vs.length = l.length) (hi : (P.info? ty).map (·.size) = some vs.length) (h1 : ∀ v ∈ vs, v.oneCell' = true)
    (h : ∀ w', Blk w' g t vs.toArray → w.grownBy w' (some g) → w'.heap.size = w.heap.size → wpList P ops Q rest (a.put op.dst undef) w') : wpList P ops Q (op :: rest) a w := by
  refine wpList_store_blk hgd ty x y ho g 0 t l vs hB hx hy (by omega) hi h1 fun w' h2 h3 h4 => ?_
  have e : l.take 0 ++ vs ++ l.drop (0 + vs.length) = vs := by simp [hl]
  rw [e] at h2
  exact h w' h2 h3 h4
section
variable {ops : Array Oper} {rest : List Oper} {op : Oper} {a : Act} {w : World} {Q : Exit → Act → World → Prop} {g : Nat}
/-- A package is loaded out of a block that is known whole. -/
theorem ld_pk {cs : Array Value} (hB : Blk w g 30 cs) (hgd : op.guard = none) (x : Operand) (ho : op.op = .load 30 x) (hx : a.eval x = .pointer (some ⟨g, 0, none⟩)) (hs : cs.size = 4)
    (h : wpList Try.prog ops Q rest (a.put op.dst (.agg cs)) w) : wpList Try.prog ops Q (op :: rest) a w :=
  wpList_load_row hgd 30 x ho g hx 30 cs (0, 0) _ hB Try.underlying30 rfl (by rw [infoPk, hs]) h
/-- .. is stored into one. -/
theorem st_pk {cs : Array Value} (hB : Blk w g 30 cs) (hgd : op.guard = none) (x y : Operand) (ho : op.op = .store 30 x y) (s1 s2 : ByteArray) (ac : Int) (A : Option Addr) (n c : Nat)
    (hx : a.eval x = .pointer (some ⟨g, 0, none⟩)) (hy : a.eval y = .agg #[.string s1, .string s2, .int .i64 ac, .slice A n c]) (hs : cs.size = 4)
    (h : ∀ w', Blk w' g 30 #[.string s1, .string s2, .int .i64 ac, .slice A n c] → w.grownBy w' (some g) → w'.heap.size = w.heap.size → wpList Try.prog ops Q rest (a.put op.dst undef) w') : wpList Try.prog ops Q (op :: rest) a w := by
  refine wpList_store_all hgd 30 x y ho g 30 cs.toList [.string s1, .string s2, .int .i64 ac, .slice A n c] hB hx hy (by simp [hs]) infoPk ?_ h
  intro v hv
  simp at hv
  rcases hv with rfl | rfl | rfl | rfl <;> rfl
/-- .. into the block that was just made. -/
theorem st_pkn {w1 : World} (hgd : op.guard = none) (x y : Operand) (ho : op.op = .store 30 x y) (s1 s2 : ByteArray) (ac : Int) (A : Option Addr) (n c : Nat)
    (hx : a.eval x = .pointer (some ⟨w1.heap.size, 0, none⟩)) (hy : a.eval y = .agg #[.string s1, .string s2, .int .i64 ac, .slice A n c])
    (h : ∀ w', Blk w' w1.heap.size 30 #[.string s1, .string s2, .int .i64 ac, .slice A n c] → Below w1.heap.size w1 w' → w'.heap.size = w1.heap.size + 1 → wpList Try.prog ops Q rest (a.put op.dst undef) w') :
    wpList Try.prog ops Q (op :: rest) a (w1.alloc (.cells #[.string { data := #[] }, .string { data := #[] }, .int .i64 0, .slice none 0 0] 30)) := by
  refine wpList_store_fresh hgd 30 x y ho 30 [.string ⟨#[]⟩, .string ⟨#[]⟩, .int .i64 0, .slice none 0 0] [.string s1, .string s2, .int .i64 ac, .slice A n c] _ rfl hx hy rfl infoPk ?_ h
  intro v hv
  simp at hv
  rcases hv with rfl | rfl | rfl | rfl <;> rfl
/-- A revision is loaded out of its block. -/
theorem ld_rv {r : Rv} (hB : Blk w g 36 (rvC r).toArray) (hgd : op.guard = none) (x : Operand) (ho : op.op = .load 36 x) (hx : a.eval x = .pointer (some ⟨g, 0, none⟩))
    (h : wpList Try.prog ops Q rest (a.put op.dst (.agg (rvC r).toArray)) w) : wpList Try.prog ops Q (op :: rest) a w :=
  wpList_load_row hgd 36 x ho g hx 36 _ (0, 0) _ hB Try.underlying36 rfl (by rw [infoRv]; simp [rvC_len]) h
/-- .. out of a slice's cells. -/
theorem ld_el {r : Rv} {ad : Addr} (hld : ∀ j v, (rvC r)[j]? = some v → w.cell? (ad.add j) = some v) (hgd : op.guard = none) (x : Operand) (ho : op.op = .load 36 x) (hx : a.eval x = .pointer (some ad))
    (h : wpList Try.prog ops Q rest (a.put op.dst (.agg (rvC r).toArray)) w) : wpList Try.prog ops Q (op :: rest) a w :=
  wpList_load_at hgd 36 x ho ad hx (rvC r) _ hld Try.underlying36 rfl (by rw [infoRv, rvC_len]) h
/-- .. is stored into the block that was just made. -/
theorem st_new {w1 : World} {cs : Array Value} (hcs : cs = (rvC rv0).toArray) (hgd : op.guard = none) (x y : Operand) (ho : op.op = .store 36 x y) (r : Rv)
    (hx : a.eval x = .pointer (some ⟨w1.heap.size, 0, none⟩)) (hy : a.eval y = .agg (rvC r).toArray)
    (h : ∀ w', Blk w' w1.heap.size 36 (rvC r).toArray → Below w1.heap.size w1 w' → w'.heap.size = w1.heap.size + 1 → wpList Try.prog ops Q rest (a.put op.dst undef) w') :
    wpList Try.prog ops Q (op :: rest) a (w1.alloc (.cells cs 36)) :=
  wpList_store_fresh hgd 36 x y ho 36 (rvC rv0) (rvC r) _ hcs hx hy (by simp [rvC_len]) (by rw [infoRv, rvC_len]) (rvC_one r) h
/-- .. is stored over another. -/
theorem st_rv {r0 : Rv} (hB : Blk w g 36 (rvC r0).toArray) (hgd : op.guard = none) (x y : Operand) (ho : op.op = .store 36 x y) (r : Rv)
    (hx : a.eval x = .pointer (some ⟨g, 0, none⟩)) (hy : a.eval y = .agg (rvC r).toArray)
    (h : ∀ w', Blk w' g 36 (rvC r).toArray → w.grownBy w' (some g) → w'.heap.size = w.heap.size → wpList Try.prog ops Q rest (a.put op.dst undef) w') : wpList Try.prog ops Q (op :: rest) a w :=
  wpList_store_all hgd 36 x y ho g 36 (rvC r0) (rvC r) hB hx hy (by simp [rvC_len]) (by rw [infoRv, rvC_len]) (rvC_one r) h
end
theorem pk_one {s1 s2 : ByteArray} {a : Int} {A : Option Addr} {n c : Nat} : ∀ v ∈ [Value.string s1, .string s2, .int .i64 a, .slice A n c], v.oneCell' = true := by
  intro v hv
  simp at hv
  rcases hv with rfl | rfl | rfl | rfl <;> rfl

set_option maxHeartbeats 1000000 in
theorem copied_any (s1 s2 : ByteArray) (a : Int) (A : Option Addr) (n c : Nat) (l : List Rv) (w : World) (hn : n ≤ 1000000) (hR : Reads w w.heap.size 34 A n (revC l)) :
    Calls Try.prog 40 #[.agg #[.string s1, .string s2, .int .i64 a, .slice A n c]] w fun e w' => ∃ A' c', e = .returned (.agg #[.string s1, .string s2, .int .i64 a, .slice A' n c']) ∧ w'.ownsRow w.heap.size 36 34 (.slice A' n c') n (revC l) ∧ Below w.heap.size w w' := by
  have hR2 := ((hR.alloc (Nat.le_refl _) (.cells #[.string s1, .string s2, .int .i64 a, .slice A n c] 30)).more (by simp)).alloc (Nat.le_refl _) (.cells #[.string { data := #[] }, .string { data := #[] }, .int .i64 0, .slice none 0 0] 30)
  have hX := (Blk.new w 30 #[.string s1, .string s2, .int .i64 a, .slice A n c]).alloc (.cells #[.string { data := #[] }, .string { data := #[] }, .int .i64 0, .slice none 0 0] 30)
  have hZ := Blk.new (w.alloc (.cells #[.string s1, .string s2, .int .i64 a, .slice A n c] 30)) 30 #[.string { data := #[] }, .string { data := #[] }, .int .i64 0, .slice none 0 0]
  have hB := below_al (below_al (Below.refl w.heap.size w) (.cells #[.string s1, .string s2, .int .i64 a, .slice A n c] 30)) (.cells #[.string { data := #[] }, .string { data := #[] }, .int .i64 0, .slice none 0 0] 30)
  have hs : ((w.alloc (.cells #[.string s1, .string s2, .int .i64 a, .slice A n c] 30)).alloc (.cells #[.string { data := #[] }, .string { data := #[] }, .int .i64 0, .slice none 0 0] 30)).heap.size = w.heap.size + 2 := by simp
  rw [show (w.alloc (.cells #[.string s1, .string s2, .int .i64 a, .slice A n c] 30)).heap.size = w.heap.size + 1 by simp] at hZ
  have hR3 := Sl.mk (hR2.more (B' := ((w.alloc (.cells #[.string s1, .string s2, .int .i64 a, .slice A n c] 30)).alloc (.cells #[.string { data := #[] }, .string { data := #[] }, .int .i64 0, .slice none 0 0] 30)).heap.size) (by simp))
  clear hR hR2
  go_enter Try.func40, Try.ntmps40
  go_wp2_with fail
  refine (clone_any A n c l _ hn hR3.out).mono ?_
  rintro e w1 ⟨v, rfl, hown, hB1⟩
  obtain ⟨A', c', rfl⟩ := ownForm hown
  have hX1 := hX.be hB1
  have hZ1 := hZ.be hB1
  have hE1 := below_tr hB hB1
  have hown1 := own_mono (b' := w.heap.size + 2) hown (by omega)
  clear hR3 hX hZ hB hB1 hown hs
  obtain ⟨c0, c1, c2, c3⟩ := hX1.c4
  have f3 := hX1.frozen 3
  have hX2 : Blk (w1.setCell ⟨w.heap.size, 3, none⟩ (.slice A' n c')) w.heap.size 30 [.string s1, .string s2, .int .i64 a, .slice A' n c'].toArray := blk_set _ _ _ _ 3 _ _ hX1 rfl
  have hZ2 : Blk (w1.setCell ⟨w.heap.size, 3, none⟩ (.slice A' n c')) (w.heap.size + 1) 30 [.string { data := #[] }, .string { data := #[] }, .int .i64 0, .slice none 0 0].toArray := hZ1.far (by simp) _
  have hE2 : Below w.heap.size w (w1.setCell ⟨w.heap.size, 3, none⟩ (.slice A' n c')) := below_only hE1 (only_setCell (only_refl _ _) 3 _) hE1.size (Nat.le_refl _)
  have hown2 := hown1.kept (only_setCell (only_refl w1 (some w.heap.size)) 3 (.slice A' n c')) (ownNe hown1 (by omega))
  go_wp2_with (first
    | refine wpList_load_row rfl 30 (.tmp 1) rfl _ rfl 30 _ (0, 0) _ hX2 Try.underlying30 rfl infoPk ?_
    | refine wpList_store_all rfl 30 (.tmp 2) (.tmp 7) rfl _ _ _ _ hZ2 rfl rfl rfl infoPk pk_one ?_)
  intro w3 hZ3 hG3 _
  have hown3 := hown2.kept hG3 (ownNe hown2 (by omega))
  have hE3 := below_only hE2 hG3 hE2.size (by omega)
  go_wp2_with fail
  refine bodyPost_ret (v := .agg #[.string s1, .string s2, .int .i64 a, .slice A' n c']) (res_cell Try.results40 _ _ _ rfl hZ3 Try.underlying30 infoPk) rfl ?_
  exact ⟨_, _, rfl, own_mono hown3 (by omega), hE3⟩

/-- What checked comes to. -/
def ChkPost (w : World) (s1 s2 : ByteArray) (a : Int) (n : Nat) (l : List Rv) (e : Ending) (w' : World) : Prop :=
  Below w.heap.size w w' ∧
    ((checkF s1 s2 a l ≠ 0 ∧ e = .returned (.tuple #[.agg #[.string ⟨#[]⟩, .string ⟨#[]⟩, .int .i64 0, .slice none 0 0], .int .i64 (checkF s1 s2 a l)])) ∨
     (checkF s1 s2 a l = 0 ∧ ∃ A' c', e = .returned (.tuple #[.agg #[.string s1, .string s2, .int .i64 a, .slice A' n c'], .int .i64 0]) ∧ w'.ownsRow w.heap.size 36 34 (.slice A' n c') n (revC l)))

set_option maxHeartbeats 1000000 in
theorem checked_any (s1 s2 : ByteArray) (a : Int) (A : Option Addr) (n c : Nat) (l : List Rv) (w : World) (h1 : s1.size ≤ 9223372036854775807) (h2 : s2.size ≤ 9223372036854775807) (hn : n ≤ 1000000) (hR : Reads w w.heap.size 34 A n (revC l)) :
    Calls Try.prog 28 #[.agg #[.string s1, .string s2, .int .i64 a, .slice A n c]] w (ChkPost w s1 s2 a n l) := by
  have hR2 := ((hR.alloc (Nat.le_refl _) (.cells #[.string s1, .string s2, .int .i64 a, .slice A n c] 30)).more (by simp)).alloc (Nat.le_refl _) (.cells #[.string { data := #[] }, .string { data := #[] }, .int .i64 0, .slice none 0 0] 30)
  have hX := (Blk.new w 30 #[.string s1, .string s2, .int .i64 a, .slice A n c]).alloc (.cells #[.string { data := #[] }, .string { data := #[] }, .int .i64 0, .slice none 0 0] 30)
  have hZ := Blk.new (w.alloc (.cells #[.string s1, .string s2, .int .i64 a, .slice A n c] 30)) 30 #[.string { data := #[] }, .string { data := #[] }, .int .i64 0, .slice none 0 0]
  have hB := below_al (below_al (Below.refl w.heap.size w) (.cells #[.string s1, .string s2, .int .i64 a, .slice A n c] 30)) (.cells #[.string { data := #[] }, .string { data := #[] }, .int .i64 0, .slice none 0 0] 30)
  have hs : ((w.alloc (.cells #[.string s1, .string s2, .int .i64 a, .slice A n c] 30)).alloc (.cells #[.string { data := #[] }, .string { data := #[] }, .int .i64 0, .slice none 0 0] 30)).heap.size = w.heap.size + 2 := by simp
  rw [show (w.alloc (.cells #[.string s1, .string s2, .int .i64 a, .slice A n c] 30)).heap.size = w.heap.size + 1 by simp] at hZ
  obtain ⟨w0, hw0⟩ : ∃ w0, (w.alloc (.cells #[.string s1, .string s2, .int .i64 a, .slice A n c] 30)).alloc (.cells #[.string { data := #[] }, .string { data := #[] }, .int .i64 0, .slice none 0 0] 30) = w0 := ⟨_, rfl⟩
  have hR3 := Sl.mk (hR2.more (B' := ((w.alloc (.cells #[.string s1, .string s2, .int .i64 a, .slice A n c] 30)).alloc (.cells #[.string { data := #[] }, .string { data := #[] }, .int .i64 0, .slice none 0 0] 30)).heap.size) (by simp))
  clear hR hR2
  rw [hw0] at hX hZ hB hs hR3
  go_enter Try.func28, Try.ntmps28
  go_wp2_with (refine wpList_load_row rfl 30 (.tmp 1) rfl w.heap.size rfl 30 #[.string s1, .string s2, .int .i64 a, .slice A n c] (0, 0) _ hX Try.underlying30 rfl infoPk ?_)
  clear hw0
  refine (check_any s1 s2 a A n c l _ h1 h2 (by omega) hR3.out).mono ?_
  rintro e w1 ⟨rfl, hB1⟩
  have hR1 := Sl.mk ((hR3.out.below hB1).more hB1.size)
  have hX1 := hX.be hB1
  have hZ1 := hZ.be hB1
  have hE1 := below_tr hB hB1
  have hs1 := hB1.size
  rw [hs] at hs1
  clear hR3 hX hZ hB hB1 hs
  by_cases hC : checkF s1 s2 a l = 0
  · have HC := Sl.mk hC
    rw [hC]
    clear hC
    go_wp2_with (refine wpList_load_row rfl 30 (.tmp 1) rfl w.heap.size rfl 30 #[.string s1, .string s2, .int .i64 a, .slice A n c] (0, 0) _ hX1 Try.underlying30 rfl infoPk ?_)
    refine (copied_any s1 s2 a A n c l _ hn hR1.out).mono ?_
    rintro e w2 ⟨A', c', rfl, hown, hB2⟩
    have hZ2 := hZ1.be hB2
    have hE2 := below_tr hE1 hB2
    have hown2 := own_mono hown hs1
    clear hZ1 hX1 hE1 hown hB2 hs1 hR1
    go_wp2_with (refine wpList_store_all rfl 30 (.tmp 2) (.tmp 12) rfl _ _ [.string ⟨#[]⟩, .string ⟨#[]⟩, .int .i64 0, .slice none 0 0] _ hZ2 rfl rfl rfl infoPk pk_one ?_)
    intro w3 hZ3 hG3 _
    have hown3 := hown2.kept hG3 (ownNe hown2 (by omega))
    have hE3 := below_only hE2 hG3 hE2.size (by omega)
    go_wp2_with fail
    refine bodyPost_ret (v := .tuple #[.agg #[.string s1, .string s2, .int .i64 a, .slice A' n c'], .int .i64 0]) (res_cell_tmp Try.results28 _ _ _ rfl hZ3 Try.underlying30 infoPk rfl) rfl ?_
    exact ⟨hE3, .inr ⟨HC.out, _, _, rfl, own_mono hown3 (by omega)⟩⟩
  · have HC := Sl.mk hC
    have hne : ((checkF s1 s2 a l : Nat) : Int) ≠ 0 := by omega
    have hne' : (((checkF s1 s2 a l : Nat) : Int) != 0) = true := by simpa using hC
    obtain ⟨E, hE⟩ : ∃ E, ((checkF s1 s2 a l : Nat) : Int) = E := ⟨_, rfl⟩
    have HEE := Sl.mk hE
    rw [hE] at hne hne' ⊢
    clear hC hE hne
    go_wp2_with (refine wpList_store_all rfl 30 (.tmp 2) (.tmp 9) rfl _ _ [.string ⟨#[]⟩, .string ⟨#[]⟩, .int .i64 0, .slice none 0 0] [.string ⟨#[]⟩, .string ⟨#[]⟩, .int .i64 0, .slice none 0 0] hZ1 rfl rfl rfl infoPk pk_one ?_)
    intro w3 hZ3 hG3 _
    have hE3 := below_only hE1 hG3 hE1.size (by omega)
    go_wp2_with fail
    refine bodyPost_ret (v := .tuple #[.agg #[.string ⟨#[]⟩, .string ⟨#[]⟩, .int .i64 0, .slice none 0 0], .int .i64 E]) (res_cell_tmp Try.results28 _ _ _ rfl hZ3 Try.underlying30 infoPk rfl) rfl ?_
    exact ⟨hE3, .inl ⟨HC.out, by rw [HEE.out]⟩⟩

end Go.Proofs.Ytkmdhmnjohlnaaa
