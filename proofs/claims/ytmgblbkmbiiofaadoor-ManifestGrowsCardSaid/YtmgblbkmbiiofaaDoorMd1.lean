/-
  Cutting at a byte and joining with it (plain).
  Words for memory, out of the guide's own page to copy (extra-words): a slice that reads as a list; a block known whole; append onto a row of the call's own.
  More words for memory.
  A struct result that lies in memory, read out of a block that is known whole.
  A contract that hands on the cells which a region that draws its order goes on reading.
  Only one block has turned, and what is new: steps of 'grownBy'. (The first four out of the guide's page of small lemmas.)
  append behind a guard; an empty literal slice.
  Whole arrays into and out of a block that is known whole.
-/
import Derived.Lib.SplitLaws
import Derived.Lib.Strings
import Derived.Lib.Join
import Derived.WalkKit
import Derived.Laws.OwnMore
import Derived.Deep.AppendLies
import Derived.Deep.Draws
import Derived.Laws.Rows
import Derived.Maps.AppendAt
import Derived.RegionTactic
import Derived.OwnWalk
import Derived.Lib.Hide
import Derived.Outline
import Derived.LoopTactic
import Derived.Deep.RegionHeld3
import Derived.Deep.DeepCutAuto
import Derived.Deep.QuietTactic
import Derived.BigQuiet
import Derived.Laws.ResultCell
import Derived.WalkSpells
import Derived.Deep.OwnRows
import Derived.Deep.MidRow
import Derived.Deep.DrawnRows

namespace Go.Proofs.YtmgblbkmbiiofaaDoor

theorem index_cons_eq (c : UInt8) (l : List UInt8) : Lib.index (c :: l) [c] = ((0 : Nat) : Int) := by rw [Lib.index]; simp [List.isPrefixOf]
theorem index_cons_ne {b c : UInt8} (l : List UInt8) (h : b ≠ c) : Lib.index (b :: l) [c] = if Lib.index l [c] == -1 then -1 else Lib.index l [c] + 1 := by
  have hp : ([c] : List UInt8).isPrefixOf (b :: l) = false := by simp [List.isPrefixOf, Ne.symm h]
  rw [Lib.index, hp]; simp
theorem split_nil (c : UInt8) : Lib.split [] [c] = [[]] := by
  unfold Lib.split
  rw [Lib.count_one]; rfl
theorem split_eq (c : UInt8) (l : List UInt8) : Lib.split (c :: l) [c] = [] :: Lib.split l [c] := by
  unfold Lib.split
  rw [Lib.count_cons_eq, Nat.add_comm, Lib.splitK, index_cons_eq]
  simp
theorem split_ne {b c : UInt8} (l : List UInt8) (h : b ≠ c) : ∃ x t, Lib.split l [c] = x :: t ∧ Lib.split (b :: l) [c] = (b :: x) :: t := by
  unfold Lib.split
  rw [Lib.count_cons_ne b c l h]
  by_cases hm : Lib.index l [c] = -1
  · rw [Lib.count_miss hm]
    exact ⟨l, [], rfl, rfl⟩
  · have hge := Lib.index_ge l [c]
    obtain ⟨j, hj⟩ : ∃ j : Nat, Lib.index l [c] = j := ⟨(Lib.index l [c]).toNat, by omega⟩
    have hix' : Lib.index (b :: l) [c] = ((j + 1 : Nat) : Int) := by rw [index_cons_ne l h, if_neg (fun e => hm (beq_iff_eq.1 e)), hj]; omega
    rw [Lib.count_hit (by simp) hj, Nat.add_comm]
    unfold Lib.splitK
    rw [hj, hix']
    have h1 : ¬ (((j : Nat) : Int) == -1) = true := fun e => by have := beq_iff_eq.1 e; omega
    have h2 : ¬ (((j + 1 : Nat) : Int) == -1) = true := fun e => by have := beq_iff_eq.1 e; omega
    rw [if_neg h1, if_neg h2]
    refine ⟨_, _, rfl, ?_⟩
    simp

theorem split_cons (c : UInt8) : ∀ l : List UInt8, ∃ x t, Lib.split l [c] = x :: t
  | [] => ⟨[], [], split_nil c⟩
  | b :: l => by
    by_cases h : b = c
    · subst h; exact ⟨_, _, split_eq b l⟩
    · obtain ⟨x, t, _, h2⟩ := split_ne l h
      exact ⟨_, _, h2⟩
theorem join_split (c : UInt8) : ∀ s : List UInt8, Lib.join (Lib.split s [c]) [c] = s
  | [] => by rw [split_nil]; simp [Lib.join, List.intercalate]
  | b :: l => by
    have ih := join_split c l
    by_cases h : b = c
    · subst h
      rw [split_eq]
      obtain ⟨x, t, e⟩ := split_cons b l
      rw [e] at ih ⊢
      rw [Lib.join_cons] at ih ⊢
      simp only [Lib.joinTail, List.map_cons, List.flatten_cons, List.nil_append, List.cons_append] at ih ⊢
      rw [ih]
    · obtain ⟨x, t, h1, h2⟩ := split_ne l h
      rw [h1] at ih
      rw [h2]
      rw [Lib.join_cons] at ih ⊢
      rw [List.cons_append, ih]

theorem split_app {c : UInt8} (r : List UInt8) : ∀ x : List UInt8, c ∉ x → Lib.split (x ++ c :: r) [c] = x :: Lib.split r [c]
  | [], _ => split_eq c r
  | b :: x, h => by
    simp only [List.mem_cons, not_or] at h
    have ih := split_app r x h.2
    obtain ⟨y, t, h1, h2⟩ := split_ne (x ++ c :: r) (Ne.symm h.1)
    rw [ih] at h1
    injection h1 with e1 e2
    rw [List.cons_append, h2, ← e1, ← e2]
theorem split_one {c : UInt8} : ∀ x : List UInt8, c ∉ x → Lib.split x [c] = [x]
  | [], _ => split_nil c
  | b :: x, h => by
    simp only [List.mem_cons, not_or] at h
    have ih := split_one x h.2
    obtain ⟨y, t, h1, h2⟩ := split_ne x (Ne.symm h.1)
    rw [ih] at h1
    injection h1 with e1 e2
    rw [h2, ← e1, ← e2]
theorem split_join {c : UInt8} : ∀ p : List (List UInt8), p ≠ [] → (∀ x ∈ p, c ∉ x) → Lib.split (Lib.join p [c]) [c] = p
  | [], h, _ => absurd rfl h
  | [x], _, h => by rw [Lib.join_one]; exact split_one x (h x (by simp))
  | x :: y :: p, _, h => by
    have ih := split_join (y :: p) (by simp) (fun z hz => h z (List.mem_cons_of_mem _ hz))
    have e : Lib.join (x :: y :: p) [c] = x ++ c :: Lib.join (y :: p) [c] := by
      rw [Lib.join_cons, Lib.join_cons]
      simp [Lib.joinTail]
    rw [e, split_app _ x (h x (by simp)), ih]

end Go.Proofs.YtmgblbkmbiiofaaDoor

namespace Go.Proofs.YtmgblbkmbiiofaaDoor
open Go.RowKit

theorem block_of_add (a : Addr) (n : Nat) : (a.add n).block = a.block := by unfold Addr.add; split <;> rfl
theorem add_of_add (a : Addr) (i j : Nat) : (a.add i).add j = a.add (i + j) := by
  unfold Addr.add
  by_cases hi : i = 0 <;> by_cases hj : j = 0 <;> simp [hi, hj, Nat.add_assoc]

def Reads (w : World) (B size : Nat) (A : Option Addr) (n : Nat) (xs : List Value) : Prop :=
  xs.length = n * size ∧ (0 < n → ∃ ad, A = some ad ∧ ad.block < B ∧ ∀ j u, xs[j]? = some u → w.cell? (ad.add j) = some u)

section
variable {w w' : World} {B B' size n : Nat} {A : Option Addr} {xs : List Value}
theorem Reads.none_ : Reads w B size A 0 [] := ⟨by simp, fun h => absurd h (by omega)⟩
theorem Reads.at_ {k : Nat} (h : Reads w B 1 A n xs) (hk : k < n) : ∃ ad u, A = some ad ∧ ad.block < B ∧ xs[k]? = some u ∧ w.cell? (ad.add k) = some u := by
  obtain ⟨ad, e, hb, hc⟩ := h.2 (by omega)
  have hl : k < xs.length := by have := h.1; omega
  exact ⟨ad, xs[k], e, hb, List.getElem?_eq_getElem hl, hc k _ (List.getElem?_eq_getElem hl)⟩
theorem Reads.keep (h : Reads w B size A n xs) (hk : ∀ p : Addr, p.block < B → w'.cell? p = w.cell? p) : Reads w' B size A n xs :=
  ⟨h.1, fun hn => by
    obtain ⟨ad, e, hb, hc⟩ := h.2 hn
    exact ⟨ad, e, hb, fun j u hu => (hk _ (by rw [block_of_add]; exact hb)).trans (hc j u hu)⟩⟩
theorem Reads.more (h : Reads w B size A n xs) (hB : B ≤ B') : Reads w B' size A n xs :=
  ⟨h.1, fun hn => by
    obtain ⟨ad, e, hb, hc⟩ := h.2 hn
    exact ⟨ad, e, by omega, hc⟩⟩
theorem Reads.below (h : Reads w B size A n xs) (hb : Below B w w') : Reads w' B size A n xs := h.keep fun _ hp => hb.cell hp
theorem Reads.drew (h : Reads w B size A n xs) : Reads w.drew B size A n xs := h
theorem Reads.drewN (h : Reads w B size A n xs) (k : Nat) : Reads (w.drewN k) B size A n xs := h
theorem Reads.alloc (h : Reads w B size A n xs) (hB : B ≤ w.heap.size) (o : Obj) : Reads (w.alloc o) B size A n xs := h.keep fun p hp => World.cell?_alloc_lt w o p (by omega)
theorem Reads.setCell (h : Reads w B size A n xs) {p : Addr} (hB : B ≤ p.block) (u : Value) : Reads (w.setCell p u) B size A n xs :=
  h.keep fun q hq => World.cell?_setCell_other w p q u (fun e => by subst e; omega)
theorem Reads.grown (h : Reads w B size A n xs) {row : Option Nat} (hg : w.grownBy w' row) (hB : B ≤ w.heap.size) (hr : ∀ g, row = some g → B ≤ g) : Reads w' B size A n xs :=
  h.keep fun p hp => World.cell?_of_block (hg.block p.block (by omega) (fun e => by have := hr _ e.symm; omega))
theorem Reads.cut (h : Reads w B size A n xs) {k cap : Nat} (hk : k ≤ n) (hc : n ≤ cap) :
    Reads w B size (if cap = k then A else A.map (·.add (k * size))) (n - k) (xs.drop (k * size)) := by
  refine ⟨by rw [List.length_drop, h.1, Nat.sub_mul], fun hn => ?_⟩
  obtain ⟨ad, rfl, hb, hcell⟩ := h.2 (by omega)
  rw [if_neg (by omega)]
  refine ⟨ad.add (k * size), rfl, by rw [block_of_add]; exact hb, fun j u hu => ?_⟩
  rw [add_of_add]
  exact hcell _ u (by rw [← hu, List.getElem?_drop])
theorem Reads.of_own {base : Nat} {e : TypeId} {c : Nat} (h : w.ownsRow base e size (.slice A n c) n xs) : Reads w w.heap.size size A n xs := by
  refine ⟨h.1, fun hn => ?_⟩
  obtain ⟨g, cap, hv, _, hlt⟩ := h.form hn
  have hA : A = some ⟨g, 0, none⟩ := by injection hv
  subst hA
  exact ⟨_, rfl, hlt, h.cells (g := g) rfl⟩
end

def Blk (w : World) (g : Nat) (t : TypeId) (cs : Array Value) : Prop := w.heap[g]? = some (.cells cs t (0, 0))

section
variable {w w' : World} {g : Nat} {t : TypeId} {cs : Array Value}
theorem Blk.lt (h : Blk w g t cs) : g < w.heap.size := by
  rcases Nat.lt_or_ge g w.heap.size with hlt | hge
  · exact hlt
  · unfold Blk at h; rw [Array.getElem?_eq_none hge] at h; cases h
theorem Blk.cell (h : Blk w g t cs) (i : Nat) : w.cell? ⟨g, i, none⟩ = cs[i]? := cell_of_row w g i cs t (0, 0) h
theorem Blk.frozen (h : Blk w g t cs) (i : Nat) : w.frozen? ⟨g, i, none⟩ = false := by
  unfold Blk at h
  simp [World.frozen?, h]
theorem Blk.new (w : World) (t : TypeId) (cs : Array Value) : Blk (w.alloc (.cells cs t)) w.heap.size t cs := heap_alloc_new w _
theorem Blk.drew (h : Blk w g t cs) : Blk w.drew g t cs := h
theorem Blk.drewN (h : Blk w g t cs) (n : Nat) : Blk (w.drewN n) g t cs := h
theorem Blk.alloc (h : Blk w g t cs) (o : Obj) : Blk (w.alloc o) g t cs := (Below.heap_alloc w o g h.lt).trans h
theorem Blk.set_ (h : Blk w g t cs) (i : Nat) (u : Value) : Blk (w.setCell ⟨g, i, none⟩ u) g t (cs.setIfInBounds i u) := by
  unfold Blk at h ⊢
  simp [World.setCell, Array.getElem?_modify, h]
theorem Blk.far (h : Blk w g t cs) {p : Addr} (hp : g ≠ p.block) (u : Value) : Blk (w.setCell p u) g t cs := (Below.heap_setCell w p u g hp).trans h
theorem Blk.below {B : Nat} (h : Blk w g t cs) (hb : Below B w w') (hg : g < B) : Blk w' g t cs := (hb.block g hg).trans h
theorem Blk.grown {row : Option Nat} (h : Blk w g t cs) (hb : w.grownBy w' row) (hg : some g ≠ row) : Blk w' g t cs := (hb.block g h.lt hg).trans h
theorem Blk.ne_ {g' : Nat} {t' : TypeId} {cs' : Array Value} (h : Blk w g t cs) (h' : Blk w g' t' cs') (hne : t ≠ t') : g ≠ g' := by
  rintro rfl
  unfold Blk at h h'
  rw [h] at h'
  injection h' with h'
  injection h' with _ ht
  exact hne ht
theorem own_blk_ne {base : Nat} {e : TypeId} {size n : Nat} {v : Value} {xs : List Value} (h : w.ownsRow base e size v n xs) (hg : Blk w g t cs) (hne : e ≠ t) : v.ownBlock ≠ some g := by
  rcases h.2 with ⟨rfl, _⟩ | ⟨g', cap, cur, rfl, _, hh, _⟩
  · simp [Value.ownBlock]
  · intro he
    have : g' = g := by simpa [Value.ownBlock] using he
    subst this
    exact Blk.ne_ (t := e) hh hg hne rfl
end

section
variable {P : Program} (w : World)

theorem run_append_of_nil (base : Nat) (t ty e : TypeId) (i : TypeInfo) (size : Nat) (ht : P.underlying t = some (.slice e)) (hi : P.info? e = some i)
    (v : Value) (n : Nat) (xs : List Value) (hown : w.ownsRow base e size v n xs) (c : Nat) : (Builtin.append_ #[t, t] ty #[v, .slice none 0 c]).run P w = .ok v w := by
  rcases hown.2 with ⟨rfl, rfl⟩ | ⟨g, cap, cur, rfl, _, _, hnc, _⟩
  · simp [Builtin.append_, run_underlying ht, sizeOf, typeInfo, hi, Builtin.lenOf, Builtin.firstCells]
  · simp [Builtin.append_, run_underlying ht, sizeOf, typeInfo, hi, Builtin.lenOf, Builtin.firstCells, hnc, storeCells]

theorem run_append_any (base : Nat) (t ty e : TypeId) (i : TypeInfo) (z : Value) (size bytes : Nat) (ht : P.underlying t = some (.slice e)) (hi : P.info? e = some i) (hz : i.zero = some z)
    (hsize : i.size = size) (hby : i.bytes = bytes) (hzs : z.cells.size = size) (hsz : 0 < size)
    (v : Value) (n : Nat) (xs : List Value) (hown : w.ownsRow base e size v n xs)
    (B : Nat) (A : Option Addr) (m c : Nat) (news : List Value) (hr : Reads w B size A m news) (h1 : ∀ u ∈ news, u.oneCell' = true)
    (h63 : n + m ≤ maxLen) (hbytes : (n + m) * bytes ≤ 140737488355328) (hbase : base ≤ w.heap.size) :
    ∃ v' w', (Builtin.append_ #[t, t] ty #[v, .slice A m c]).run P w = .ok v' w' ∧ w'.ownsRow base e size v' (n + m) (xs ++ news) ∧ w.grownBy w' v.ownBlock ∧
      (v'.ownBlock = v.ownBlock ∨ v'.ownBlock = some w.heap.size) := by
  rcases A with _ | ad
  · have hm : m = 0 := by
      rcases Nat.eq_zero_or_pos m with h0 | h0
      · exact h0
      · obtain ⟨ad, h, _⟩ := hr.2 h0
        cases h
    subst hm
    have hn : news = [] := List.eq_nil_of_length_eq_zero (by simpa using hr.1)
    subst hn
    exact ⟨v, w, run_append_of_nil w base t ty e i size ht hi v n xs hown c, by simpa using hown, World.grownBy.refl w _, .inl rfl⟩
  · have hcells : ∀ j u, news[j]? = some u → w.cell? (ad.add j) = some u := by
      intro j u hu
      rcases Nat.eq_zero_or_pos m with h0 | h0
      · subst h0
        have hn : news = [] := List.eq_nil_of_length_eq_zero (by simpa using hr.1)
        subst hn
        simp at hu
      · obtain ⟨ad', h, _, hc⟩ := hr.2 h0
        injection h with h
        subst h
        exact hc j u hu
    obtain ⟨v', w', hrun, h2, h3, _, h5⟩ := run_append_own_at (P := P) w base t ty e i z size bytes ht hi hz hsize hby hzs hsz v n xs hown ad m c news hr.1 hcells h1 h63 hbytes hbase
    exact ⟨v', w', hrun, h2, h3, h5⟩

theorem wp_append_any {o : Oper} {a : Act} {K : Act → World → Prop} {Q : Exit → Act → World → Prop} (s x : Operand) (t : TypeId)
    (ho : o.op = .call { callee := .builtin .append, args := #[s, x], argTypes := #[t, t] })
    (base : Nat) (e : TypeId) (i : TypeInfo) (z : Value) (size bytes : Nat) (ht : P.underlying t = some (.slice e)) (hi : P.info? e = some i) (hz : i.zero = some z)
    (hsize : i.size = size) (hby : i.bytes = bytes) (hzs : z.cells.size = size) (hsz : 0 < size)
    (v : Value) (n : Nat) (xs : List Value) (hs : a.eval s = v) (hown : w.ownsRow base e size v n xs)
    (B : Nat) (A : Option Addr) (m c : Nat) (news : List Value) (hx : a.eval x = .slice A m c) (hr : Reads w B size A m news) (h1 : ∀ u ∈ news, u.oneCell' = true)
    (h63 : n + m ≤ maxLen) (hbytes : (n + m) * bytes ≤ 140737488355328) (hbase : base ≤ w.heap.size)
    (h : ∀ v' w', w'.ownsRow base e size v' (n + m) (xs ++ news) → w.grownBy w' v.ownBlock → (v'.ownBlock = v.ownBlock ∨ v'.ownBlock = some w.heap.size) → K (a.put o.dst v') w') : o.wp P a w K Q := by
  obtain ⟨v', w', hrun, h2, h3, h4⟩ := run_append_any (P := P) w base t o.type e i z size bytes ht hi hz hsize hby hzs hsz v n xs hown B A m c news hr h1 h63 hbytes hbase
  unfold Oper.wp execOp
  simp only [ho, resolve, invoke, builtin, Sem.run_bind, Sem.run_pure, Result.andThen_ok, List.map_toArray, List.map_cons, List.map_nil, hs, hx, hrun]
  exact h v' w' h2 h3 h4

theorem wpList_append_any {ops : Array Oper} {rest : List Oper} {o : Oper} {a : Act} {Q : Exit → Act → World → Prop} (hgd : o.guard = none) (s x : Operand) (t : TypeId)
    (ho : o.op = .call { callee := .builtin .append, args := #[s, x], argTypes := #[t, t] })
    (base : Nat) (e : TypeId) (i : TypeInfo) (z : Value) (size bytes : Nat) (ht : P.underlying t = some (.slice e)) (hi : P.info? e = some i) (hz : i.zero = some z)
    (hsize : i.size = size) (hby : i.bytes = bytes) (hzs : z.cells.size = size) (hsz : 0 < size)
    (v : Value) (n : Nat) (xs : List Value) (hs : a.eval s = v) (hown : w.ownsRow base e size v n xs)
    (B : Nat) (A : Option Addr) (m c : Nat) (news : List Value) (hx : a.eval x = .slice A m c) (hr : Reads w B size A m news) (h1 : ∀ u ∈ news, u.oneCell' = true)
    (h63 : n + m ≤ maxLen) (hbytes : (n + m) * bytes ≤ 140737488355328) (hbase : base ≤ w.heap.size)
    (h : ∀ v' w', w'.ownsRow base e size v' (n + m) (xs ++ news) → w.grownBy w' v.ownBlock → (v'.ownBlock = v.ownBlock ∨ v'.ownBlock = some w.heap.size) → wpList P ops Q rest (a.put o.dst v') w') : wpList P ops Q (o :: rest) a w :=
  wpList_plain hgd fun _ hK => wp_append_any w s x t ho base e i z size bytes ht hi hz hsize hby hzs hsz v n xs hs hown B A m c news hx hr h1 h63 hbytes hbase fun v' w' h2 h3 h4 => hK _ _ (h v' w' h2 h3 h4)

theorem step_append_any {ops : Array Oper} {o : Oper} {a : Act} {K : Act → World → Prop} {Q : Exit → Act → World → Prop} {E : Prop} (hgd : o.guard = none) (s x : Operand) (t : TypeId)
    (ho : o.op = .call { callee := .builtin .append, args := #[s, x], argTypes := #[t, t] })
    (base : Nat) (e : TypeId) (i : TypeInfo) (z : Value) (size bytes : Nat) (ht : P.underlying t = some (.slice e)) (hi : P.info? e = some i) (hz : i.zero = some z)
    (hsize : i.size = size) (hby : i.bytes = bytes) (hzs : z.cells.size = size) (hsz : 0 < size)
    (v : Value) (n : Nat) (xs : List Value) (hs : a.eval s = v) (hown : w.ownsRow base e size v n xs)
    (B : Nat) (A : Option Addr) (m c : Nat) (news : List Value) (hx : a.eval x = .slice A m c) (hr : Reads w B size A m news) (h1 : ∀ u ∈ news, u.oneCell' = true)
    (h63 : n + m ≤ maxLen) (hbytes : (n + m) * bytes ≤ 140737488355328) (hbase : base ≤ w.heap.size)
    (h : ∀ v' w', w'.ownsRow base e size v' (n + m) (xs ++ news) → w.grownBy w' v.ownBlock → (v'.ownBlock = v.ownBlock ∨ v'.ownBlock = some w.heap.size) → K (a.put o.dst v') w') :
    if Region.wanted o (yielded ops a.tmps) = true then Oper.wp P o a w K Q else E := by
  have hw : Region.wanted o (yielded ops a.tmps) = true := by simp [Region.wanted, hgd]
  rw [if_pos hw]
  exact wp_append_any w s x t ho base e i z size bytes ht hi hz hsize hby hzs hsz v n xs hs hown B A m c news hx hr h1 h63 hbytes hbase h
end

theorem hide {p : Prop} (h : p) : Hid p := h
theorem unhide {p : Prop} (h : Hid p) : p := h
theorem below_al {a w : World} (h : Below a.heap.size a w) (o : Obj) : Below a.heap.size a (w.alloc o) := h.alloc h.size o
theorem below_tr {a b c : World} (h : Below a.heap.size a b) (k : Below b.heap.size b c) : Below a.heap.size a c := h.trans (k.mono h.size)
theorem bcell {W w1 : World} {B : Nat} (hb : Below B W w1) : (∀ b o, b < B → w1.cell? ⟨b, o, none⟩ = W.cell? ⟨b, o, none⟩) ∧ (∀ b o, b < B → w1.frozen? ⟨b, o, none⟩ = W.frozen? ⟨b, o, none⟩) :=
  ⟨fun b o h => hb.cell (p := ⟨b, o, none⟩) h, fun b o h => hb.frozen (p := ⟨b, o, none⟩) h⟩
theorem ret_int {k : IntKind} {a b : Int} (h : a = b) : Ending.returned (.int k a) = .returned (.int k b) := by rw [h]
theorem ret_bool {a b : Bool} (h : a = b) : Ending.returned (.bool a) = .returned (.bool b) := by rw [h]
theorem Blk.new' {w : World} {g : Nat} {t : TypeId} {cs : Array Value} (h : g = w.heap.size) : Blk (w.alloc (.cells cs t)) g t cs := by subst h; exact Blk.new w t cs
theorem reads_cell1 {w : World} {n : Nat} {v : Value} {B : Nat} (h : w.cell? ⟨n, 0, none⟩ = some v) (hn : n < B) : Reads w B 1 (some ⟨n, 0, none⟩) 1 [v] :=
  ⟨rfl, fun _ => ⟨_, rfl, hn, fun j u hj => by
    match j, hj with
    | 0, hj => simp at hj; subst hj; simpa [Addr.add] using h⟩⟩
theorem reads_cell2 {w : World} {n : Nat} {v v2 : Value} {B : Nat} (h : w.cell? ⟨n, 0, none⟩ = some v) (h2 : w.cell? ⟨n, 1, none⟩ = some v2) (hn : n < B) : Reads w B 1 (some ⟨n, 0, none⟩) 2 [v, v2] :=
  ⟨rfl, fun _ => ⟨_, rfl, hn, fun j u hj => by
    match j, hj with
    | 0, hj => simp at hj; subst hj; simpa [Addr.add] using h
    | 1, hj => simp at hj; subst hj; simpa [Addr.add] using h2⟩⟩
theorem Blk.c4 {w : World} {g : Nat} {t : TypeId} {a b c d : Value} (h : Blk w g t #[a, b, c, d]) :
    w.cell? ⟨g, 0, none⟩ = some a ∧ w.cell? ⟨g, 1, none⟩ = some b ∧ w.cell? ⟨g, 2, none⟩ = some c ∧ w.cell? ⟨g, 3, none⟩ = some d :=
  ⟨h.cell 0, h.cell 1, h.cell 2, h.cell 3⟩
theorem sBlk {w : World} {g : Nat} {t : TypeId} {a b c d : Value} (h : Blk w g t #[a, b, c, d]) :
    w.cell? ⟨g, 0, none⟩ = some a ∧ w.cell? ⟨g, 1, none⟩ = some b ∧ w.cell? ⟨g, 2, none⟩ = some c ∧ w.cell? ⟨g, 3, none⟩ = some d ∧ Blk w g t #[a, b, c, d] :=
  ⟨h.cell 0, h.cell 1, h.cell 2, h.cell 3, h⟩
theorem ret_str {a b : ByteArray} (h : a = b) : Ending.returned (.string a) = .returned (.string b) := by rw [h]
theorem reads_new1 (w0 : World) (v : Value) (t : TypeId) {B : Nat} (hB : w0.heap.size < B) : Reads (w0.alloc (.cells #[v] t)) B 1 (some ⟨w0.heap.size, 0, none⟩) 1 [v] :=
  ⟨rfl, fun _ => ⟨_, rfl, hB, fun j u hj => by
    match j, hj with
    | 0, hj => simp at hj; subst hj; simp [Addr.add, World.cell?_alloc_new]⟩⟩
theorem reads_new2 (w0 : World) (v v2 : Value) (t : TypeId) {B : Nat} (hB : w0.heap.size < B) : Reads (w0.alloc (.cells #[v, v2] t)) B 1 (some ⟨w0.heap.size, 0, none⟩) 2 [v, v2] :=
  ⟨rfl, fun _ => ⟨_, rfl, hB, fun j u hj => by
    match j, hj with
    | 0, hj => simp at hj; subst hj; simp [Addr.add, World.cell?_alloc_new]
    | 1, hj => simp at hj; subst hj; simp [Addr.add, World.cell?_alloc_new]⟩⟩
end Go.Proofs.YtmgblbkmbiiofaaDoor

namespace Go.Proofs.YtmgblbkmbiiofaaDoor
open Go.RowKit

theorem reads_take {w : World} {B : Nat} {A : Option Addr} {n k : Nat} {xs : List Value} (h : Reads w B 1 A n xs) (hk : k ≤ n) : Reads w B 1 A k (xs.take k) := by
  have hl := h.1
  refine ⟨by rw [List.length_take]; omega, fun hp => ?_⟩
  obtain ⟨ad, e, hb, hc⟩ := h.2 (by omega)
  refine ⟨ad, e, hb, fun j u hu => hc j u ?_⟩
  rw [List.getElem?_take] at hu
  split at hu
  · exact hu
  · cases hu

end Go.Proofs.YtmgblbkmbiiofaaDoor

namespace Go.Proofs.YtmgblbkmbiiofaaDoor
open Go.RowKit

theorem Blk.be {w w' : World} {g : Nat} {t : TypeId} {cs : Array Value} (h : Blk w g t cs) (hb : Below w.heap.size w w') : Blk w' g t cs := h.below hb h.lt
theorem blk_set (w : World) (g : Nat) (t : TypeId) (cs : Array Value) (i : Nat) (u : Value) (cs' : Array Value) (h : Blk w g t cs) (e : cs.setIfInBounds i u = cs') : Blk (w.setCell ⟨g, i, none⟩ u) g t cs' := by
  subst e; exact h.set_ i u
theorem blk_set4 {w : World} {g : Nat} {t : TypeId} {a b c d a' b' c' d' : Value} (h : Blk w g t #[a, b, c, d]) :
    Blk ((((w.setCell ⟨g, 0, none⟩ a').setCell ⟨g, 1, none⟩ b').setCell ⟨g, 2, none⟩ c').setCell ⟨g, 3, none⟩ d') g t #[a', b', c', d'] :=
  blk_set _ _ _ _ 3 _ _ (blk_set _ _ _ _ 2 _ _ (blk_set _ _ _ _ 1 _ _ (blk_set _ _ _ _ 0 _ _ h rfl) rfl) rfl) rfl

theorem res_cell_tmp {fn : Func} {p u : Tmp} {ty : TypeId} (h : fn.results = #[.cell p ty, .tmp u]) (tmps : Array Value) (P : Program) (w : World) {g : Nat} {t : TypeId} {cs : Array Value} {fs : Array Field} {v : Value}
    (hp : tmps.getD p undef = .pointer (some ⟨g, 0, none⟩)) (hB : Blk w g t cs) (hu : P.underlying ty = some (.struct fs))
    (hi : (P.info? ty).map (·.size) = some cs.size) (hv : tmps.getD u undef = v) :
    (results fn tmps).run P w = .ok (.tuple #[.agg cs, v]) w := by
  rw [results_cell_tmp h, hp, hv]
  have hl := run_loadVar_row (P := P) w g t ty cs (0, 0) _ hB hu rfl hi
  simp [asAddr, Result.andThen, hl]
theorem res_cell {fn : Func} {p : Tmp} {ty : TypeId} (h : fn.results = #[.cell p ty]) (tmps : Array Value) (P : Program) (w : World) {g : Nat} {t : TypeId} {cs : Array Value} {fs : Array Field}
    (hp : tmps.getD p undef = .pointer (some ⟨g, 0, none⟩)) (hB : Blk w g t cs) (hu : P.underlying ty = some (.struct fs))
    (hi : (P.info? ty).map (·.size) = some cs.size) :
    (results fn tmps).run P w = .ok (.agg cs) w := by
  have hl := run_loadVar_row (P := P) w g t ty cs (0, 0) _ hB hu rfl hi
  have hp2 : tmps[p]?.getD undef = .pointer (some ⟨g, 0, none⟩) := by simpa using hp
  simp [results, h, hp2, asAddr, hl]

/-- What the call itself has made and still reads, beside old memory: blocks that are known whole. -/
def Keep (w wx : World) (L : List (Nat × TypeId × Array Value)) : Prop := Below w.heap.size w wx ∧ ∀ x ∈ L, Blk wx x.1 x.2.1 x.2.2
section
variable {w wx w' : World} {L : List (Nat × TypeId × Array Value)}
theorem Keep.start (w : World) : Keep w w [] := ⟨Below.refl _ _, fun x hx => by cases hx⟩
theorem Keep.al (h : Keep w wx L) (o : Obj) : Keep w (wx.alloc o) L := ⟨below_al h.1 o, fun x hx => (h.2 x hx).alloc o⟩
theorem Keep.dr (h : Keep w wx L) : Keep w wx.drew L := ⟨h.1.drew, fun x hx => (h.2 x hx).drew⟩
theorem Keep.be (h : Keep w wx L) (hb : Below wx.heap.size wx w') : Keep w w' L := ⟨below_tr h.1 hb, fun x hx => (h.2 x hx).be hb⟩
theorem Keep.new (h : Keep w wx L) (t : TypeId) (cs : Array Value) : Keep w (wx.alloc (.cells cs t)) ((wx.heap.size, t, cs) :: L) :=
  ⟨below_al h.1 _, fun x hx => by
    rcases List.mem_cons.1 hx with rfl | hx
    · exact Blk.new wx t cs
    · exact (h.2 x hx).alloc _⟩
theorem Keep.b0 {g : Nat} {t : TypeId} {cs : Array Value} (h : Keep w wx ((g, t, cs) :: L)) : Blk wx g t cs := h.2 _ (List.mem_cons_self ..)
theorem Keep.tl {x : Nat × TypeId × Array Value} (h : Keep w wx (x :: L)) : Keep w wx L := ⟨h.1, fun y hy => h.2 y (List.mem_cons_of_mem _ hy)⟩
end

end Go.Proofs.YtmgblbkmbiiofaaDoor

namespace Go.Proofs.YtmgblbkmbiiofaaDoor
open Go.RowKit

section
variable {P : Program} {f : FuncId} {args : Array Value} {w : World} {r : Value}
theorem with5 {p0 p1 p2 p3 p4 : Addr} {v0 v1 v2 v3 v4 : Value} (hc : Calls P f args w fun e w' => e = .returned r ∧ Below w.heap.size w w')
    (hS : w.cell? p0 = some v0 ∧ w.cell? p1 = some v1 ∧ w.cell? p2 = some v2 ∧ w.cell? p3 = some v3 ∧ w.cell? p4 = some v4) :
    Calls P f args w fun e w' => e = .returned r ∧ Below w.heap.size w w' ∧ (w'.cell? p0 = some v0 ∧ w'.cell? p1 = some v1 ∧ w'.cell? p2 = some v2 ∧ w'.cell? p3 = some v3 ∧ w'.cell? p4 = some v4) :=
  hc.mono fun _ _ ⟨he, hb⟩ => ⟨he, hb, cell_later hb hS.1, cell_later hb hS.2.1, cell_later hb hS.2.2.1, cell_later hb hS.2.2.2.1, cell_later hb hS.2.2.2.2⟩
theorem with8 {p0 p1 p2 p3 p4 p5 p6 p7 : Addr} {v0 v1 v2 v3 v4 v5 v6 v7 : Value} (hc : Calls P f args w fun e w' => e = .returned r ∧ Below w.heap.size w w')
    (hS : w.cell? p0 = some v0 ∧ w.cell? p1 = some v1 ∧ w.cell? p2 = some v2 ∧ w.cell? p3 = some v3 ∧ w.cell? p4 = some v4 ∧ w.cell? p5 = some v5 ∧ w.cell? p6 = some v6 ∧ w.cell? p7 = some v7) :
    Calls P f args w fun e w' => e = .returned r ∧ Below w.heap.size w w' ∧ (w'.cell? p0 = some v0 ∧ w'.cell? p1 = some v1 ∧ w'.cell? p2 = some v2 ∧ w'.cell? p3 = some v3 ∧ w'.cell? p4 = some v4 ∧ w'.cell? p5 = some v5 ∧ w'.cell? p6 = some v6 ∧ w'.cell? p7 = some v7) :=
  hc.mono fun _ _ ⟨he, hb⟩ => ⟨he, hb, cell_later hb hS.1, cell_later hb hS.2.1, cell_later hb hS.2.2.1, cell_later hb hS.2.2.2.1, cell_later hb hS.2.2.2.2.1, cell_later hb hS.2.2.2.2.2.1, cell_later hb hS.2.2.2.2.2.2.1, cell_later hb hS.2.2.2.2.2.2.2⟩
theorem with8R {p0 p1 p2 p3 p4 p5 p6 p7 : Addr} {v0 v1 v2 v3 v4 v5 v6 v7 : Value} {B size n : Nat} {A : Option Addr} {xs : List Value} (hc : Calls P f args w fun e w' => e = .returned r ∧ Below w.heap.size w w')
    (hS : w.cell? p0 = some v0 ∧ w.cell? p1 = some v1 ∧ w.cell? p2 = some v2 ∧ w.cell? p3 = some v3 ∧ w.cell? p4 = some v4 ∧ w.cell? p5 = some v5 ∧ w.cell? p6 = some v6 ∧ w.cell? p7 = some v7 ∧ (Reads w B size A n xs ∧ B ≤ w.heap.size)) :
    Calls P f args w fun e w' => e = .returned r ∧ Below w.heap.size w w' ∧ (w'.cell? p0 = some v0 ∧ w'.cell? p1 = some v1 ∧ w'.cell? p2 = some v2 ∧ w'.cell? p3 = some v3 ∧ w'.cell? p4 = some v4 ∧ w'.cell? p5 = some v5 ∧ w'.cell? p6 = some v6 ∧ w'.cell? p7 = some v7 ∧ (Reads w' B size A n xs ∧ B ≤ w'.heap.size)) :=
  hc.mono fun _ _ ⟨he, hb⟩ => ⟨he, hb, cell_later hb hS.1, cell_later hb hS.2.1, cell_later hb hS.2.2.1, cell_later hb hS.2.2.2.1, cell_later hb hS.2.2.2.2.1, cell_later hb hS.2.2.2.2.2.1, cell_later hb hS.2.2.2.2.2.2.1, cell_later hb hS.2.2.2.2.2.2.2.1,
    hS.2.2.2.2.2.2.2.2.1.below (hb.mono hS.2.2.2.2.2.2.2.2.2), Nat.le_trans hS.2.2.2.2.2.2.2.2.2 hb.size⟩
end
theorem below_drN {B : Nat} {a w : World} (h : Below B a w) (n : Nat) : Below B a (w.drewN n) := ⟨h.os, h.tape, h.output, h.size, h.block⟩
theorem Keep.drN {w wx : World} {L : List (Nat × TypeId × Array Value)} (h : Keep w wx L) (n : Nat) : Keep w (wx.drewN n) L := ⟨below_drN h.1 n, fun x hx => (h.2 x hx).drewN n⟩

end Go.Proofs.YtmgblbkmbiiofaaDoor

namespace Go.Proofs.YtmgblbkmbiiofaaDoor
open Go.RowKit

theorem only_drewN {a w : World} {row : Option Nat} (h : a.grownBy w row) (n : Nat) : a.grownBy (w.drewN n) row := ⟨h.os, h.tape, h.output, h.size, h.block⟩
theorem only_drew {a w : World} {row : Option Nat} (h : a.grownBy w row) : a.grownBy w.drew row := ⟨h.os, h.tape, h.output, h.size, h.block⟩
theorem only_alloc {a w : World} {row : Option Nat} (h : a.grownBy w row) (o : Obj) : a.grownBy (w.alloc o) row :=
  ⟨h.os, h.tape, h.output, Nat.le_trans h.size (by simp), fun i hi hne => (Below.heap_alloc w o i (Nat.lt_of_lt_of_le hi h.size)).trans (h.block i hi hne)⟩
theorem only_setCell {a w : World} {g : Nat} (h : a.grownBy w (some g)) (i : Nat) (u : Value) : a.grownBy (w.setCell ⟨g, i, none⟩ u) (some g) :=
  ⟨h.os, h.tape, h.output, by simpa [World.setCell] using h.size, fun j hj hne => (Below.heap_setCell w _ u j (fun e => hne (by subst e; rfl))).trans (h.block j hj hne)⟩
theorem only_trans {a b c : World} {row : Option Nat} (h : a.grownBy b row) (k : b.grownBy c row) : a.grownBy c row :=
  ⟨k.os.trans h.os, k.tape.trans h.tape, k.output.trans h.output, Nat.le_trans h.size k.size, fun i hi hne => (k.block i (Nat.lt_of_lt_of_le hi h.size) hne).trans (h.block i hi hne)⟩
theorem only_below {a b c : World} {row : Option Nat} (h : a.grownBy b row) (k : Below b.heap.size b c) : a.grownBy c row :=
  ⟨k.os.trans h.os, k.tape.trans h.tape, k.output.trans h.output, Nat.le_trans h.size k.size, fun i hi hne => (k.block i (Nat.lt_of_lt_of_le hi h.size)).trans (h.block i hi hne)⟩
theorem only_refl (a : World) (row : Option Nat) : a.grownBy a row := ⟨rfl, rfl, rfl, Nat.le_refl _, fun _ _ _ => rfl⟩
theorem below_only {B g : Nat} {a b c : World} (h : Below B a b) (k : b.grownBy c (some g)) (hB : B ≤ b.heap.size) (hg : B ≤ g) : Below B a c :=
  h.grown k hB (fun x hx => by injection hx with hx; omega)
theorem blk_only {a b : World} {g g' : Nat} {t : TypeId} {cs : Array Value} (h : Blk a g t cs) (k : a.grownBy b (some g')) (hne : g ≠ g') : Blk b g t cs :=
  h.grown k (fun e => hne (by injection e))
theorem Blk.c3 {w : World} {g : Nat} {t : TypeId} {a b c : Value} (h : Blk w g t #[a, b, c]) :
    w.cell? ⟨g, 0, none⟩ = some a ∧ w.cell? ⟨g, 1, none⟩ = some b ∧ w.cell? ⟨g, 2, none⟩ = some c := ⟨h.cell 0, h.cell 1, h.cell 2⟩
theorem Blk.f3 {w : World} {g : Nat} {t : TypeId} {a b c : Value} (h : Blk w g t #[a, b, c]) :
    w.frozen? ⟨g, 0, none⟩ = false ∧ w.frozen? ⟨g, 1, none⟩ = false ∧ w.frozen? ⟨g, 2, none⟩ = false := ⟨h.frozen 0, h.frozen 1, h.frozen 2⟩

theorem only_setNew {a w : World} {row : Option Nat} (h : a.grownBy w row) {b : Nat} (hb : a.heap.size ≤ b) (i : Nat) (u : Value) : a.grownBy (w.setCell ⟨b, i, none⟩ u) row :=
  ⟨h.os, h.tape, h.output, by simpa [World.setCell] using h.size, fun j hj hne => (Below.heap_setCell w _ u j (fun e => by subst e; exact absurd hj (by simpa using hb))).trans (h.block j hj hne)⟩
theorem blk_set3 {w : World} {g : Nat} {t : TypeId} {a b c a' b' c' : Value} (h : Blk w g t #[a, b, c]) :
    Blk (((w.setCell ⟨g, 0, none⟩ a').setCell ⟨g, 1, none⟩ b').setCell ⟨g, 2, none⟩ c') g t #[a', b', c'] :=
  blk_set _ _ _ _ 2 _ _ (blk_set _ _ _ _ 1 _ _ (blk_set _ _ _ _ 0 _ _ h rfl) rfl) rfl
theorem blk_far3 {w : World} {g b : Nat} {t : TypeId} {cs : Array Value} (h : Blk w g t cs) (hne : g ≠ b) (i j k : Nat) (x y z : Value) :
    Blk (((w.setCell ⟨b, i, none⟩ x).setCell ⟨b, j, none⟩ y).setCell ⟨b, k, none⟩ z) g t cs := ((h.far (p := ⟨b, i, none⟩) hne x).far (p := ⟨b, j, none⟩) hne y).far (p := ⟨b, k, none⟩) hne z

end Go.Proofs.YtmgblbkmbiiofaaDoor

namespace Go.Proofs.YtmgblbkmbiiofaaDoor
open Go.RowKit

theorem wpList_append_anyG {P : Program} (w : World) {ops : Array Oper} {rest : List Oper} {o : Oper} {a : Act} {Q : Exit → Act → World → Prop} (hgd : Region.wanted o (yielded ops a.tmps) = true) (s x : Operand) (t : TypeId)
    (ho : o.op = .call { callee := .builtin .append, args := #[s, x], argTypes := #[t, t] })
    (base : Nat) (e : TypeId) (i : TypeInfo) (z : Value) (size bytes : Nat) (ht : P.underlying t = some (.slice e)) (hi : P.info? e = some i) (hz : i.zero = some z)
    (hsize : i.size = size) (hby : i.bytes = bytes) (hzs : z.cells.size = size) (hsz : 0 < size)
    (v : Value) (n : Nat) (xs : List Value) (hs : a.eval s = v) (hown : w.ownsRow base e size v n xs)
    (B : Nat) (A : Option Addr) (m c : Nat) (news : List Value) (hx : a.eval x = .slice A m c) (hr : Reads w B size A m news) (h1 : ∀ u ∈ news, u.oneCell' = true)
    (h63 : n + m ≤ maxLen) (hbytes : (n + m) * bytes ≤ 140737488355328) (hbase : base ≤ w.heap.size)
    (h : ∀ v' w', w'.ownsRow base e size v' (n + m) (xs ++ news) → w.grownBy w' v.ownBlock → (v'.ownBlock = v.ownBlock ∨ v'.ownBlock = some w.heap.size) → wpList P ops Q rest (a.put o.dst v') w') : wpList P ops Q (o :: rest) a w :=
  BigFrame.wpList_want hgd fun _ hK => wp_append_any w s x t ho base e i z size bytes ht hi hz hsize hby hzs hsz v n xs hs hown B A m c news hx hr h1 h63 hbytes hbase fun v' w' h2 h3 h4 => hK _ _ (h v' w' h2 h3 h4)

theorem own_empty (w : World) (e : TypeId) (size : Nat) : (w.alloc (.cells #[] e)).ownsRow w.heap.size e size (.slice (some ⟨w.heap.size, 0, none⟩) 0 0) 0 [] :=
  ⟨by simp, .inr ⟨w.heap.size, 0, #[], rfl, Nat.le_refl _, heap_alloc_new w _, Nat.le_refl _, Nat.zero_le _, by simp, by simp⟩⟩

theorem own_below {w w' : World} {base : Nat} {e : TypeId} {size n : Nat} {v : Value} {xs : List Value} (h : w.ownsRow base e size v n xs) (hb : Below w.heap.size w w') : w'.ownsRow base e size v n xs :=
  h.kept (only_below (only_refl w none) hb) (Classical.em _)

end Go.Proofs.YtmgblbkmbiiofaaDoor

namespace Go.Proofs.YtmgblbkmbiiofaaDoor
open Go.RowKit

/-- A fact that no tactic looks into. -/
structure Sl (p : Prop) : Prop where
  out : p

theorem only_setCells (g : Nat) : ∀ (vs : List Value) (o : Nat) (a w : World), a.grownBy w (some g) → a.grownBy (w.setCells g o vs) (some g)
  | [], _, _, _, h => h
  | v :: r, o, a, _, h => only_setCells g r (o + 1) a _ (only_setCell h o v)
theorem size_setCells (g : Nat) : ∀ (vs : List Value) (o : Nat) (w : World), (w.setCells g o vs).heap.size = w.heap.size
  | [], _, _ => rfl
  | v :: r, o, w => by
    show ((w.setCell ⟨g, o, none⟩ v).setCells g (o + 1) r).heap.size = _
    rw [size_setCells g r (o + 1)]
    simp [World.setCell]
theorem set_splice (l : List Value) (v : Value) (r : List Value) (o : Nat) (h : o + (v :: r).length ≤ l.length) :
    (l.set o v).take (o + 1) ++ r ++ (l.set o v).drop (o + 1 + r.length) = l.take o ++ (v :: r) ++ l.drop (o + (v :: r).length) := by
  have hlen : (v :: r).length = r.length + 1 := rfl
  have h1 : (l.set o v).take (o + 1) = l.take o ++ [v] := by
    rw [List.take_succ_eq_append_getElem (by simp; omega), List.take_set_of_le (Nat.le_refl _)]
    simp
  have h2 : (l.set o v).drop (o + 1 + r.length) = l.drop (o + (v :: r).length) := by
    rw [List.drop_set_of_lt (by omega), hlen]
    congr 1; omega
  rw [h1, h2]; simp
theorem blk_setCells {g : Nat} {t : TypeId} : ∀ (vs : List Value) (o : Nat) (w : World) (l : List Value), Blk w g t l.toArray → o + vs.length ≤ l.length → Blk (w.setCells g o vs) g t (l.take o ++ vs ++ l.drop (o + vs.length)).toArray
  | [], o, w, l, h, _ => by
    have e : l.take o ++ [] ++ l.drop (o + ([] : List Value).length) = l := by simp
    rw [e]; exact h
  | v :: r, o, w, l, h, hl => by
    have h1 : Blk (w.setCell ⟨g, o, none⟩ v) g t (l.set o v).toArray := blk_set _ _ _ _ o v _ h (by simp)
    have hlen : (v :: r).length = r.length + 1 := rfl
    have h2 := blk_setCells r (o + 1) _ (l.set o v) h1 (by simp; omega)
    rw [set_splice l v r o hl] at h2
    exact h2

section
variable {P : Program} {ops : Array Oper} {rest : List Oper} {op : Oper} {a : Act} {w : World} {Q : Exit → Act → World → Prop}
theorem there_blk {g : Nat} {t : TypeId} {l : List Value} (h : Blk w g t l.toArray) {o n : Nat} (hl : o + n ≤ l.length) : w.there g o n := fun j hj =>
  ⟨by rw [h.cell]; simp; omega, h.frozen _⟩
theorem range_blk {g : Nat} {t : TypeId} {l : List Value} (h : Blk w g t l.toArray) (o n : Nat) : w.rangeAt g o ((l.drop o).take n) := fun j v hv => by
  rw [h.cell]
  rw [List.getElem?_take] at hv
  split at hv
  · rw [List.getElem?_drop] at hv; simpa using hv
  · cases hv
/-- An array (or a struct) is stored into a block that is known whole, from offset o on: the world behind it is a letter. -/
theorem wpList_store_blk (hgd : op.guard = none) (ty : TypeId) (x y : Operand) (ho : op.op = .store ty x y)
    (g o : Nat) (t : TypeId) (l vs : List Value) (hB : Blk w g t l.toArray) (hx : a.eval x = .pointer (some ⟨g, o, none⟩)) (hy : a.eval y = .agg vs.toArray)
    (hl : o + vs.length ≤ l.length) (hi : (P.info? ty).map (·.size) = some vs.length) (h1 : ∀ v ∈ vs, v.oneCell' = true)
    (h : ∀ w', Blk w' g t (l.take o ++ vs ++ l.drop (o + vs.length)).toArray → w.grownBy w' (some g) → w'.heap.size = w.heap.size → wpList P ops Q rest (a.put op.dst undef) w') : wpList P ops Q (op :: rest) a w :=
  wpList_store_mid hgd ty x y ho g o vs.toArray hx hy (there_blk hB (by simpa using hl)) (by simpa using hi) (all_oneCell_toArray h1)
    (h _ (blk_setCells vs o w l hB hl) (only_setCells g vs o w w (only_refl w _)) (size_setCells g vs o w))
/-- .. is loaded out of one. -/
theorem wpList_load_blk (hgd : op.guard = none) (ty : TypeId) (x : Operand) (ho : op.op = .load ty x)
    (g o n : Nat) (t : TypeId) (l : List Value) (d : TypeDesc) (hB : Blk w g t l.toArray) (hx : a.eval x = .pointer (some ⟨g, o, none⟩)) (hl : o + n ≤ l.length)
    (hu : P.underlying ty = some d) (hd : d.isRow = true) (hi : (P.info? ty).map (·.size) = some n)
    (h : wpList P ops Q rest (a.put op.dst (.agg ((l.drop o).take n).toArray)) w) : wpList P ops Q (op :: rest) a w :=
  wpList_load_mid hgd ty x ho g o hx ((l.drop o).take n) d (range_blk hB o n) hu hd (by rw [hi]; simp; omega) h
theorem wpList_load_vs (hgd : op.guard = none) (ty : TypeId) (x : Operand) (ho : op.op = .load ty x)
    (g o n : Nat) (t : TypeId) (l vs : List Value) (d : TypeDesc) (hB : Blk w g t l.toArray) (hx : a.eval x = .pointer (some ⟨g, o, none⟩)) (hv : (l.drop o).take n = vs) (hn : vs.length = n)
    (hu : P.underlying ty = some d) (hd : d.isRow = true) (hi : (P.info? ty).map (·.size) = some n)
    (h : wpList P ops Q rest (a.put op.dst (.agg vs.toArray)) w) : wpList P ops Q (op :: rest) a w :=
  wpList_load_mid hgd ty x ho g o hx vs d (by rw [← hv]; exact range_blk hB o n) hu hd (by rw [hi, hn]) h
/-- An array (or a struct) is stored into the block that was just made: the world behind it is a letter. -/
theorem wpList_store_fresh {w1 : World} (hgd : op.guard = none) (ty : TypeId) (x y : Operand) (ho : op.op = .store ty x y)
    (t : TypeId) (l vs : List Value) (cs : Array Value) (hcs : cs = l.toArray) (hx : a.eval x = .pointer (some ⟨w1.heap.size, 0, none⟩)) (hy : a.eval y = .agg vs.toArray)
    (hl : vs.length = l.length) (hi : (P.info? ty).map (·.size) = some vs.length) (h1 : ∀ v ∈ vs, v.oneCell' = true)
    (h : ∀ w', Blk w' w1.heap.size t vs.toArray → Below w1.heap.size w1 w' → w'.heap.size = w1.heap.size + 1 → wpList P ops Q rest (a.put op.dst undef) w') :
    wpList P ops Q (op :: rest) a (w1.alloc (.cells cs t)) := by
  subst hcs
  refine wpList_store_blk hgd ty x y ho w1.heap.size 0 t l vs (Blk.new _ _ _) hx hy (by omega) hi h1 fun w' h2 h3 h4 => ?_
  have e : l.take 0 ++ vs ++ l.drop (0 + vs.length) = vs := by simp [hl]
  rw [e] at h2
  exact h w' h2 (below_only (below_al (Below.refl _ _) _) h3 (by simp) (Nat.le_refl _)) (by rw [h4]; simp)
/-- A block is known whole behind an alloc of zeros (the list is given). -/
theorem blk_newl {w : World} {g : Nat} {t : TypeId} {l : List Value} {cs : Array Value} (hg : g = w.heap.size) (h : cs = l.toArray) : Blk (w.alloc (.cells cs t)) g t l.toArray := by subst hg h; exact Blk.new w t _
end

end Go.Proofs.YtmgblbkmbiiofaaDoor
