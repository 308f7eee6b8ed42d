/-
  The contract of the document's Check.
  The document's Parse under way: what lies in memory.
-/
import Derived.Test.YtmgblbkmbiiofaaDoorMd17
import Derived.Test.YtmgblbkmbiiofaaDoorMd12
import Derived.Test.YtmgblbkmbiiofaaDoorMd16
import Derived.Test.YtmgblbkmbiiofaaDoorMd9
import Derived.Test.YtmgblbkmbiiofaaDoorMd8

namespace Go.Proofs.YtmgblbkmbiiofaaDoor
open Go.RowKit
attribute [local go_sem ↓] Go.wp_at_zero Go.wp_at_succ
set_option linter.unusedVariables false
set_option linter.unusedSimpArgs false


end Go.Proofs.YtmgblbkmbiiofaaDoor

namespace Go.Proofs.YtmgblbkmbiiofaaDoor
open Go.RowKit
attribute [local go_sem ↓] Go.wp_at_zero Go.wp_at_succ
set_option linter.unusedVariables false
set_option linter.unusedSimpArgs false

theorem split_le (s : Bs) (c : UInt8) : (Lib.split s [c]).length ≤ s.length + 1 ∧ ∀ x ∈ Lib.split s [c], x.length ≤ s.length := by
  have h1 := join_split c s
  have h3 : ∀ (p : List Bs) (y : Bs), y ∈ p → y.length ≤ (Lib.join p [c]).length := by
    intro p
    induction p with
    | nil => intro y hy; cases hy
    | cons a p ih =>
      intro y hy
      cases p with
      | nil => rw [List.mem_singleton.1 hy, Lib.join_one]; exact Nat.le_refl _
      | cons b p =>
        have e : Lib.join (a :: b :: p) [c] = a ++ c :: Lib.join (b :: p) [c] := by
          rw [Lib.join_cons, Lib.join_cons]; simp [Lib.joinTail]
        rw [e, List.length_append, List.length_cons]
        rcases List.mem_cons.1 hy with rfl | hy
        · omega
        · have := ih y hy; omega
  have h4 : ∀ (p : List Bs), p.length ≤ (Lib.join p [c]).length + 1 := by
    intro p
    induction p with
    | nil => simp
    | cons a p ih =>
      cases p with
      | nil => simp
      | cons b p =>
        have e : Lib.join (a :: b :: p) [c] = a ++ c :: Lib.join (b :: p) [c] := by
          rw [Lib.join_cons, Lib.join_cons]; simp [Lib.joinTail]
        rw [e, List.length_append, List.length_cons, List.length_cons]
        simp only [List.length_cons] at ih ⊢
        omega
  refine ⟨?_, fun y hy => ?_⟩
  · have := h4 (Lib.split s [c])
    rw [h1] at this
    exact this
  · have := h3 _ y hy
    rw [h1] at this
    exact this
theorem split_pos (s : Bs) (c : UInt8) : 1 ≤ (Lib.split s [c]).length := by
  obtain ⟨x, t, h⟩ := split_cons c s
  rw [h]; simp
theorem wh_nil : whB [] = false := by decide
theorem wh_of {s : Bs} {n : Nat} (h : s.length = n + 1) : whB s = (s.getD n 0 == 10) := by
  obtain ⟨t, b, rfl⟩ : ∃ t b, s = t ++ [b] := by
    have hne : s ≠ [] := fun e => by rw [e] at h; cases h
    exact ⟨s.dropLast, s.getLast hne, (List.dropLast_concat_getLast hne).symm⟩
  have hn : t.length = n := by simpa using h
  unfold whB
  rw [List.getD_eq_getElem?_getD, ← hn, List.getElem?_append_right (Nat.le_refl _)]
  simp only [Nat.sub_self, List.getElem?_cons_zero, Option.getD_some]
  rw [Bool.eq_iff_iff, List.isSuffixOf_iff_suffix, beq_iff_eq]
  constructor
  · rintro ⟨u, hu⟩
    have := List.append_inj' hu rfl
    injection this.2 with h
    exact h.symm
  · rintro rfl
    exact ⟨t, rfl⟩


theorem run_idxM {P : Program} (w : World) (T e : TypeId) (len : Nat) (hT : P.underlying T = some (.array len e)) (hE : P.underlying e = some .string) (hi : (P.info? e).map (·.size) = some 1) (l : List Value) (i : Nat) (v : Value)
    (hl : l[i]? = some v) (hil : i < len) : (Instr.index T (.agg l.toArray) (.int .i64 (i : Int))).run P w = .ok v w := by
  cases hq : P.info? e with
  | none => simp [hq] at hi
  | some x =>
    have hs : x.size = 1 := by simpa [hq] using hi
    simp [Instr.index, asIntOf, Sem.run_bind, run_underlying hT, part, isAgg, run_underlying hE, sizeOf, typeInfo, hq, hs, hil, hl]
theorem infoStrM : (Tryd.prog.info? 9).map (·.size) = some 1 := by kernel_rfl

def hwL : List Bs := [hw0, hw1, hw2]


theorem own_monoM {w : World} {base base' size n : Nat} {e : TypeId} {v : Value} {xs : List Value} (h : w.ownsRow base e size v n xs) (hb : base' ≤ base) : w.ownsRow base' e size v n xs :=
  ⟨h.1, h.2.imp id (fun ⟨g, c, cur, h1, h2, h3⟩ => ⟨g, c, cur, h1, Nat.le_trans hb h2, h3⟩)⟩
theorem LsR.fresh {w w9 : World} {base : Nat} {f f' : Nat → List It} {hd : Nat → Hd} {k : Nat} {y : Hd} (h : LsR w base f hd) (hbs : base ≤ w.heap.size)
    (ho : OwnR w9 w.heap.size y (f' k)) (hf : ∀ j, j < 4 → j ≠ k → f' j = f j) (hg : Below w.heap.size w w9) : LsR w9 base f' (updH hd k y) := by
  have hlt : ∀ j, j < 4 → ∀ g, (hd j).b = some g → g < w.heap.size := fun j hj g hg => (World.ownsRow.lt (h.own j hj) _ hg).2
  have hge : ∀ g, y.b = some g → w.heap.size ≤ g := fun g hg => ownGe ho hg
  refine ⟨fun j hj => ?_, fun i j hi hj hij g h1 h2 => ?_⟩
  · unfold updH
    by_cases hjk : j = k
    · subst hjk
      rw [if_pos rfl]
      exact own_monoM ho hbs
    · rw [if_neg hjk, hf j hj hjk]
      exact own_below (h.own j hj) hg
  · unfold updH at h1 h2
    by_cases hik : i = k
    · rw [if_pos hik] at h1
      by_cases hjk : j = k
      · exact hij (hik.trans hjk.symm)
      · rw [if_neg hjk] at h2
        have := hlt j hj g h2
        have := hge g h1
        omega
    · rw [if_neg hik] at h1
      by_cases hjk : j = k
      · rw [if_pos hjk] at h2
        have := hlt i hi g h1
        have := hge g h2
        omega
      · rw [if_neg hjk] at h2
        exact h.apart i j hi hj hij g h1 h2
theorem ofA_add (m : Mf) (hd : Nat → Hd) (k : Nat) (x : It) : ofA (m.add k x) hd = ofA m hd := by
  match k with
  | 0 => rfl
  | 1 => rfl
  | 2 => rfl
  | _ + 3 => rfl
/-- The document's Parse under way. -/
structure RpSt (w : World) (mb : Nat) (A : Option Addr) (N c : Nat) (L : List Bs) (m : Mf) (hd : Nat → Hd) (wr : World) : Prop where
  be : Below w.heap.size w wr
  zr : Blk wr w.heap.size 25 #[.string ⟨#[]⟩, .string ⟨#[]⟩, .int .i64 0, .slice none 0 0, .slice none 0 0, .slice none 0 0, .slice none 0 0]
  ro : wr.ownsRow (w.heap.size + 1) 9 1 (.slice A N c) N (strsA L)
  ou : Blk wr mb 25 (ofA m hd)
  ls : LsR wr (mb + 1) m.at hd
  lt : w.heap.size < mb
theorem RpSt.be_ {w wr w' : World} {mb N c : Nat} {A : Option Addr} {L : List Bs} {m : Mf} {hd : Nat → Hd} (H : RpSt w mb A N c L m hd wr) (hb : Below wr.heap.size wr w') : RpSt w mb A N c L m hd w' :=
  ⟨H.be.trans (hb.mono H.be.size), H.zr.be hb, own_below H.ro hb, H.ou.be hb, H.ls.be hb, H.lt⟩
theorem RpSt.put_ {w wr : World} {mb N c : Nat} {A : Option Addr} {L : List Bs} {m m' : Mf} {hd hd' : Nat → Hd} (H : RpSt w mb A N c L m hd wr) (j : Nat) (v : Value)
    (he : (ofA m hd).setIfInBounds j v = ofA m' hd') (hl : ∀ w', wr.grownBy w' (some mb) → LsR w' (mb + 1) m'.at hd') : RpSt w mb A N c L m' hd' (wr.setCell ⟨mb, j, none⟩ v) := by
  have hs := only_setCell (only_refl wr (some mb)) j v
  have hlt := H.lt
  refine ⟨H.be.trans ((Below.refl _ wr).grown hs H.be.size (fun g hg => by injection hg with hg; omega)), H.zr.far (by show w.heap.size ≠ mb; omega) _, World.ownsRow.kept H.ro hs (.inr (own_blk_ne H.ro H.ou (by decide))), blk_set _ _ _ _ j _ _ H.ou he, hl _ hs, H.lt⟩
theorem RpSt.put {w wr : World} {mb N c : Nat} {A : Option Addr} {L : List Bs} {m m' : Mf} {hd : Nat → Hd} (H : RpSt w mb A N c L m hd wr) (j : Nat) (v : Value)
    (he : (ofA m hd).setIfInBounds j v = ofA m' hd) (ha : m'.at = m.at) : RpSt w mb A N c L m' hd (wr.setCell ⟨mb, j, none⟩ v) :=
  H.put_ j v he (fun w' hg => by rw [ha]; exact H.ls.only hg (Nat.lt_succ_self mb))
theorem RpSt.add {w wd w9 : World} {mb N c k : Nat} {A : Option Addr} {L : List Bs} {m : Mf} {hd : Nat → Hd} {x : It} {y : Hd} (H : RpSt w mb A N c L m hd wd) (hk : k < 4)
    (hb : Below wd.heap.size wd w9) (ho : OwnR w9 wd.heap.size y (m.at k ++ [x])) : RpSt w mb A N c L (m.add k x) (updH hd k y) (w9.setCell ⟨mb, 3 + k, none⟩ y.v) :=
  (H.be_ hb).put_ (3 + k) y.v (by rw [ofA_upd m hd k y hk, ofA_add]) (fun w' hg => by
    have h1 : LsR w9 (mb + 1) (m.add k x).at (updH hd k y) := H.ls.fresh (Nat.succ_le_of_lt H.ou.lt) (by rw [at_add m k k x hk hk, if_pos rfl]; exact ho) (fun j hj hjk => by rw [at_add m k j x hk hj, if_neg hjk]) hb
    exact h1.only hg (Nat.lt_succ_self mb))
/-- Which line is read, and what came so far. -/
def PhM (L : List Bs) : Nat → Mf → Nat → Prop
  | 0, m, lst => m = mf0 ∧ lst = 0
  | 1, m, lst => headR L 0 hw0 = some m.pkg ∧ m = ⟨m.pkg, [], 0, [], [], [], []⟩ ∧ lst = 0
  | 2, m, lst => headR L 0 hw0 = some m.pkg ∧ headR L 1 hw1 = some m.pub ∧ m = ⟨m.pkg, m.pub, 0, [], [], [], []⟩ ∧ lst = 0
  | i + 3, m, lst => scanM L = restsM m lst (L.drop (i + 3)) (i + 3)
/-- Words' sizes, and how many items there are. -/
structure PhS (i : Nat) (m : Mf) (hd : Nat → Hd) : Prop where
  pk : m.pkg.length ≤ 1000000 ∧ m.pub.length ≤ 1000000
  it : ∀ k, k < 4 → ∀ x ∈ m.at k, x.a.length ≤ 1000000 ∧ x.b.length ≤ 1000000
  nn : ∀ k, k < 4 → (hd k).n ≤ i
theorem mfr_ofR {w : World} {base : Nat} {m : Mf} {hd : Nat → Hd} (h : LsR w base m.at hd) (hn : ∀ j, j < 4 → (hd j).n ≤ 1000000) (ht : ∀ j, j < 4 → ∀ x ∈ m.at j, x.a.length ≤ 1000000 ∧ x.b.length ≤ 1000000) (hp : m.pkg.length ≤ 1000000 ∧ m.pub.length ≤ 1000000) :
    MfR w m (hd 0) (hd 1) (hd 2) (hd 3) := by
  have key : ∀ j, j < 4 → Its w (hd j).A (hd j).n (m.at j) ∧ ((hd j).n ≤ 1000000 ∧ (hd j).n ≤ (hd j).c) := fun j hj => by
    have ho := h.own j hj
    unfold OwnR Hd.v at ho
    exact ⟨⟨Reads.of_own ho, ht j hj⟩, hn j hj, (rowCap ho).1⟩
  have k0 := key 0 (by decide)
  have k1 := key 1 (by decide)
  have k2 := key 2 (by decide)
  have k3 := key 3 (by decide)
  exact ⟨k0.1, k1.1, k2.1, k3.1, k0.2, k1.2, k2.2, k3.2, hp.1, hp.2⟩
/-- What the operations of one more item leave. -/
def ItemP (B n : Nat) (l : List It) (x : It) (k : Nat) (v : Value) (w : World) : Prop := match k with
  | 1 => ∃ g, v = .slice (some ⟨g, 0, none⟩) 0 0 ∧ B ≤ g ∧ Blk w g 65 #[]
  | 6 => ∃ A c, v = .slice A n c ∧ w.ownsRow B 65 2 (.slice A n c) n (itsC l)
  | 14 => ∃ g, v = .slice (some ⟨g, 0, none⟩) 1 1 ∧ Reads w w.heap.size 2 (some ⟨g, 0, none⟩) 1 (itC x)
  | _ => False
end Go.Proofs.YtmgblbkmbiiofaaDoor
