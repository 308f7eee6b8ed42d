/-
  The contract of manifest's Parse.
  == between items; the contract of creellaw13's known.
  The contract of creellaw13's Of: a manifest as the document's.
-/
import Derived.Test.YtmgblbkmbiiofaaDoorMd13
import Derived.Test.YtmgblbkmbiiofaaDoorMd14
import Derived.Laws.StructEq

namespace Go.Proofs.YtmgblbkmbiiofaaDoor
open Go.RowKit
attribute [local go_sem ↓] Go.wp_at_zero Go.wp_at_succ
set_option linter.unusedVariables false
set_option linter.unusedSimpArgs false

def hd0 : Nat → Hd := fun _ => ⟨none, 0, 0⟩
def zM : List Value := [.string ⟨#[]⟩, .string ⟨#[]⟩, .int .i64 0, .slice none 0 0, .slice none 0 0, .slice none 0 0, .slice none 0 0]
theorem ls_zero (w : World) (base : Nat) (m : Mf) (h : ∀ j, j < 4 → m.at j = []) : Ls w base m hd0 :=
  ⟨fun j hj => by rw [h j hj]; exact World.ownsRow_nil _ _ _ _, fun i j _ _ _ g hg => by cases hg⟩
theorem zM_one : ∀ v ∈ ([.string ⟨#[]⟩, .string ⟨#[]⟩, .int .i64 0, .slice none 0 0, .slice none 0 0, .slice none 0 0, .slice none 0 0] : List Value), v.oneCell' = true := by decide
theorem mfSize : (Tryd.prog.info? 28).map (·.size) = some 7 := by kernel_rfl
/-- What a reader has read, and where it stands. -/
def ReadPost (w : World) (rb lb : Nat) (L : List Bs) (S : Mf × Bool × Nat) (w' : World) : Prop :=
  ∃ m hd, Below rb w w' ∧ Blk w' rb 73 (rdA L lb S.2.2 m hd) ∧ Ls w' (rb + 1) m hd ∧ (∀ j, j < 4 → (hd j).n ≤ S.2.2) ∧ (∀ j, j < 4 → ∀ x ∈ m.at j, x.a.length ≤ 1000000 ∧ x.b.length ≤ 1000000) ∧
    (S.2.1 = true → m = S.1 ∧ m.pkg.length ≤ 1000000 ∧ m.pub.length ≤ 1000000)
theorem scan_no {L : List Bs} {k : Nat} : ∀ (R : List Bs) (m : Mf) (p no : Nat), no + R.length ≤ k → (restsM m p R no).2.2 ≤ k + 1
  | [], m, p, no, h => by rw [rest_nil]; simp at h ⊢; omega
  | l :: R, m, p, no, h => by
    rw [rest_cons]
    simp only [List.length_cons] at h
    cases restM m p l with
    | none => simp; omega
    | some q => exact scan_no (L := L) R q.1 q.2 (no + 1) (by omega)
theorem head_len {L : List Bs} {no : Nat} {w x : Bs} (h : headR L no w = some x) (hl : ∀ s ∈ L, s.length ≤ 1000000) : x.length ≤ 1000000 := by
  unfold headR at h
  obtain ⟨l, hl1, hl2⟩ := Option.bind_eq_some_iff.1 h
  have h1 := hl l (List.mem_of_getElem? hl1)
  have h2 := head_some hl2
  rw [h2] at h1
  unfold sp2 at h1
  simp at h1
  omega
theorem rests_heads : ∀ (L : List Bs) (m : Mf) (p no : Nat), (restsM m p L no).1.pkg = m.pkg ∧ (restsM m p L no).1.pub = m.pub
  | [], m, p, no => by rw [rest_nil]; exact ⟨rfl, rfl⟩
  | l :: L, m, p, no => by
    rw [rest_cons]
    cases hr : restM m p l with
    | none => exact ⟨rfl, rfl⟩
    | some q =>
      obtain ⟨_, _, x, _, h4⟩ := rest_some (m' := q.1) (p' := q.2) hr
      obtain ⟨h1, h2⟩ := rests_heads L q.1 q.2 (no + 1)
      obtain ⟨a1, a2, _⟩ := add_same m q.2 x
      rw [← h4] at a1 a2
      exact ⟨h1.trans a1, h2.trans a2⟩
theorem heads_some {L : List Bs} {x y : Bs} {n k : Nat} (h : headsF L = (some (x, y, n), k)) : headR L 0 hw0 = some x ∧ headR L 1 hw1 = some y ∧ k = 3 ∧ 3 ≤ L.length := by
  unfold headsF at h
  cases h0 : headR L 0 hw0 with
  | none => rw [h0] at h; cases h
  | some a =>
    rw [h0] at h
    cases h1 : headR L 1 hw1 with
    | none => rw [h1] at h; cases h
    | some b =>
      rw [h1] at h
      cases h2 : headR L 2 hw2 with
      | none => rw [h2] at h; cases h
      | some z =>
        rw [h2] at h
        simp only [] at h
        have hl : 3 ≤ L.length := by
          unfold headR at h2
          rcases Nat.lt_or_ge 2 L.length with h | h
          · omega
          · rw [List.getElem?_eq_none h] at h2; cases h2
        split at h
        · injection h with h h3
          injection h with h
          injection h with h4 h5
          injection h5 with h5 _
          subst h4; subst h5
          exact ⟨rfl, rfl, h3.symm, hl⟩
        · cases h
section
variable {ops : Array Oper} {rest : List Oper} {op : Oper} {a : Act} {w : World} {Q : Exit → Act → World → Prop}
theorem st_m (hgd : op.guard = none) (x y : Operand) (ho : op.op = .store 28 x y) (g : Nat) (l vs : List Value) (hB : Blk w g 28 l.toArray) (hx : a.eval x = .pointer (some ⟨g, 0, none⟩)) (hy : a.eval y = .agg vs.toArray)
    (hl : vs.length = l.length) (h7 : vs.length = 7) (h1 : ∀ v ∈ vs, v.oneCell' = true)
    (h : ∀ w', Blk w' g 28 vs.toArray → w.grownBy w' (some g) → w'.heap.size = w.heap.size → wpList Tryd.prog ops Q rest (a.put op.dst undef) w') : wpList Tryd.prog ops Q (op :: rest) a w :=
  wpList_plain hgd fun _ hK => wp_store_allB 28 x y ho g 28 l vs hB hx hy hl (by rw [mfSize, h7]) h1 (fun w' h2 h3 h4 => hK _ _ (h w' h2 h3 h4))
theorem ld_mf {ad : Addr} {m : Mf} {p q r t : Hd} (hc : ∀ (j : Nat) v, (mfC m p q r t)[j]? = some v → w.cell? (ad.add j) = some v) (hgd : op.guard = none) (y : Operand) (ho : op.op = .load 28 y) (hy : a.eval y = .pointer (some ad))
    (h : wpList Tryd.prog ops Q rest (a.put op.dst (mfV m p q r t)) w) : wpList Tryd.prog ops Q (op :: rest) a w :=
  wpList_load_at hgd 28 y ho _ hy (mfC m p q r t) _ hc Tryd.underlying28 rfl (by rw [mfSize]; rfl) h
end
theorem mfC_one (m : Mf) (p q r t : Hd) : ∀ v ∈ mfC m p q r t, v.oneCell' = true := by
  intro v hv
  simp only [mfC, List.mem_cons, List.not_mem_nil, or_false] at hv
  rcases hv with rfl | rfl | rfl | rfl | rfl | rfl | rfl <;> rfl
def ParsePostM (w : World) (R : Mf × Int × Int) (e : Ending) (w' : World) : Prop :=
  Below w.heap.size w w' ∧ ∃ p q r t, e = .returned (.tuple #[mfV R.1 p q r t, .int .i64 R.2.1, .int .i64 R.2.2]) ∧ MfR w' R.1 p q r t
theorem its_nil (w : World) : Its w none 0 [] := ⟨Reads.none_, fun x hx => by cases hx⟩
theorem mfr_zero (w : World) : MfR w mf0 ⟨none, 0, 0⟩ ⟨none, 0, 0⟩ ⟨none, 0, 0⟩ ⟨none, 0, 0⟩ :=
  ⟨its_nil w, its_nil w, its_nil w, its_nil w, ⟨by decide, by decide⟩, ⟨by decide, by decide⟩, ⟨by decide, by decide⟩, ⟨by decide, by decide⟩, by decide, by decide⟩
theorem mfr_of {w : World} {base : Nat} {m : Mf} {hd : Nat → Hd} (h : Ls w base m hd) (hn : ∀ j, j < 4 → (hd j).n ≤ 1000000) (ht : ∀ j, j < 4 → ∀ x ∈ m.at j, x.a.length ≤ 1000000 ∧ x.b.length ≤ 1000000) (hp : m.pkg.length ≤ 1000000 ∧ m.pub.length ≤ 1000000) :
    MfR w m (hd 0) (hd 1) (hd 2) (hd 3) :=
  have hi := fun (j : Nat) (hj : j < 4) => show Its w (hd j).A (hd j).n (m.at j) ∧ (hd j).n ≤ 1000000 ∧ (hd j).n ≤ (hd j).c from
    ⟨⟨(h.own j hj).reads, ht j hj⟩, hn j hj, (rowCap (h.own j hj)).1⟩
  ⟨(hi 0 (by decide)).1, (hi 1 (by decide)).1, (hi 2 (by decide)).1, (hi 3 (by decide)).1, (hi 0 (by decide)).2, (hi 1 (by decide)).2, (hi 2 (by decide)).2, (hi 3 (by decide)).2, hp.1, hp.2⟩
set_option maxRecDepth 100000 in
set_option maxHeartbeats 16000000 in
theorem parse_m (s : Bs) (w : World) (hs : s.length ≤ 1000000) (hM : Em w w.heap.size) : Calls Tryd.prog 8 #[.string (bsS s)] w (ParsePostM w (parseM s)) := by
  obtain ⟨R, hR⟩ : ∃ R, parseM s = R := ⟨_, rfl⟩
  rw [hR]
  have HRR := Sl.mk hR
  have hz := bs_size s
  have HM := Sl.mk hM
  have HB0 := Sl.mk (below_al (Below.refl w.heap.size w) (.cells #[.string ⟨#[]⟩, .string ⟨#[]⟩, .int .i64 0, .slice none 0 0, .slice none 0 0, .slice none 0 0, .slice none 0 0] 28))
  have HZ := Sl.mk (Blk.new w 28 #[.string ⟨#[]⟩, .string ⟨#[]⟩, .int .i64 0, .slice none 0 0, .slice none 0 0, .slice none 0 0, .slice none 0 0])
  clear hR hM
  by_cases hl : 4096 < s.length
  · have HC := Sl.mk (show R = (mf0, 0, 2) by rw [← HRR.out]; unfold parseM; rw [if_pos hl])
    have hl' : (4096 : Int) < (s.length : Int) := by omega
    go_enter Tryd.func8, Tryd.ntmps8
    go_wp2_with fail
    refine bodyPost_ret (v := .tuple #[.agg #[.string ⟨#[]⟩, .string ⟨#[]⟩, .int .i64 0, .slice none 0 0, .slice none 0 0, .slice none 0 0, .slice none 0 0], .int .i64 0, .int .i64 2]) (results_cell2 Tryd.results8 _ _ _ rfl HZ.out Tryd.underlying28 mfSize rfl rfl) rfl ?_
    rw [HC.out]
    exact ⟨HB0.out, ⟨none, 0, 0⟩, ⟨none, 0, 0⟩, ⟨none, 0, 0⟩, ⟨none, 0, 0⟩, rfl, mfr_zero _⟩
  have hl' : ¬ (4096 : Int) < (s.length : Int) := by omega
  have hl4 : s.length ≤ 4096 := by omega
  clear hl
  obtain ⟨L, hL⟩ : ∃ L, linesM s = L := ⟨_, rfl⟩
  have hbl : (bodyM s).length ≤ s.length := by unfold bodyM; split <;> simp
  have hLL : L.length ≤ 4097 ∧ (∀ x ∈ L, x.length ≤ 1000000) ∧ 1 ≤ L.length := by
    rw [← hL]
    unfold linesM
    have h1 := join_split 10 (bodyM s)
    obtain ⟨x, t, h2⟩ := split_cons 10 (bodyM s)
    have h3 : ∀ (p : List Bs) (y : Bs), y ∈ p → y.length ≤ (Lib.join p [10]).length := by
      intro p
      induction p with
      | nil => intro y hy; cases hy
      | cons a p ih =>
        intro y hy
        cases p with
        | nil => rw [List.mem_singleton.1 hy, Lib.join_one]; exact Nat.le_refl _
        | cons b p =>
          have e : Lib.join (a :: b :: p) [10] = a ++ 10 :: Lib.join (b :: p) [10] := by
            rw [Lib.join_cons, Lib.join_cons]; simp [Lib.joinTail]
          rw [e, List.length_append, List.length_cons]
          rcases List.mem_cons.1 hy with rfl | hy
          · omega
          · have := ih y hy; omega
    have h4 : ∀ (p : List Bs), p.length ≤ (Lib.join p [10]).length + 1 := by
      intro p
      induction p with
      | nil => simp
      | cons a p ih =>
        cases p with
        | nil => simp
        | cons b p =>
          have e : Lib.join (a :: b :: p) [10] = a ++ 10 :: Lib.join (b :: p) [10] := by
            rw [Lib.join_cons, Lib.join_cons]; simp [Lib.joinTail]
          rw [e, List.length_append, List.length_cons, List.length_cons]
          simp only [List.length_cons] at ih ⊢
          omega
    refine ⟨?_, fun y hy => ?_, by rw [h2]; simp⟩
    · have := h4 (Lib.split (bodyM s) [10])
      rw [h1] at this
      omega
    · have := h3 _ y hy
      rw [h1] at this
      omega
  have HLL := Sl.mk hLL
  have HLS := Sl.mk hL
  obtain ⟨wz, hwz⟩ : ∃ wz, w.alloc (.cells #[.string ⟨#[]⟩, .string ⟨#[]⟩, .int .i64 0, .slice none 0 0, .slice none 0 0, .slice none 0 0, .slice none 0 0] 28) = wz := ⟨_, rfl⟩
  rw [hwz] at HB0 HZ
  obtain ⟨B, hBd⟩ : ∃ B, bodyM s = B := ⟨_, rfl⟩
  obtain ⟨wh, hwh⟩ : ∃ b, whB s = b := ⟨_, rfl⟩
  have HWH := Sl.mk hwh
  have hsp : Lib.split B [10] = L := by rw [← hL, ← hBd]; rfl
  have HSP := Sl.mk (splits_any B 10 wz (by rw [← hBd]; omega) (HM.out.at_ HB0.out HB0.out.size).mxw)
  rw [hsp] at HSP
  have HCS := Sl.mk (fun W => cuts_any s W hs)
  rw [hBd, hwh] at HCS
  have HWZ := Sl.mk (show wz.heap.size = w.heap.size + 1 by rw [← hwz]; simp)
  clear hsp hBd hwh hbl hL hLL
  go_enter Tryd.func8, Tryd.ntmps8
  go_wp2_with fail
  refine (HCS.out _).mono ?_
  rintro e w1 ⟨rfl, hw1⟩
  rw [hw1]
  clear hw1
  go_wp2_with fail
  refine HSP.out.mono ?_
  rintro e w2 ⟨rfl, hw2⟩
  have HS2s := Sl.mk (show w2.heap.size = w.heap.size + 2 by rw [hw2]; simp [HWZ.out])
  have HB2 := Sl.mk (show Below w.heap.size w w2 by rw [hw2]; exact HB0.out.alloc HB0.out.size _)
  have HZ2 := Sl.mk (show Blk w2 w.heap.size 28 #[.string ⟨#[]⟩, .string ⟨#[]⟩, .int .i64 0, .slice none 0 0, .slice none 0 0, .slice none 0 0, .slice none 0 0] by rw [hw2]; exact HZ.out.alloc _)
  have HS2 := Sl.mk (show Blk w2 wz.heap.size 9 (strsA L).toArray by rw [hw2]; exact Blk.new _ _ _)
  clear hw2 hwz
  obtain ⟨w3, hw3⟩ : ∃ w3, w2.alloc (.cells #[.slice (some ⟨wz.heap.size, 0, none⟩) L.length L.length, .int .i64 0, .string ⟨#[]⟩, .string ⟨#[]⟩, .int .i64 0, .slice none 0 0, .slice none 0 0, .slice none 0 0, .slice none 0 0] 73) = w3 := ⟨_, rfl⟩
  have HB3 := Sl.mk (show Below w.heap.size w w3 by rw [← hw3]; exact HB2.out.alloc HB2.out.size _)
  have HZ3 := Sl.mk (show Blk w3 w.heap.size 28 #[.string ⟨#[]⟩, .string ⟨#[]⟩, .int .i64 0, .slice none 0 0, .slice none 0 0, .slice none 0 0, .slice none 0 0] by rw [← hw3]; exact HZ2.out.alloc _)
  have HS3 := Sl.mk (show Blk w3 wz.heap.size 9 (strsA L).toArray by rw [← hw3]; exact HS2.out.alloc _)
  have HR3 := Sl.mk (show Blk w3 w2.heap.size 73 #[.slice (some ⟨wz.heap.size, 0, none⟩) L.length L.length, .int .i64 0, .string ⟨#[]⟩, .string ⟨#[]⟩, .int .i64 0, .slice none 0 0, .slice none 0 0, .slice none 0 0, .slice none 0 0] by rw [← hw3]; exact Blk.new _ _ _)
  have HS3s := Sl.mk (show w3.heap.size = w2.heap.size + 1 by rw [← hw3]; simp)
  have HLN := Sl.mk (show Lns w3 wz.heap.size L from ⟨fun j x hj => (HS3.out.cell j).trans (by simp [strsA, hj]), HS3.out.lt, HLL.out.2.1, Nat.le_trans HLL.out.1 (by decide)⟩)
  have HE3 := Sl.mk (show Em w3 w2.heap.size from (HM.out.be HB3.out).mono (by have h1 := HWZ.out; have h2 := HS2s.out; have h3 := HS3s.out; omega))
  have HHD := Sl.mk (heads_any w2.heap.size wz.heap.size L w3 HLL.out.2.2 HLN.out (by have h1 := HWZ.out; have h2 := HS2s.out; have h3 := HS3s.out; omega) HE3.out HR3.out)
  obtain ⟨S, hSS⟩ : ∃ S, scanM L = S := ⟨_, rfl⟩
  have HSS := Sl.mk hSS
  clear hSS
  go_upto_region 5 with fail
  clear hw3
  go_cut [8] (fun v8 wx => v8 = .bool S.2.1 ∧ Sl (ReadPost w3 w2.heap.size wz.heap.size L S wx))
  case first =>
    obtain ⟨H, hH⟩ : ∃ H, headsF L = H := ⟨_, rfl⟩
    have HSC := Sl.mk (show S = match headsF L with
      | (none, k) => (mf0, false, k)
      | (some (x, y, n), _) => restsM ⟨x, y, (n : Nat), [], [], [], []⟩ 0 (L.drop 3) 3 from HSS.out.symm.trans (scan_heads L))
    rw [hH] at HSC HHD
    have HH := Sl.mk hH
    clear hH
    go_wp2_with fail
    refine HHD.out.mono ?_
    rintro e w4 ⟨hg4, rfl, a, b, n, hab, hb4⟩
    obtain ⟨r, k⟩ := H
    cases r with
    | none =>
      have HS0 := Sl.mk (show S = (mf0, false, k) from HSC.out)
      have HRP := Sl.mk (show ReadPost w3 w2.heap.size wz.heap.size L S w4 by
        rw [HS0.out]
        exact ⟨⟨a, b, (n : Nat), [], [], [], []⟩, hd0, (Below.refl _ w3).grown hg4 (by have h1 := HWZ.out; have h2 := HS2s.out; have h3 := HS3s.out; omega) (fun g hg => by injection hg with hg; omega), hb4, ls_zero _ _ _ (fun j hj => by match j, hj with | 0, _ => rfl | 1, _ => rfl | 2, _ => rfl | 3, _ => rfl), fun j hj => Nat.zero_le _, fun j hj x hx => by (match j, hj with | 0, _ => cases hx | 1, _ => cases hx | 2, _ => cases hx | 3, _ => cases hx), fun h => by cases h⟩)
      clear hg4 hb4
      go_wp2_with fail
      go_meet
      exact ⟨by rw [HS0.out], HRP⟩
    | some q =>
      obtain ⟨x, y, n2⟩ := q
      obtain ⟨rfl, rfl, rfl⟩ := hab x y n2 rfl
      obtain ⟨hx0, hy0, hk3, hL3⟩ := heads_some HH.out
      subst hk3
      have HS0 := Sl.mk (show S = restsM ⟨a, b, (n : Nat), [], [], [], []⟩ 0 (L.drop 3) 3 from HSC.out)
      have HRE := Sl.mk (rest_any w2.heap.size wz.heap.size L ⟨a, b, (n : Nat), [], [], [], []⟩ hd0 w4 (by have h1 := HWZ.out; have h2 := HS2s.out; have h3 := HS3s.out; omega) (em_only HE3.out hg4 (by have h1 := HWZ.out; have h2 := HS2s.out; have h3 := HS3s.out; omega)) hL3 (HLN.out.only hg4 (by have h1 := HWZ.out; have h2 := HS2s.out; have h3 := HS3s.out; omega)) hb4 (ls_zero _ _ _ (fun j hj => by match j, hj with | 0, _ => rfl | 1, _ => rfl | 2, _ => rfl | 3, _ => rfl)) (fun j hj => Nat.zero_le _) (fun j hj x hx => by (match j, hj with | 0, _ => cases hx | 1, _ => cases hx | 2, _ => cases hx | 3, _ => cases hx)))
      rw [← HS0.out] at HRE
      have HPA := Sl.mk (show S.1.pkg.length ≤ 1000000 ∧ S.1.pub.length ≤ 1000000 by
        obtain ⟨h1, h2⟩ := rests_heads (L.drop 3) ⟨a, b, (n : Nat), [], [], [], []⟩ 0 3
        rw [← HS0.out] at h1 h2
        rw [h1, h2]
        exact ⟨head_len hx0 HLL.out.2.1, head_len hy0 HLL.out.2.1⟩)
      have HG4 := Sl.mk (show Below w2.heap.size w3 w4 from (Below.refl _ w3).grown hg4 (by have h1 := HWZ.out; have h2 := HS2s.out; have h3 := HS3s.out; omega) (fun g hg => by injection hg with hg; omega))
      clear hg4 hb4 hx0 hy0
      go_wp2_with fail
      refine HRE.out.mono ?_
      rintro e w5 ⟨rfl, m, hd, gl, hRS, hok⟩
      have HRP := Sl.mk (show ReadPost w3 w2.heap.size wz.heap.size L S w5 from
        ⟨m, hd, HG4.out.trans hRS.be, hRS.rd, hRS.ls, hRS.nn, hRS.tx, fun h => ⟨hok h, by rw [hok h]; exact HPA.out⟩⟩)
      clear hRS hok
      go_wp2_with fail
      go_meet
      exact ⟨rfl, HRP⟩
  case rest =>
    obtain ⟨rfl, HRP⟩ := hcut
    obtain ⟨m, hd, hbe, hrd, hls, hnn, htx, hok⟩ := HRP.out
    obtain ⟨S1, ok, no⟩ := S
    obtain ⟨N, hN⟩ : ∃ N, L.length = N := ⟨_, rfl⟩
    have hno : no ≤ 5001 := by
      have h1 := HSS.out
      rw [scan_heads] at h1
      have h2 := HLL.out.1
      revert h1
      split
      · rename_i k hk
        intro h1
        injection h1 with _ h1
        injection h1 with _ h1
        subst h1
        unfold headsF at hk
        revert hk
        repeat' split
        all_goals (intro hk; first | (injection hk with _ hk; omega) | (injection hk with hk _; cases hk))
      · rename_i x y n k hk
        intro h1
        have h3 := scan_no (L := L) (k := 5000) (L.drop 3) ⟨x, y, (n : Nat), [], [], [], []⟩ 0 3 (by
          rw [List.length_drop]
          have := (heads_some hk).2.2.2
          omega)
        rw [h1] at h3
        exact h3
    have HBc := Sl.mk (show Below w.heap.size w wc from HB3.out.trans (hbe.mono (by have h1 := HS2s.out; omega)))
    have HZc := Sl.mk (show Blk wc w.heap.size 28 #[.string ⟨#[]⟩, .string ⟨#[]⟩, .int .i64 0, .slice none 0 0, .slice none 0 0, .slice none 0 0, .slice none 0 0] from HZ3.out.below hbe (by have h1 := HS2s.out; omega))
    have HRc := Sl.mk hrd
    have HLc := Sl.mk hls
    have HNc := Sl.mk hnn
    have HTc := Sl.mk htx
    have HOc := Sl.mk hok
    have HNN := Sl.mk hN
    have hN1 : N ≤ 1000000 := by rw [← hN]; exact Nat.le_trans HLL.out.1 (by decide)
    clear hrd hls hnn htx hok hbe hN
    have HPM := Sl.mk (show R = if wh = false then (mf0, ((min no N : Nat) : Int), 3) else if ok = false then (mf0, (no : Int), 3) else if checkM S1 ≠ 0 then (mf0, 0, checkM S1) else (S1, 0, 0) by
      rw [← HRR.out]
      unfold parseM
      rw [if_neg (by omega), HLS.out, HSS.out, HWH.out, HNN.out])
    cases wh
    · have HC := Sl.mk (show R = (mf0, ((min no N : Nat) : Int), 3) from HPM.out.trans (if_pos rfl))
      obtain ⟨k, hk⟩ : ∃ k : Nat, min no N = k := ⟨_, rfl⟩
      rw [hk] at HC
      have hmin : min (no : Int) (N : Int) = (k : Nat) := by omega
      clear hk
      go_wp2_with fail
      obtain ⟨wd, hwd⟩ : ∃ wd, wc.drew = wd := ⟨_, rfl⟩
      have HRd := Sl.mk (show Blk wd w2.heap.size 73 (rdA L wz.heap.size no m hd) by rw [← hwd]; exact HRc.out.drew)
      have HZd := Sl.mk (show Blk wd w.heap.size 28 #[.string ⟨#[]⟩, .string ⟨#[]⟩, .int .i64 0, .slice none 0 0, .slice none 0 0, .slice none 0 0, .slice none 0 0] by rw [← hwd]; exact HZc.out.drew)
      have HBd := Sl.mk (show Below w.heap.size w wd by rw [← hwd]; exact HBc.out.drew)
      have HSF : Sl (∀ W, (Blk W w2.heap.size 73 (rdA L wz.heap.size no m hd) ∧ Blk W w.heap.size 28 #[.string ⟨#[]⟩, .string ⟨#[]⟩, .int .i64 0, .slice none 0 0, .slice none 0 0, .slice none 0 0, .slice none 0 0]) → W.cell? ⟨w2.heap.size, 0, none⟩ = some (.slice (some ⟨wz.heap.size, 0, none⟩) N N) ∧ W.cell? ⟨w2.heap.size, 1, none⟩ = some (.int .i64 no)) :=
        Sl.mk (fun W hW => ⟨(hW.1.cell 0).trans (by unfold rdA; rw [HNN.out]; rfl), hW.1.cell 1⟩)
      refine wp_region_X (fun W => Blk W w2.heap.size 73 (rdA L wz.heap.size no m hd) ∧ Blk W w.heap.size 28 #[.string ⟨#[]⟩, .string ⟨#[]⟩, .int .i64 0, .slice none 0 0, .slice none 0 0, .slice none 0 0, .slice none 0 0]) [14, 15] (by kernel_rfl) (by rw [hwd]; exact ⟨HRd.out, HZd.out⟩) (fun hS => ?_)
      rw [hwd] at hS ⊢
      clear hwd
      refine wpAnyX_S (i := 0) (v := ?_) rfl (by kernel_rfl) (by kernel_rfl) (by kernel_rfl) (by kernel_rfl) (fun _ _ _ h => h) (Or.inl ⟨by rfl, ?_⟩) hS ?_
      rotate_left 1
      · (intro w' hw'; (first | rw [hw'] | (have hw2 := HSF.out w' hw'; (try obtain ⟨hw2, hw3⟩ := hw2)) | skip); go_simp; (try with_reducible rfl))
      simp only [Act.put, List.setIfInBounds_toArray, List.set_cons_zero, List.set_cons_succ]
      refine wpAnyX_S (i := 1) (v := ?_) rfl (by kernel_rfl) (by kernel_rfl) (by kernel_rfl) (by kernel_rfl) (fun _ _ _ h => h) (Or.inl ⟨by rfl, ?_⟩) hS ?_
      rotate_left 1
      · (intro w' hw'; (first | rw [hw'] | (have hw2 := HSF.out w' hw'; (try obtain ⟨hw2, hw3⟩ := hw2)) | skip); go_simp; (try with_reducible rfl))
      simp only [Act.put, List.setIfInBounds_toArray, List.set_cons_zero, List.set_cons_succ]
      refine wpAnyX_S (i := 2) (v := ?_) rfl (by kernel_rfl) (by kernel_rfl) (by kernel_rfl) (by kernel_rfl) (fun _ _ _ h => h) (Or.inl ⟨by rfl, ?_⟩) hS ?_
      rotate_left 1
      · (intro w' hw'; (first | rw [hw'] | (have hw2 := HSF.out w' hw'; (try obtain ⟨hw2, hw3⟩ := hw2)) | skip); go_simp; (try with_reducible rfl))
      simp only [Act.put, List.setIfInBounds_toArray, List.set_cons_zero, List.set_cons_succ]
      refine wpAnyX_S (i := 3) (v := ?_) rfl (by kernel_rfl) (by kernel_rfl) (by kernel_rfl) (by kernel_rfl) (fun _ _ _ h => h) (Or.inl ⟨by rfl, ?_⟩) hS ?_
      rotate_left 1
      · (intro w' hw'; (first | rw [hw'] | (have hw2 := HSF.out w' hw'; (try obtain ⟨hw2, hw3⟩ := hw2)) | skip); go_simp; (try with_reducible rfl))
      simp only [Act.put, List.setIfInBounds_toArray, List.set_cons_zero, List.set_cons_succ]
      refine wpAnyX_S (i := 4) (v := ?_) rfl (by kernel_rfl) (by kernel_rfl) (by kernel_rfl) (by kernel_rfl) (fun _ _ _ h => h) (Or.inl ⟨by rfl, ?_⟩) hS ?_
      rotate_left 1
      · (intro w' hw'; (first | rw [hw'] | (have hw2 := HSF.out w' hw'; (try obtain ⟨hw2, hw3⟩ := hw2)) | skip); go_simp; (try with_reducible rfl))
      simp only [Act.put, List.setIfInBounds_toArray, List.set_cons_zero, List.set_cons_succ]
      refine wpAnyX_S (i := 5) (v := ?_) rfl (by kernel_rfl) (by kernel_rfl) (by kernel_rfl) (by kernel_rfl) (fun _ _ _ h => h) (Or.inl ⟨by rfl, ?_⟩) hS ?_
      rotate_left 1
      · (intro w' hw'; (first | rw [hw'] | (have hw2 := HSF.out w' hw'; (try obtain ⟨hw2, hw3⟩ := hw2)) | skip); go_simp; (try with_reducible rfl))
      simp only [Act.put, List.setIfInBounds_toArray, List.set_cons_zero, List.set_cons_succ]
      refine wpAnyX_S (i := 6) (v := ?_) rfl (by kernel_rfl) (by kernel_rfl) (by kernel_rfl) (by kernel_rfl) (fun _ _ _ h => h) (Or.inl ⟨by rfl, ?_⟩) hS ?_
      rotate_left 1
      · (intro w' hw'; (first | rw [hw'] | (have hw2 := HSF.out w' hw'; (try obtain ⟨hw2, hw3⟩ := hw2)) | skip); go_simp; (try with_reducible rfl))
      simp only [Act.put, List.setIfInBounds_toArray, List.set_cons_zero, List.set_cons_succ]
      refine wpAnyX_S (i := 7) (v := ?_) rfl (by kernel_rfl) (by kernel_rfl) (by kernel_rfl) (by kernel_rfl) (fun _ _ _ h => h) (Or.inl ⟨by rfl, ?_⟩) hS ?_
      rotate_left 1
      · (intro w' hw'; (first | rw [hw'] | (have hw2 := HSF.out w' hw'; (try obtain ⟨hw2, hw3⟩ := hw2)) | skip); go_simp; (try with_reducible rfl))
      simp only [Act.put, List.setIfInBounds_toArray, List.set_cons_zero, List.set_cons_succ]
      refine wpAnyX_S (i := 8) (v := ?_) rfl (by kernel_rfl) (by kernel_rfl) (by kernel_rfl) (by kernel_rfl) (fun _ _ _ h => h) (Or.inl ⟨by rfl, ?_⟩) hS ?_
      rotate_left 1
      · (intro w' hw'; (first | rw [hw'] | (have hw2 := HSF.out w' hw'; (try obtain ⟨hw2, hw3⟩ := hw2)) | skip); go_simp; (try with_reducible rfl))
      simp only [Act.put, List.setIfInBounds_toArray, List.set_cons_zero, List.set_cons_succ]
      refine wpAnyX_S (i := 9) (v := ?_) rfl (by kernel_rfl) (by kernel_rfl) (by kernel_rfl) (by kernel_rfl) (fun _ _ _ h => h) (Or.inl ⟨by rfl, ?_⟩) hS ?_
      rotate_left 1
      · (intro w' hw'; (first | rw [hw'] | (have hw2 := HSF.out w' hw'; (try obtain ⟨hw2, hw3⟩ := hw2)) | skip); go_simp; (try with_reducible rfl))
      simp only [Act.put, List.setIfInBounds_toArray, List.set_cons_zero, List.set_cons_succ]
      refine wpAnyX_S (i := 10) (v := ?_) rfl (by kernel_rfl) (by kernel_rfl) (by kernel_rfl) (by kernel_rfl) (fun _ _ _ h => h) (Or.inl ⟨by rfl, ?_⟩) hS ?_
      rotate_left 1
      · (intro w' hw'; (first | rw [hw'] | (have hw2 := HSF.out w' hw'; (try obtain ⟨hw2, hw3⟩ := hw2)) | skip); go_simp; (try with_reducible rfl))
      simp only [Act.put, List.setIfInBounds_toArray, List.set_cons_zero, List.set_cons_succ]
      refine wpAnyX_S (i := 11) (v := ?_) rfl (by kernel_rfl) (by kernel_rfl) (by kernel_rfl) (by kernel_rfl) (fun _ _ _ h => h) (Or.inl ⟨by rfl, ?_⟩) hS ?_
      rotate_left 1
      · (intro w' hw'; (first | rw [hw'] | (have hw2 := HSF.out w' hw'; (try obtain ⟨hw2, hw3⟩ := hw2)) | skip); go_simp; (try with_reducible rfl))
      simp only [Act.put, List.setIfInBounds_toArray, List.set_cons_zero, List.set_cons_succ]
      refine wpAnyX_S (i := 12) (v := ?_) rfl (by kernel_rfl) (by kernel_rfl) (by kernel_rfl) (by kernel_rfl) (fun _ _ _ h => h) (Or.inl ⟨by rfl, ?_⟩) hS ?_
      rotate_left 1
      · (intro w' hw'; (first | rw [hw'] | (have hw2 := HSF.out w' hw'; (try obtain ⟨hw2, hw3⟩ := hw2)) | skip); go_simp; (try with_reducible rfl))
      simp only [Act.put, List.setIfInBounds_toArray, List.set_cons_zero, List.set_cons_succ]
      refine wpAnyX_oneL (k := 13) rfl (by kernel_rfl) rfl ?_
      refine wp_store_allB 28 (.tmp 2) (.tmp 33) rfl w.heap.size 28 [.string ⟨#[]⟩, .string ⟨#[]⟩, .int .i64 0, .slice none 0 0, .slice none 0 0, .slice none 0 0, .slice none 0 0] [.string ⟨#[]⟩, .string ⟨#[]⟩, .int .i64 0, .slice none 0 0, .slice none 0 0, .slice none 0 0, .slice none 0 0] hS.2 rfl rfl rfl (by rw [mfSize]; rfl) zM_one ?_
      intro w5 hb5 hg5 hs5
      have HB5 := Sl.mk (show Below w.heap.size w w5 from HBd.out.trans ((Below.refl w.heap.size wd).grown hg5 HBd.out.size (fun g hg => by injection hg with hg; omega)))
      have HZ5 := Sl.mk hb5
      refine ⟨fun _ => ⟨hS.1.grown hg5 (fun e => Blk.ne_ hS.1 hS.2 (by decide) (Option.some.inj e)), hb5⟩, ?_⟩
      simp only [Act.put, List.setIfInBounds_toArray, List.set_cons_zero, List.set_cons_succ]
      clear hS hb5 hg5 hs5 HSF
      refine wpAnyX_tailF [14, 15] (by kernel_rfl) (by rfl) (by rfl) (by rfl) ?_
      simp only [List.filterMap_cons, List.filterMap_nil, List.getElem?_cons_succ, List.getElem?_cons_zero]
      go_wp2_with fail
      refine NoPanic.normal ?_
      go_wp2_with fail
      refine bodyPost_ret (v := .tuple #[.agg #[.string ⟨#[]⟩, .string ⟨#[]⟩, .int .i64 0, .slice none 0 0, .slice none 0 0, .slice none 0 0, .slice none 0 0], .int .i64 (k : Nat), .int .i64 3]) (results_cell2 Tryd.results8 _ _ _ rfl HZ5.out Tryd.underlying28 mfSize rfl rfl) rfl ?_
      rw [HC.out]
      exact ⟨HB5.out, ⟨none, 0, 0⟩, ⟨none, 0, 0⟩, ⟨none, 0, 0⟩, ⟨none, 0, 0⟩, rfl, mfr_zero _⟩
    · cases ok
      · have HC := Sl.mk (show R = (mf0, (no : Int), 3) by rw [HPM.out, if_neg (by decide), if_pos rfl])
        go_wp2_with fail
        obtain ⟨wd, hwd⟩ : ∃ wd, wc.drew = wd := ⟨_, rfl⟩
        have HRd := Sl.mk (show Blk wd w2.heap.size 73 (rdA L wz.heap.size no m hd) by rw [← hwd]; exact HRc.out.drew)
        have HZd := Sl.mk (show Blk wd w.heap.size 28 #[.string ⟨#[]⟩, .string ⟨#[]⟩, .int .i64 0, .slice none 0 0, .slice none 0 0, .slice none 0 0, .slice none 0 0] by rw [← hwd]; exact HZc.out.drew)
        have HBd := Sl.mk (show Below w.heap.size w wd by rw [← hwd]; exact HBc.out.drew)
        have HSF : Sl (∀ W, (Blk W w2.heap.size 73 (rdA L wz.heap.size no m hd) ∧ Blk W w.heap.size 28 #[.string ⟨#[]⟩, .string ⟨#[]⟩, .int .i64 0, .slice none 0 0, .slice none 0 0, .slice none 0 0, .slice none 0 0]) → W.cell? ⟨w2.heap.size, 0, none⟩ = some (.slice (some ⟨wz.heap.size, 0, none⟩) N N) ∧ W.cell? ⟨w2.heap.size, 1, none⟩ = some (.int .i64 no)) :=
          Sl.mk (fun W hW => ⟨(hW.1.cell 0).trans (by unfold rdA; rw [HNN.out]; rfl), hW.1.cell 1⟩)
        refine wp_region_X (fun W => Blk W w2.heap.size 73 (rdA L wz.heap.size no m hd) ∧ Blk W w.heap.size 28 #[.string ⟨#[]⟩, .string ⟨#[]⟩, .int .i64 0, .slice none 0 0, .slice none 0 0, .slice none 0 0, .slice none 0 0]) [7, 8] (by kernel_rfl) (by rw [hwd]; exact ⟨HRd.out, HZd.out⟩) (fun hS => ?_)
        rw [hwd] at hS ⊢
        clear hwd
        refine wpAnyX_S (i := 0) (v := ?_) rfl (by kernel_rfl) (by kernel_rfl) (by kernel_rfl) (by kernel_rfl) (fun _ _ _ h => h) (Or.inl ⟨by rfl, ?_⟩) hS ?_
        rotate_left 1
        · (intro w' hw'; (first | rw [hw'] | (have hw2 := HSF.out w' hw'; (try obtain ⟨hw2, hw3⟩ := hw2)) | skip); go_simp; (try with_reducible rfl))
        simp only [Act.put, List.setIfInBounds_toArray, List.set_cons_zero, List.set_cons_succ]
        refine wpAnyX_S (i := 1) (v := ?_) rfl (by kernel_rfl) (by kernel_rfl) (by kernel_rfl) (by kernel_rfl) (fun _ _ _ h => h) (Or.inl ⟨by rfl, ?_⟩) hS ?_
        rotate_left 1
        · (intro w' hw'; (first | rw [hw'] | (have hw2 := HSF.out w' hw'; (try obtain ⟨hw2, hw3⟩ := hw2)) | skip); go_simp; (try with_reducible rfl))
        simp only [Act.put, List.setIfInBounds_toArray, List.set_cons_zero, List.set_cons_succ]
        refine wpAnyX_S (i := 2) (v := ?_) rfl (by kernel_rfl) (by kernel_rfl) (by kernel_rfl) (by kernel_rfl) (fun _ _ _ h => h) (Or.inl ⟨by rfl, ?_⟩) hS ?_
        rotate_left 1
        · (intro w' hw'; (first | rw [hw'] | (have hw2 := HSF.out w' hw'; (try obtain ⟨hw2, hw3⟩ := hw2)) | skip); go_simp; (try with_reducible rfl))
        simp only [Act.put, List.setIfInBounds_toArray, List.set_cons_zero, List.set_cons_succ]
        refine wpAnyX_S (i := 3) (v := ?_) rfl (by kernel_rfl) (by kernel_rfl) (by kernel_rfl) (by kernel_rfl) (fun _ _ _ h => h) (Or.inl ⟨by rfl, ?_⟩) hS ?_
        rotate_left 1
        · (intro w' hw'; (first | rw [hw'] | (have hw2 := HSF.out w' hw'; (try obtain ⟨hw2, hw3⟩ := hw2)) | skip); go_simp; (try with_reducible rfl))
        simp only [Act.put, List.setIfInBounds_toArray, List.set_cons_zero, List.set_cons_succ]
        refine wpAnyX_S (i := 4) (v := ?_) rfl (by kernel_rfl) (by kernel_rfl) (by kernel_rfl) (by kernel_rfl) (fun _ _ _ h => h) (Or.inl ⟨by rfl, ?_⟩) hS ?_
        rotate_left 1
        · (intro w' hw'; (first | rw [hw'] | (have hw2 := HSF.out w' hw'; (try obtain ⟨hw2, hw3⟩ := hw2)) | skip); go_simp; (try with_reducible rfl))
        simp only [Act.put, List.setIfInBounds_toArray, List.set_cons_zero, List.set_cons_succ]
        refine wpAnyX_S (i := 5) (v := ?_) rfl (by kernel_rfl) (by kernel_rfl) (by kernel_rfl) (by kernel_rfl) (fun _ _ _ h => h) (Or.inl ⟨by rfl, ?_⟩) hS ?_
        rotate_left 1
        · (intro w' hw'; (first | rw [hw'] | (have hw2 := HSF.out w' hw'; (try obtain ⟨hw2, hw3⟩ := hw2)) | skip); go_simp; (try with_reducible rfl))
        simp only [Act.put, List.setIfInBounds_toArray, List.set_cons_zero, List.set_cons_succ]
        refine wpAnyX_oneL (k := 6) rfl (by kernel_rfl) rfl ?_
        refine wp_store_allB 28 (.tmp 2) (.tmp 49) rfl w.heap.size 28 [.string ⟨#[]⟩, .string ⟨#[]⟩, .int .i64 0, .slice none 0 0, .slice none 0 0, .slice none 0 0, .slice none 0 0] [.string ⟨#[]⟩, .string ⟨#[]⟩, .int .i64 0, .slice none 0 0, .slice none 0 0, .slice none 0 0, .slice none 0 0] hS.2 rfl rfl rfl (by rw [mfSize]; rfl) zM_one ?_
        intro w5 hb5 hg5 hs5
        have HB5 := Sl.mk (show Below w.heap.size w w5 from HBd.out.trans ((Below.refl w.heap.size wd).grown hg5 HBd.out.size (fun g hg => by injection hg with hg; omega)))
        have HZ5 := Sl.mk hb5
        refine ⟨fun _ => ⟨hS.1.grown hg5 (fun e => Blk.ne_ hS.1 hS.2 (by decide) (Option.some.inj e)), hb5⟩, ?_⟩
        simp only [Act.put, List.setIfInBounds_toArray, List.set_cons_zero, List.set_cons_succ]
        clear hS hb5 hg5 hs5 HSF
        refine wpAnyX_tailF [7, 8] (by kernel_rfl) (by rfl) (by rfl) (by rfl) ?_
        simp only [List.filterMap_cons, List.filterMap_nil, List.getElem?_cons_succ, List.getElem?_cons_zero]
        go_wp2_with fail
        refine NoPanic.normal ?_
        go_wp2_with fail
        refine bodyPost_ret (v := .tuple #[.agg #[.string ⟨#[]⟩, .string ⟨#[]⟩, .int .i64 0, .slice none 0 0, .slice none 0 0, .slice none 0 0, .slice none 0 0], .int .i64 (no : Nat), .int .i64 3]) (results_cell2 Tryd.results8 _ _ _ rfl HZ5.out Tryd.underlying28 mfSize rfl rfl) rfl ?_
        rw [HC.out]
        exact ⟨HB5.out, ⟨none, 0, 0⟩, ⟨none, 0, 0⟩, ⟨none, 0, 0⟩, ⟨none, 0, 0⟩, rfl, mfr_zero _⟩
      · have HPC := Sl.mk (show R = if checkM S1 ≠ 0 then (mf0, 0, checkM S1) else (S1, 0, 0) by rw [HPM.out, if_neg (by decide), if_neg (by decide)])
        obtain ⟨hmS, hp1, hp2⟩ := HOc.out rfl
        subst hmS
        have HNB := Sl.mk (show ∀ j, j < 4 → (hd j).n ≤ 1000000 from fun j hj => Nat.le_trans (HNc.out j hj) (by show no ≤ 1000000; omega))
        have HPB := Sl.mk (show m.pkg.length ≤ 1000000 ∧ m.pub.length ≤ 1000000 from ⟨hp1, hp2⟩)
        have HMR := Sl.mk (mfr_of HLc.out HNB.out HTc.out HPB.out)
        have hld : ∀ (W : World), Blk W w2.heap.size 73 (rdA L wz.heap.size no m hd) → ∀ (j : Nat) v, (mfC m (hd 0) (hd 1) (hd 2) (hd 3))[j]? = some v → W.cell? ((⟨w2.heap.size, 2, none⟩ : Addr).add j) = some v := fun W hW j v hj => by
          rw [Addr.add_lit, hW.cell (2 + j)]
          rw [← hj, Nat.add_comm]
          unfold rdA mfC
          simp
        have HLD := Sl.mk hld
        clear hp1 hp2 hld
        have HCK := Sl.mk (check_any m (hd 0) (hd 1) (hd 2) (hd 3) wc (HM.out.at_ HBc.out HBc.out.size) HMR.out)
        unfold CkPost at HCK
        obtain ⟨E, hE⟩ : ∃ E, checkM m = E := ⟨_, rfl⟩
        rw [hE] at HCK HPC
        clear hE
        have hl0 := HLD.out wc HRc.out
        go_wp2_with (refine ld_mf hl0 rfl (.tmp 57) rfl rfl ?_)
        refine HCK.out.mono ?_
        rintro e w4 ⟨rfl, hb4⟩
        have HB4 := Sl.mk (HBc.out.trans (hb4.mono HBc.out.size))
        have HZ4 := Sl.mk (HZc.out.be hb4)
        have hl4' := HLD.out w4 (HRc.out.be hb4)
        have HL4 := Sl.mk (HLc.out.be hb4)
        clear hb4 hl0
        by_cases hE0 : E = 0
        · have HC := Sl.mk (show R = (m, 0, 0) by rw [HPC.out, if_neg (by simp [hE0])])
          subst hE0
          go_wp2_with (first
            | (refine ld_mf hl4' rfl (.tmp 66) rfl rfl ?_)
            | (refine st_m rfl (.tmp 2) (.tmp 67) rfl w.heap.size [.string ⟨#[]⟩, .string ⟨#[]⟩, .int .i64 0, .slice none 0 0, .slice none 0 0, .slice none 0 0, .slice none 0 0] (mfC m (hd 0) (hd 1) (hd 2) (hd 3)) HZ4.out rfl rfl rfl rfl (mfC_one _ _ _ _ _) ?_; intro w5 hb5 hg5 hs5))
          have HB5 := Sl.mk (show Below w.heap.size w w5 from HB4.out.trans ((Below.refl w.heap.size w4).grown hg5 HB4.out.size (fun g hg => by injection hg with hg; omega)))
          have HM5 := Sl.mk (mfr_of (HL4.out.only hg5 (by have h1 := HS2s.out; omega)) HNB.out HTc.out HPB.out)
          refine bodyPost_ret (v := .tuple #[.agg (mfC m (hd 0) (hd 1) (hd 2) (hd 3)).toArray, .int .i64 0, .int .i64 0]) (results_cell2 Tryd.results8 _ _ _ rfl hb5 Tryd.underlying28 mfSize rfl rfl) rfl ?_
          rw [HC.out]
          exact ⟨HB5.out, hd 0, hd 1, hd 2, hd 3, rfl, HM5.out⟩
        · have HC := Sl.mk (show R = (mf0, 0, E) by rw [HPC.out, if_pos hE0])
          have hE0' : (E != 0) = true := by simpa using hE0
          clear hE0
          go_wp2_with (refine st_m rfl (.tmp 2) (.tmp 62) rfl w.heap.size [.string ⟨#[]⟩, .string ⟨#[]⟩, .int .i64 0, .slice none 0 0, .slice none 0 0, .slice none 0 0, .slice none 0 0] [.string ⟨#[]⟩, .string ⟨#[]⟩, .int .i64 0, .slice none 0 0, .slice none 0 0, .slice none 0 0, .slice none 0 0] HZ4.out rfl rfl rfl rfl zM_one ?_; intro w5 hb5 hg5 hs5)
          have HB5 := Sl.mk (show Below w.heap.size w w5 from HB4.out.trans ((Below.refl w.heap.size w4).grown hg5 HB4.out.size (fun g hg => by injection hg with hg; omega)))
          refine bodyPost_ret (v := .tuple #[.agg #[.string ⟨#[]⟩, .string ⟨#[]⟩, .int .i64 0, .slice none 0 0, .slice none 0 0, .slice none 0 0, .slice none 0 0], .int .i64 0, .int .i64 E]) (results_cell2 Tryd.results8 _ _ _ rfl hb5 Tryd.underlying28 mfSize rfl rfl) rfl ?_
          rw [HC.out]
          exact ⟨HB5.out, ⟨none, 0, 0⟩, ⟨none, 0, 0⟩, ⟨none, 0, 0⟩, ⟨none, 0, 0⟩, rfl, mfr_zero _⟩
end Go.Proofs.YtmgblbkmbiiofaaDoor

namespace Go.Proofs.YtmgblbkmbiiofaaDoor
open Go.RowKit
attribute [local go_sem ↓] Go.wp_at_zero Go.wp_at_succ
set_option linter.unusedVariables false
set_option linter.unusedSimpArgs false

theorem two_ofM {α : Type} : ∀ {l : List α}, l.length = 2 → ∃ a b, l = [a, b]
  | [a, b], _ => ⟨a, b, rfl⟩
  | [], h => by simp at h
  | [_], h => by simp at h
  | _ :: _ :: _ :: _, h => by simp at h
theorem eqM_gen (t : TypeId) (x y : It) (w : World) (ht : Tryd.prog.underlying t = some (.struct (Tryd.prog.fieldsOf t))) (hp : Tryd.prog.stoodInHeld t = false)
    (hf : (Tryd.prog.fieldsOf t).toList.map (fun f => (f.type, f.offset, decide (f.name = "_"))) = [(9, 0, false), (9, 1, false)]) :
    (Op.equalIn 10000 t (.agg (itC x).toArray) (.agg (itC y).toArray)).run Tryd.prog w = .ok (decide (x = y)) w := by
  rw [show 10000 = 9999 + 1 from rfl, run_equalIn_struct w 9999 t _ _ ht hp]
  generalize (Tryd.prog.fieldsOf t).toList = fs at hf
  have hlen : fs.length = 2 := by have := congrArg List.length hf; simpa using this
  obtain ⟨f0, f1, rfl⟩ := two_ofM hlen
  clear hlen
  simp only [List.map_cons, List.map_nil, List.cons.injEq, Prod.mk.injEq, and_true, decide_eq_false_iff_not] at hf
  obtain ⟨⟨a0, b0, n0⟩, a1, b1, n1⟩ := hf
  obtain ⟨o1, k1⟩ := x
  obtain ⟨o2, k2⟩ := y
  have hS : ∀ a b : Bs, (Op.equalIn 9999 9 (.string (bsS a)) (.string (bsS b))).run Tryd.prog w = .ok (decide (a = b)) w := fun a b => by
    rw [run_equalIn_string w 9998 9 (bsS a) (bsS b) Tryd.underlying9, bs_beq]
  have p0 : ∀ (a b : Bs), (part 9 #[.string (bsS a), .string (bsS b)] 0).run Tryd.prog w = .ok (.string (bsS a)) w := fun a b => by
    simp [part, isAgg, run_underlying Tryd.underlying9]
  have p1 : ∀ (a b : Bs), (part 9 #[.string (bsS a), .string (bsS b)] 1).run Tryd.prog w = .ok (.string (bsS b)) w := fun a b => by
    simp [part, isAgg, run_underlying Tryd.underlying9]
  show (Op.eqFields 9999 #[.string (bsS o1), .string (bsS k1)] #[.string (bsS o2), .string (bsS k2)] [f0, f1]).run Tryd.prog w = _
  simp only [Op.eqFields, a0, b0, a1, b1, ne_eq, n0, n1, not_false_eq_true, if_true, Sem.run_bind, p0, Result.andThen_ok, hS]
  by_cases e0 : o1 = o2
  · simp only [e0, decide_true, Bool.not_true, Bool.false_eq_true, if_false, Sem.run_bind, p1, Result.andThen_ok, hS]
    by_cases e1 : k1 = k2
    · simp [e1]
    · simp [e1]
  · simp [e0]
theorem neqM (x y : It) (w : World) : (binOp .neq 62 (.agg (itC x).toArray) (.agg (itC y).toArray)).run Tryd.prog w = .ok (.bool (!decide (x = y))) w := by
  rw [run_neq_struct, eqM_gen _ x y w (by kernel_rfl) (by kernel_rfl) (by kernel_rfl)]; rfl
theorem eqlM (x y : It) (w : World) : (binOp .eql 62 (.agg (itC x).toArray) (.agg (itC y).toArray)).run Tryd.prog w = .ok (.bool (decide (x = y))) w := by
  rw [run_eql_struct, eqM_gen _ x y w (by kernel_rfl) (by kernel_rfl) (by kernel_rfl)]; rfl

/-! ### known -/
def k1S : Bs := [112, 97, 99, 107, 97, 103, 101, 32, 97, 10, 112, 117, 98, 108, 105, 115, 104, 101, 114, 32, 98, 10, 114, 101, 118, 105, 115, 105, 111, 110, 32, 49, 10, 112, 108, 117, 103, 32, 112, 32, 110, 101, 116, 10]
def k2S : Bs := [112, 97, 99, 107, 97, 103, 101, 32, 97, 10, 112, 117, 98, 108, 105, 115, 104, 101, 114, 32, 98, 10, 114, 101, 118, 105, 115, 105, 111, 110, 32, 48, 49, 10]
def kIt : It := ⟨[112], [110, 101, 116]⟩
def kM : Mf := ⟨[97], [98], 1, [kIt], [], [], []⟩
theorem known1 : parseM k1S = (kM, 0, 0) := by decide +kernel
theorem known2 : parseM k2S = (mf0, 3, 3) := by decide +kernel
set_option maxRecDepth 100000 in
set_option maxHeartbeats 8000000 in
theorem known_any (w : World) (hE : Em w w.heap.size) : Calls Tryd.prog 7 #[] w (RPost w true) := by
  have HE := Sl.mk hE
  have hp1 := parse_m k1S w (by decide) hE
  rw [known1] at hp1
  have HP1 := Sl.mk hp1
  have HP2 := Sl.mk (fun (W : World) (hW : Below w.heap.size w W) => show Calls Tryd.prog 8 #[.string (bsS k2S)] W (ParsePostM W (mf0, 3, 3)) by
    have h := parse_m k2S W (by decide) (hE.at_ hW hW.size)
    rw [known2] at h
    exact h)
  clear hE hp1
  go_enter Tryd.func7, Tryd.ntmps7
  go_wp2_with fail
  refine HP1.out.mono ?_
  rintro e w1 ⟨hb1, p, q, r, t, rfl, hm⟩
  obtain ⟨A, n, c⟩ := p
  obtain ⟨ab, ao, hA, hbl, hld, _, _⟩ := hm.ip.lit (i := 0) (x := kIt) rfl
  have hn : (1 : Nat) = n := hm.ip.n_
  simp only at hA
  subst hA
  subst hn
  have HB1 := Sl.mk hb1
  have HLD := Sl.mk hld
  have HBL := Sl.mk hbl
  have hEq : ∀ W, (Op.equalIn 10000 62 (.agg #[.string ⟨#[112]⟩, .string ⟨#[110, 101, 116]⟩]) (.agg #[.string ⟨#[112]⟩, .string ⟨#[110, 101, 116]⟩])).run Tryd.prog W = .ok true W := fun W =>
    (eqM_gen 62 kIt kIt W (by kernel_rfl) (by kernel_rfl) (by kernel_rfl)).trans (by rw [decide_eq_true rfl])
  clear hb1 hm hld hbl
  go_wp2_with (refine wpList_store_fresh rfl 28 (.tmp 1) (.tmp 9) rfl 28 [.string ⟨#[]⟩, .string ⟨#[]⟩, .int .i64 0, .slice none 0 0, .slice none 0 0, .slice none 0 0, .slice none 0 0] (mfC kM ⟨some ⟨ab, ao, none⟩, 1, c⟩ q r t) _ rfl rfl rfl rfl (by rw [mfSize]; rfl) (mfC_one _ _ _ _ _) ?_; intro w5 hB5 hb5 hs5; have HB5 := Sl.mk (HB1.out.trans (hb5.mono HB1.out.size)); have HK5 := Sl.mk hB5; have HU5 := Sl.mk hb5; clear hB5 hb5 hs5)
  refine (HP2.out _ HB5.out).mono ?_
  rintro e w6 ⟨hb6, p2, q2, r2, t2, rfl, _⟩
  have HB6 := Sl.mk (HB5.out.trans (hb6.mono HB5.out.size))
  have HK6 := Sl.mk (HK5.out.be hb6)
  have HU6 := Sl.mk (show Below w1.heap.size w1 w6 from HU5.out.trans (hb6.mono HU5.out.size))
  clear hb6
  go_wp2_with (refine wpList_store_fresh rfl 28 (.tmp 4) (.tmp 14) rfl 28 [.string ⟨#[]⟩, .string ⟨#[]⟩, .int .i64 0, .slice none 0 0, .slice none 0 0, .slice none 0 0, .slice none 0 0] (mfC mf0 p2 q2 r2 t2) _ rfl rfl rfl rfl (by rw [mfSize]; rfl) (mfC_one _ _ _ _ _) ?_; intro w7 hB7 hb7 hs7; have HB7 := Sl.mk (HB6.out.trans (hb7.mono HB6.out.size)); have d3 : w7.cell? ⟨w1.heap.size, 3, none⟩ = some (.slice (some ⟨ab, ao, none⟩) 1 c) := (HK6.out.be hb7).cell 3; have i0 : w7.cell? ⟨ab, ao, none⟩ = some (.string ⟨#[112]⟩) := ((HU6.out.trans (hb7.mono HU6.out.size)).cell (p := ⟨ab, ao, none⟩) HBL.out).trans (HLD.out 0 _ rfl); have i1 : w7.cell? ⟨ab, ao + 1, none⟩ = some (.string ⟨#[110, 101, 116]⟩) := ((HU6.out.trans (hb7.mono HU6.out.size)).cell (p := ⟨ab, ao + 1, none⟩) HBL.out).trans (HLD.out 1 _ rfl); clear hB7 hb7 hs7)
  go_ret
  exact ⟨rfl, HB7.out⟩
end Go.Proofs.YtmgblbkmbiiofaaDoor

namespace Go.Proofs.YtmgblbkmbiiofaaDoor
open Go.RowKit
attribute [local go_sem ↓] Go.wp_at_zero Go.wp_at_succ
set_option linter.unusedVariables false
set_option linter.unusedSimpArgs false

theorem rInfo : (Tryd.prog.info? 65).map (fun i => (i.zero, i.size, i.bytes)) = some (some (.agg #[.string ⟨#[]⟩, .string ⟨#[]⟩]), 2, 32) := by kernel_rfl
theorem info_ri : ∃ i, Tryd.prog.info? 65 = some i ∧ i.zero = some (.agg #[.string ⟨#[]⟩, .string ⟨#[]⟩]) ∧ i.size = 2 ∧ i.bytes = 32 := by
  have h := rInfo
  cases hi : Tryd.prog.info? 65 with
  | none => rw [hi] at h; cases h
  | some i =>
    rw [hi] at h
    simp only [Option.map_some, Option.some.injEq, Prod.mk.injEq] at h
    exact ⟨i, rfl, h.1, h.2.1, h.2.2⟩
theorem rmSize : (Tryd.prog.info? 25).map (·.size) = some 7 := by kernel_rfl
/-- Rows of the document's items, owned from a base on, each its own block. -/
def OwnR (w : World) (base : Nat) (h : Hd) (l : List It) : Prop := w.ownsRow base 65 2 h.v h.n (itsC l)
structure LsR (w : World) (base : Nat) (f : Nat → List It) (hd : Nat → Hd) : Prop where
  own : ∀ j, j < 4 → OwnR w base (hd j) (f j)
  apart : ∀ i j, i < 4 → j < 4 → i ≠ j → ∀ g, (hd i).b = some g → (hd j).b ≠ some g
theorem OwnR.n_ {w : World} {base : Nat} {h : Hd} {l : List It} (ho : OwnR w base h l) : l.length = h.n := by
  have h1 : (itsC l).length = h.n * 2 := ho.1
  rw [itsC_len] at h1
  omega
theorem LsR.be {w w' : World} {base : Nat} {f : Nat → List It} {hd : Nat → Hd} (h : LsR w base f hd) (hb : Below w.heap.size w w') : LsR w' base f hd :=
  ⟨fun j hj => own_below (h.own j hj) hb, h.apart⟩
theorem LsR.only {w w' : World} {base rb : Nat} {f : Nat → List It} {hd : Nat → Hd} (h : LsR w base f hd) (hg : w.grownBy w' (some rb)) (hr : rb < base) : LsR w' base f hd :=
  ⟨fun j hj => World.ownsRow.kept (h.own j hj) hg (.inr fun e => by have := ownGe (h.own j hj) e; omega), h.apart⟩
theorem lsR_zero (w : World) (base : Nat) : LsR w base (fun _ => []) hd0 :=
  ⟨fun j hj => World.ownsRow_nil _ _ _ _, fun i j _ _ _ g hg => by cases hg⟩
theorem LsR.add {w w9 : World} {base : Nat} {f f' : Nat → List It} {hd : Nat → Hd} {k : Nat} {y : Hd} (h : LsR w base f hd) (hk : k < 4)
    (ho : OwnR w9 base y (f' k)) (hf : ∀ j, j < 4 → j ≠ k → f' j = f j) (hg : w.grownBy w9 (hd k).b) (hb : y.b = (hd k).b ∨ y.b = some w.heap.size) :
    LsR w9 base f' (updH hd k y) := by
  have hlt : ∀ j, j < 4 → ∀ g, (hd j).b = some g → g < w.heap.size := fun j hj g hg => (World.ownsRow.lt (h.own j hj) _ hg).2
  have hne : ∀ i j, i < 4 → j < 4 → i ≠ j → ∀ g, (updH hd k y i).b = some g → (updH hd k y j).b ≠ some g := by
    intro i j hi hj hij g h1 h2
    unfold updH at h1 h2
    by_cases hik : i = k
    · rw [if_pos hik] at h1
      by_cases hjk : j = k
      · exact hij (hik.trans hjk.symm)
      · rw [if_neg hjk] at h2
        rcases hb with hb | hb
        · exact h.apart k j hk hj (fun e => hjk e.symm) g (hb.symm.trans h1) h2
        · have e : w.heap.size = g := Option.some.inj (hb.symm.trans h1)
          have := hlt j hj g h2
          omega
    · rw [if_neg hik] at h1
      by_cases hjk : j = k
      · rw [if_pos hjk] at h2
        rcases hb with hb | hb
        · exact h.apart i k hi hk hik g h1 (hb.symm.trans h2)
        · have e : w.heap.size = g := Option.some.inj (hb.symm.trans h2)
          have := hlt i hi g h1
          omega
      · rw [if_neg hjk] at h2
        exact h.apart i j hi hj hij g h1 h2
  refine ⟨fun j hj => ?_, hne⟩
  unfold updH
  by_cases hjk : j = k
  · subst hjk
    rw [if_pos rfl]
    exact ho
  · rw [if_neg hjk, hf j hj hjk]
    refine World.ownsRow.kept (h.own j hj) hg ?_
    cases hbj : (hd j).b with
    | none => exact .inl hbj
    | some g =>
      refine .inr fun e => ?_
      have e1 : (hd k).b = some g := e.symm.trans hbj
      exact h.apart k j hk hj (fun e => hjk e.symm) g e1 hbj
def ofA (m : Mf) (hd : Nat → Hd) : Array Value := #[.string (bsS m.pkg), .string (bsS m.pub), .int .i64 m.rev, (hd 0).v, (hd 1).v, (hd 2).v, (hd 3).v]
theorem ofA_upd (m : Mf) (hd : Nat → Hd) (k : Nat) (y : Hd) (hk : k < 4) : (ofA m hd).setIfInBounds (3 + k) y.v = ofA m (updH hd k y) := by
  match k, hk with
  | 0, _ => rfl
  | 1, _ => rfl
  | 2, _ => rfl
  | 3, _ => rfl
/-- How far the lists have been taken over. -/
def parF (m : Mf) (i j : Nat) : Nat → List It := fun k => if k < i then m.at k else if k = i then (m.at k).take j else []
theorem parF_zero (m : Mf) (i : Nat) : ∀ k, parF m i 0 k = if k < i then m.at k else [] := fun k => by
  unfold parF
  split
  · rfl
  · split <;> simp
theorem parF_next (m : Mf) (i : Nat) : parF m i (m.at i).length = parF m (i + 1) 0 := by
  funext k
  rw [parF_zero]
  unfold parF
  by_cases h : k < i
  · rw [if_pos h, if_pos (by omega)]
  · rw [if_neg h]
    by_cases h2 : k = i
    · subst h2
      rw [if_pos rfl, if_pos (by omega), List.take_length]
    · rw [if_neg h2, if_neg (by omega)]
/-- Of under way. -/
structure OfSt (w : World) (ob lb : Nat) (m : Mf) (p s h k : Hd) (f : Nat → List It) (hd : Nat → Hd) (wr : World) : Prop where
  be : Below w.heap.size w wr
  zr : Blk wr (w.heap.size + 1) 25 #[.string ⟨#[]⟩, .string ⟨#[]⟩, .int .i64 0, .slice none 0 0, .slice none 0 0, .slice none 0 0, .slice none 0 0]
  ou : Blk wr ob 25 (ofA m hd)
  la : Blk wr lb 64 #[p.v, s.v, h.v, k.v]
  ls : LsR wr (lb + 1) f hd
theorem OfSt.be_ {w wr w' : World} {ob lb : Nat} {m : Mf} {p s h k : Hd} {f : Nat → List It} {hd : Nat → Hd} (H : OfSt w ob lb m p s h k f hd wr) (hb : Below wr.heap.size wr w') : OfSt w ob lb m p s h k f hd w' :=
  ⟨H.be.trans (hb.mono H.be.size), H.zr.be hb, H.ou.be hb, H.la.be hb, H.ls.be hb⟩
theorem OfSt.add {w wd w9 : World} {ob lb i j : Nat} {m : Mf} {p s h k : Hd} {hd : Nat → Hd} {x : It} {o : Obj} {y : Hd} (H : OfSt w ob lb m p s h k (parF m i j) hd wd) (hi : i < 4) (hob : ob < lb) (hob2 : w.heap.size + 1 < ob) (hx : (m.at i)[j]? = some x)
    (ho : OwnR w9 (lb + 1) y (parF m i j i ++ [x])) (hg : (wd.alloc o).grownBy w9 (hd i).b) (hb : y.b = (hd i).b ∨ y.b = some (wd.alloc o).heap.size) :
    Blk w9 ob 25 (ofA m hd) ∧ OfSt w ob lb m p s h k (parF m i (j + 1)) (updH hd i y) (w9.setCell ⟨ob, 3 + i, none⟩ y.v) := by
  have hal := below_al (Below.refl wd.heap.size wd) o
  have ha := H.be_ hal
  have hne : ∀ {T : TypeId} {g : Nat} {cs : Array Value}, Blk (wd.alloc o) g T cs → 65 ≠ T → some g ≠ (hd i).b := fun hB hT e => own_blk_ne (ha.ls.own i hi) hB hT e.symm
  have hO9 := ha.ou.grown hg (hne ha.ou (by decide))
  have hZ9 := ha.zr.grown hg (hne ha.zr (by decide))
  have hL9 := ha.la.grown hg (hne ha.la (by decide))
  have hsz : w.heap.size ≤ (wd.alloc o).heap.size := ha.be.size
  have hb9 : Below w.heap.size (wd.alloc o) w9 := (Below.refl _ _).grown hg hsz (fun g hg => by have h1 := ownGe (ha.ls.own i hi) hg; omega)
  have hls : LsR w9 (lb + 1) (parF m i (j + 1)) (updH hd i y) := ha.ls.add hi (by
    have e : parF m i (j + 1) i = parF m i j i ++ [x] := by
      unfold parF
      rw [if_neg (Nat.lt_irrefl i), if_neg (Nat.lt_irrefl i), if_pos rfl, if_pos rfl, take_snoc' hx]
    rw [e]; exact ho) (fun k _ hk => by unfold parF; rw [if_neg (c := k = i) hk, if_neg (c := k = i) hk]) hg hb
  have hs := only_setCell (only_refl w9 (some ob)) (3 + i) y.v
  refine ⟨hO9, (ha.be.trans hb9).trans ((Below.refl _ w9).grown hs (by have := hO9.lt; omega) (fun g hg => by injection hg with hg; omega)), hZ9.far (by show w.heap.size + 1 ≠ ob; omega) _, blk_set _ _ _ _ (3 + i) _ _ hO9 (ofA_upd m hd i y hi), hL9.far (by show lb ≠ ob; omega) _, hls.only hs (by omega)⟩
end Go.Proofs.YtmgblbkmbiiofaaDoor
