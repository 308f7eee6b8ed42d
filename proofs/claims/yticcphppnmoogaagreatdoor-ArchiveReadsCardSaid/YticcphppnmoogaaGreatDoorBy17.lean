/-
  The contract of a reader's next.
-/
import Derived.Test.YticcphppnmoogaaGreatDoorBy16
import Derived.Test.YticcphppnmoogaaGreatDoorBy4
import Derived.Test.YticcphppnmoogaaGreatDoorBy10

namespace Go.Proofs.YticcphppnmoogaaGreatDoor
open Go.RowKit
attribute [local go_sem ↓] Go.wp_at_zero Go.wp_at_succ

theorem ExOwn.rdr {w w' : World} {base R : Nat} {x : Ex} {cs : Array Value} (h : ExOwn w base x) (hB : Blk w R 60 cs) (hG : w.grownBy w' (some R)) : ExOwn w' base x :=
  ⟨h.path.kept hG (.inr (own_blk_ne h.path hB (by decide))), h.data.kept hG (.inr (own_blk_ne h.data hB (by decide))), h.plen, h.slen, h.dlen, h.byte⟩
/-- A reader that stands somewhere, and what it has read. -/
structure Rst (w0 w : World) (R : Nat) (b : List Nat) (s : Bool) (A : Option Addr) (m c : Nat) (l : List Ex) : Prop where
  rd : Rdr w w0.heap.size R b s (.slice A m c)
  own : w.ownsRow w0.heap.size 40 4 (.slice A m c) m (exsC l)
  ex : ∀ x ∈ l, ExOwn w w0.heap.size x
  be : Below w0.heap.size w0 w
theorem Rst.step {w0 w w' : World} {R : Nat} {b b' : List Nat} {s s' : Bool} {A : Option Addr} {m c : Nat} {l : List Ex} (h : Rst w0 w R b s A m c l) (hR : Rdr w' w0.heap.size R b' s' (.slice A m c)) (hG : w.grownBy w' (some R)) : Rst w0 w' R b' s' A m c l := by
  obtain ⟨A', c', hB, _⟩ := h.rd.blk
  exact ⟨hR, h.own.kept hG (.inr (own_blk_ne h.own hB (by decide))), fun x hx => (h.ex x hx).rdr hB hG, h.be.grown hG h.be.size (fun k hk => by injection hk with hk; have := h.rd.le; omega)⟩

theorem Rdr.be {w w' : World} {B R : Nat} {b : List Nat} {s : Bool} {v : Value} (h : Rdr w B R b s v) (hb : Below w.heap.size w w') : Rdr w' B R b s v := by
  obtain ⟨⟨A, c, hB, hR, h1, h2⟩, hle⟩ := h
  have := hB.lt
  exact ⟨⟨A, c, hB.below hb hB.lt, hR.below (hb.mono (by omega)), h1, h2⟩, hle⟩
theorem Rst.bel {w0 w w' : World} {R : Nat} {b : List Nat} {s : Bool} {A : Option Addr} {m c : Nat} {l : List Ex} (h : Rst w0 w R b s A m c l) (hb : Below w.heap.size w w') : Rst w0 w' R b s A m c l :=
  ⟨h.rd.be hb, own_below h.own hb, fun x hx => (h.ex x hx).be hb, below_tr h.be hb⟩
/-- A write to an entry of the call's own, that is no entry of the row. -/
theorem Rst.far {w0 w w' : World} {R g : Nat} {b : List Nat} {s : Bool} {A : Option Addr} {m c : Nat} {l : List Ex} {cs : Array Value} (h : Rst w0 w R b s A m c l) (hG : w.grownBy w' (some g)) (hB : Blk w g 40 cs) (hg : w0.heap.size ≤ g) (hl : (Value.slice A m c).ownBlock ≠ some g) : Rst w0 w' R b s A m c l := by
  obtain ⟨⟨A', c', hBk, hR, h1, h2⟩, hle⟩ := h.rd
  exact ⟨⟨⟨A', c', blk_only hBk hG (hBk.ne_ hB (by decide)), hR.grown hG h.be.size (fun k hk => by injection hk with hk; omega), h1, h2⟩, hle⟩, h.own.kept hG (.inr hl),
    fun x hx => ⟨(h.ex x hx).path.kept hG (.inr (own_blk_ne (h.ex x hx).path hB (by decide))), (h.ex x hx).data.kept hG (.inr (own_blk_ne (h.ex x hx).data hB (by decide))), (h.ex x hx).plen, (h.ex x hx).slen, (h.ex x hx).dlen, (h.ex x hx).byte⟩,
    h.be.grown hG h.be.size (fun k hk => by injection hk with hk; omega)⟩
theorem Rst.push {w0 w w' : World} {R : Nat} {b : List Nat} {s : Bool} {A A' : Option Addr} {m c c' : Nat} {l : List Ex} {x : Ex} (h : Rst w0 w R b s A m c l) (hx : ExOwn w w0.heap.size x) (ho : w'.ownsRow w0.heap.size 40 4 (.slice A' (m + 1) c') (m + 1) (exsC l ++ exC x))
    (hg : w.grownBy w' (Value.slice A m c).ownBlock) : Rst w0 (w'.setCell ⟨R, 2, none⟩ (.slice A' (m + 1) c')) R b s A' (m + 1) c' (l ++ [x]) := by
  obtain ⟨⟨Ab, cb, hBk, hR, h1, h2⟩, hle⟩ := h.rd
  have hb' : Blk w' R 60 #[.slice Ab b.length cb, .bool s, .slice A m c] := hBk.grown hg (fun e => own_blk_ne h.own hBk (by decide) e.symm)
  have hG := only_setCell (only_refl w' (some R)) 2 (.slice A' (m + 1) c')
  have hbe : Below w0.heap.size w0 w' := h.be.grown hg h.be.size (fun k hk => ownGe h.own hk)
  refine ⟨⟨⟨Ab, cb, hb'.set_ 2 _, ?_, h1, h2⟩, hle⟩, ?_, fun y hy => ?_, hbe.grown hG hbe.size (fun k hk => by injection hk with hk; omega)⟩
  · exact (hR.grown hg h.be.size (fun k hk => ownGe h.own hk)).setCell hle _
  · have e : exsC (l ++ [x]) = exsC l ++ exC x := by rw [exsC_app]; simp [exsC]
    rw [e]
    exact ho.kept hG (.inr (own_blk_ne ho hb' (by decide)))
  · rcases List.mem_append.1 hy with hy | hy
    · exact ((h.ex y hy).grown h.own (by decide) (by decide) hg).rdr hb' hG
    · simp at hy; subst hy
      exact (hx.grown h.own (by decide) (by decide) hg).rdr hb' hG
structure Read where
  k : Nat
  m : Nat
  p : List Nat
  d : List Nat
  sl : List Nat
  b : List Nat
  s : Bool
def readF (b : List Nat) (s : Bool) : Read :=
  let b1 := restV 1 b; let s1 := shortV 1 b s
  let b2 := restV 2 b1; let s2 := shortV 2 b1 s1
  let n := numF (takeV 1 b2); let b3 := restV 1 b2; let s3 := shortV 1 b2 s2
  let b4 := restV n b3; let s4 := shortV n b3 s3
  let q := numF (takeV 2 b4); let b5 := restV 2 b4; let s5 := shortV 2 b4 s4
  let b6 := restV q b5; let s6 := shortV q b5 s5
  ⟨numF (takeV 1 b), numF (takeV 2 b1), takeV n b3, takeV q b5, takeV 8 b6, restV 8 b6, shortV 8 b6 s6⟩

theorem restV_byte {n : Nat} {b : List Nat} (h : ∀ x ∈ b, x < 256) : ∀ x ∈ restV n b, x < 256 := by
  unfold restV; split
  · intro x hx; cases hx
  · exact fun x hx => h x (List.mem_of_mem_drop hx)
theorem numF_le {l : List Nat} (h : l.length ≤ 2) (hb : ∀ x ∈ l, x < 256) : numF l ≤ 65535 := by
  match l, h with
  | [], _ => show 0 ≤ 65535; omega
  | [x], _ => have := hb x (by simp); show 0 * 256 + x ≤ 65535; omega
  | [x, y], _ => have := hb x (by simp); have := hb y (by simp); show (0 * 256 + x) * 256 + y ≤ 65535; omega

theorem parseP_len {S : ByteArray} (h : parseE S = 0) : (parseP S).length ≤ 8 ∧ S.size ≤ 160 := by
  unfold parseE at h
  split at h
  · cases h
  · split at h
    · cases h
    · split at h
      · rename_i h1 h2 h3
        unfold rightB at h3
        simp only [Bool.and_eq_true, decide_eq_true_eq] at h3
        exact ⟨h3.1, by omega⟩
      · cases h
theorem parseP_size {S : ByteArray} : ∀ x ∈ parseP S, x.size ≤ S.size := by
  unfold parseP
  split
  · intro x hx; cases hx
  · intro x hx
    have h1 := partsF_size hx
    have h2 := cutF_size S
    omega
theorem sealF_byte (e : En) : ∀ x ∈ sealF e, x < 256 := by
  intro x hx
  have h := List.mem_of_mem_take hx
  simp only [shaF, sumF, bytesF, List.mem_map] at h
  obtain ⟨i, _, rfl⟩ := h
  exact Nat.mod_lt _ (by decide)
def entF (r : Read) : En := ⟨parseP (strN r.p), r.k, r.m, r.d⟩
def nextE (b : List Nat) (s : Bool) (l : List Ex) : Int :=
  if (readF b s).s = true then 4 else if parseE (strN (readF b s).p) ≠ 0 then 10 else if refusedE (entF (readF b s)) l ≠ 0 then refusedE (entF (readF b s)) l else if eqB (readF b s).sl (sealF (entF (readF b s))) = true then 0 else 5
def NextPost (w0 : World) (R : Nat) (b : List Nat) (s : Bool) (m : Nat) (l : List Ex) (e : Ending) (w' : World) : Prop :=
  e = .returned (.int .i64 (nextE b s l)) ∧ Below w0.heap.size w0 w' ∧ (nextE b s l = 0 → ∃ A' c' x, x.e = entF (readF b s) ∧ Rst w0 w' R (readF b s).b (readF b s).s A' (m + 1) c' (l ++ [x]))

set_option maxRecDepth 100000 in
set_option maxHeartbeats 8000000 in
theorem next_any (w0 w : World) (R : Nat) (b : List Nat) (s : Bool) (A : Option Addr) (m c : Nat) (l : List Ex) (hby : ∀ x ∈ b, x < 256) (h : Rst w0 w R b s A m c l) (hm : m ≤ 40) (hM : Mx w0) (hT : Tabs w0) :
    Calls Tryz.prog 22 #[.pointer (some ⟨R, 0, none⟩)] w (NextPost w0 R b s m l) := by
  have HR0 := Sl.mk h
  have HY := Sl.mk hby
  have HM := Sl.mk hM
  have HT := Sl.mk hT
  clear h hby hM hT
  go_enter Tryz.func22, Tryz.ntmps22
  go_upto_region 1 with fail
  go_cut [3] (fun v3 wx => ∃ g, v3 = .pointer (some ⟨g, 0, none⟩) ∧ w.heap.size ≤ g ∧ Blk wx g 40 #[.slice none 0 0, .int .i64 (numF (takeV 1 b)), .int .i64 (numF (takeV 2 (restV 1 b))), .slice none 0 0] ∧ Rst w0 wx R (restV 2 (restV 1 b)) (shortV 2 (restV 1 b) (shortV 1 b s)) A m c l)
  case first =>
    have hN1 := Sl.mk (fun (W : World) (H : Rdr W w0.heap.size R b s (.slice A m c)) => number_any w0.heap.size R 1 b s (.slice A m c) W (by omega) HY.out H)
    have hN2 := Sl.mk (fun (W : World) (H : Rdr W w0.heap.size R (restV 1 b) (shortV 1 b s) (.slice A m c)) => number_any w0.heap.size R 2 (restV 1 b) (shortV 1 b s) (.slice A m c) W (by omega) (restV_byte HY.out) H)
    refine wp_region_X (fun _ => True) [10] (by kernel_rfl) trivial (fun hS => ?_)
    obtain ⟨wd, hwd⟩ : ∃ wd, w.drew = wd := ⟨_, rfl⟩
    have HRd : Sl (Rst w0 wd R b s A m c l) := Sl.mk (by
      rw [← hwd]
      exact HR0.out.bel (Below.refl _ _).drew)
    have hwsz : w.heap.size ≤ wd.heap.size := by rw [← hwd]; exact Nat.le_refl _
    rw [hwd]
    clear hwd
    refine wpAnyX_S (i := 0) (v := ?_) rfl (by kernel_rfl) (by kernel_rfl) (by kernel_rfl) (by kernel_rfl) (fun _ _ _ h => h) (Or.inl ⟨by rfl, ?_⟩) hS ?_
    rotate_left 1
    · (intro w' hw'; (first | rw [hw'] | (have hw2 := HSF.out w' hw') | skip); go_simp; (try with_reducible rfl))
    simp only [Act.put, List.setIfInBounds_toArray, List.set_cons_zero, List.set_cons_succ]
    refine wpAnyX_S (i := 1) (v := ?_) rfl (by kernel_rfl) (by kernel_rfl) (by kernel_rfl) (by kernel_rfl) (fun _ _ _ h => h) (Or.inl ⟨by rfl, ?_⟩) hS ?_
    rotate_left 1
    · (intro w' hw'; (first | rw [hw'] | (have hw2 := HSF.out w' hw') | skip); go_simp; (try with_reducible rfl))
    simp only [Act.put, List.setIfInBounds_toArray, List.set_cons_zero, List.set_cons_succ]
    refine wpAnyX_S (i := 2) (v := ?_) rfl (by kernel_rfl) (by kernel_rfl) (by kernel_rfl) (by kernel_rfl) (fun _ _ _ h => h) (Or.inl ⟨by rfl, ?_⟩) hS ?_
    rotate_left 1
    · (intro w' hw'; (first | rw [hw'] | (have hw2 := HSF.out w' hw') | skip); go_simp; (try with_reducible rfl))
    simp only [Act.put, List.setIfInBounds_toArray, List.set_cons_zero, List.set_cons_succ]
    refine wpAnyX_S (i := 4) (v := ?_) rfl (by kernel_rfl) (by kernel_rfl) (by kernel_rfl) (by kernel_rfl) (fun _ _ _ h => h) (Or.inl ⟨by rfl, ?_⟩) hS ?_
    rotate_left 1
    · (intro w' hw'; (first | rw [hw'] | (have hw2 := HSF.out w' hw') | skip); go_simp; (try with_reducible rfl))
    simp only [Act.put, List.setIfInBounds_toArray, List.set_cons_zero, List.set_cons_succ]
    refine wpAnyX_S (i := 5) (v := ?_) rfl (by kernel_rfl) (by kernel_rfl) (by kernel_rfl) (by kernel_rfl) (fun _ _ _ h => h) (Or.inl ⟨by rfl, ?_⟩) hS ?_
    rotate_left 1
    · (intro w' hw'; (first | rw [hw'] | (have hw2 := HSF.out w' hw') | skip); go_simp; (try with_reducible rfl))
    simp only [Act.put, List.setIfInBounds_toArray, List.set_cons_zero, List.set_cons_succ]
    refine wpAnyX_S (i := 6) (v := ?_) rfl (by kernel_rfl) (by kernel_rfl) (by kernel_rfl) (by kernel_rfl) (fun _ _ _ h => h) (Or.inl ⟨by rfl, ?_⟩) hS ?_
    rotate_left 1
    · (intro w' hw'; (first | rw [hw'] | (have hw2 := HSF.out w' hw') | skip); go_simp; (try with_reducible rfl))
    simp only [Act.put, List.setIfInBounds_toArray, List.set_cons_zero, List.set_cons_succ]
    refine wpAnyX_inv [3, 7, 8, 9] (fun k => if k = 9 then 3 else k + 9) (fun k => if k = 7 then [3] else if k = 8 then [3, 7] else [])
      (fun p σ W => w.heap.size ≤ W.heap.size ∧ Rst w0 W R (if p 7 = true then restV 2 (restV 1 b) else if p 3 = true then restV 1 b else b) (if p 7 = true then shortV 2 (restV 1 b) (shortV 1 b s) else if p 3 = true then shortV 1 b s else s) A m c l ∧ (p 7 = true → p 3 = true) ∧ (p 3 = true → σ 3 = .int .i64 (numF (takeV 1 b))) ∧ (p 7 = true → σ 7 = .int .i64 (numF (takeV 2 (restV 1 b)))) ∧
        (p 8 = true → σ 8 = .agg #[.slice none 0 0, .int .i64 (numF (takeV 1 b)), .int .i64 (numF (takeV 2 (restV 1 b))), .slice none 0 0]) ∧ (p 9 = true → ∃ g, σ 9 = .pointer (some ⟨g, 0, none⟩) ∧ w.heap.size ≤ g ∧ Blk W g 40 #[.slice none 0 0, .int .i64 0, .int .i64 0, .slice none 0 0]))
      _ _ 78 1 (by kernel_rfl) (by decide) (by decide) (by kernel_rfl) (by rfl) (by decide) (fun _ _ _ _ => trivial) ?_ ?_ _ (fun _ => undef) ?_
    · intro k hk a W p σ hI hpk hag hdep
      obtain ⟨hsz, hst, i73, i3, i7, i8, i9⟩ := hI
      simp only [List.mem_cons, List.not_mem_nil, or_false] at hk
      have e11 : a.tmps[11]?.getD undef = .pointer (some ⟨R, 0, none⟩) := ev_at ((hag 11 (by decide)).trans rfl)
      have e15 : a.tmps[15]?.getD undef = .pointer (some ⟨R, 0, none⟩) := ev_at ((hag 15 (by decide)).trans rfl)
      obtain ⟨Ab, cb, hbk, -⟩ := hst.rd.blk
      rcases hk with rfl | rfl | rfl | rfl
      all_goals simp only [List.getElem?_cons_succ, List.getElem?_cons_zero, Option.getD_some, Nat.reduceBEq, Bool.or_false, Bool.or_true, Nat.reduceEqDiff, if_true, if_false]
      · have p7 : p 7 = false := by
          cases e : p 7 with
          | false => rfl
          | true => rw [i73 e] at hpk; cases hpk
        simp only [hpk, p7, Bool.false_eq_true, if_false] at hst ⊢
        refine wp_of_call (f := 21) (args := #[.pointer (some ⟨R, 0, none⟩), .int .i64 1]) (by go_simp) (hN1.out W hst.rd) (fun e w' hq => ?_)
        obtain ⟨rfl, hr, hG⟩ := hq
        refine ⟨_, rfl, _, rfl, Nat.le_trans hsz hG.size, hst.step hr hG, False.elim, fun _ => rfl, False.elim, i8, fun h => ?_⟩
        obtain ⟨g, h1, h2, h3⟩ := i9 h
        exact ⟨g, h1, h2, blk_only h3 hG (h3.ne_ hbk (by decide))⟩
      · obtain ⟨e12, p3⟩ := hdep 3 (by decide)
        simp only [hpk, p3, Bool.false_eq_true, if_false, if_true] at hst ⊢
        refine wp_of_call (f := 21) (args := #[.pointer (some ⟨R, 0, none⟩), .int .i64 2]) (by go_simp) (hN2.out W hst.rd) (fun e w' hq => ?_)
        obtain ⟨rfl, hr, hG⟩ := hq
        refine ⟨_, rfl, _, rfl, Nat.le_trans hsz hG.size, hst.step hr hG, fun _ => trivial, fun _ => i3 p3, fun _ => rfl, i8, fun h => ?_⟩
        obtain ⟨g, h1, h2, h3⟩ := i9 h
        exact ⟨g, h1, h2, blk_only h3 hG (h3.ne_ hbk (by decide))⟩
      · obtain ⟨e12, p3⟩ := hdep 3 (by decide)
        obtain ⟨e16, p7⟩ := hdep 7 (by decide)
        have e12 : a.tmps[12]?.getD undef = .int .i64 (numF (takeV 1 b)) := ev_at (e12.trans (i3 p3))
        have e16 : a.tmps[16]?.getD undef = .int .i64 (numF (takeV 2 (restV 1 b))) := ev_at (e16.trans (i7 p7))
        exact wp_of_run (by go_simp) ⟨_, rfl, hsz, hst, i73, i3, i7, fun _ => rfl, i9⟩
      · refine wp_of_run (v := .pointer (some ⟨W.heap.size, 0, none⟩)) (w' := W.alloc (.cells #[.slice none 0 0, .int .i64 0, .int .i64 0, .slice none 0 0] 40)) (by go_simp) ⟨_, rfl, Nat.le_trans hsz (by simp), hst.bel (below_al (Below.refl _ _) _), i73, i3, i7, i8, fun _ => ⟨_, rfl, hsz, Blk.new _ _ _⟩⟩
    · intro p σ W hI hall
      obtain ⟨hsz, hst, i73, i3, i7, i8, i9⟩ := hI
      have q7 := hall 7 (by decide)
      obtain ⟨g, h9, hg, hB⟩ := i9 (hall 9 (by decide))
      have h8 := i8 (hall 8 (by decide))
      simp only [q7, if_true] at hst
      simp only [putL, List.foldl]
      rw [h8, h9]
      simp only [Nat.reduceEqDiff, if_true, if_false, Nat.reduceAdd]
      simp only [Act.put, List.setIfInBounds_toArray, List.set_cons_zero, List.set_cons_succ]
      refine wpAnyX_tailF [10] (by kernel_rfl) (by rfl) (by rfl) (by rfl) ?_
      simp only [List.filterMap_cons, List.filterMap_nil, List.getElem?_cons_succ, List.getElem?_cons_zero]
      refine st_en hB rfl (.tmp 3) (.tmp 17) rfl none 0 0 _ _ none 0 0 rfl rfl rfl ?_
      intro w2 hB2 hG _
      have hst2 : Rst w0 w2 R (restV 2 (restV 1 b)) (shortV 2 (restV 1 b) (shortV 1 b s)) A m c l := hst.far hG hB (by have := HR0.out.be.size; omega) (fun e => by have := (HR0.out.own.lt g e).2; omega)
      clear hN1 hN2 HRd HR0
      go_wp2_with fail
      refine NoPanic.normal ?_
      go_wp2_with fail
      go_meet
      exact ⟨g, rfl, hg, hB2, hst2⟩
    · exact ⟨hwsz, HRd.out, (fun h => by cases h), (fun h => by cases h), (fun h => by cases h), (fun h => by cases h), (fun h => by cases h)⟩
  case rest =>
    obtain ⟨g, rfl, hg, hB, hst⟩ := hcut
    have hgA : (Value.slice A m c).ownBlock ≠ some g := fun e => by have := (HR0.out.own.lt g e).2; omega
    have hg0 : w0.heap.size ≤ g := by have := HR0.out.be.size; omega
    have HGA := Sl.mk (And.intro hgA hg0)
    have hy2 := restV_byte (n := 2) (restV_byte (n := 1) HY.out)
    obtain ⟨b2, hb2⟩ : ∃ b2, restV 2 (restV 1 b) = b2 := ⟨_, rfl⟩
    obtain ⟨s2, hs2⟩ : ∃ s2, shortV 2 (restV 1 b) (shortV 1 b s) = s2 := ⟨_, rfl⟩
    obtain ⟨k, hk⟩ : ∃ k, numF (takeV 1 b) = k := ⟨_, rfl⟩
    obtain ⟨md, hmd⟩ : ∃ md, numF (takeV 2 (restV 1 b)) = md := ⟨_, rfl⟩
    rw [hb2, hs2] at hst
    rw [hb2] at hy2
    rw [hk, hmd] at hB
    have H12 := Sl.mk (And.intro hb2 (And.intro hs2 (And.intro hk hmd)))
    have HS2 := Sl.mk hst
    have HB2 := Sl.mk hB
    have HY2 := Sl.mk hy2
    have hn65 := numF_le (l := takeV 1 b2) (by rw [takeV_len]; omega) (takeV_byte hy2)
    clear hgA hg0 hb2 hs2 hk hmd hst hB hy2 HR0 HY
    obtain ⟨n, hn⟩ : ∃ n, numF (takeV 1 b2) = n := ⟨_, rfl⟩
    rw [hn] at hn65
    have HN3 := Sl.mk (fun (W : World) (H : Rst w0 W R b2 s2 A m c l) => number_any w0.heap.size R 1 b2 s2 (.slice A m c) W (by omega) HY2.out H.rd)
    have HT3 := Sl.mk (fun (W : World) (H : Rst w0 W R (restV 1 b2) (shortV 1 b2 s2) A m c l) => take_any w0.heap.size R n (restV 1 b2) (shortV 1 b2 s2) (.slice A m c) W (by omega) H.rd)
    unfold NumPost at HN3
    unfold TakePost at HT3
    rw [hn] at HN3
    have HNN := Sl.mk hn
    clear hn
    have eg1 : ∀ args w, (callFunc 21 args).run Tryz.prog w = .ok (.enter 21 args) w := enters_of Tryz.func21 (by kernel_rfl) rfl
    have eg2 : ∀ args w, (callFunc 20 args).run Tryz.prog w = .ok (.enter 20 args) w := enters_of Tryz.func20 (by kernel_rfl) rfl
    go_wp2_with fail
    go_cut [4] (fun v4 wx => v4 = .string (strN (takeV n (restV 1 b2))) ∧ Blk wx g 40 #[.slice none 0 0, .int .i64 k, .int .i64 md, .slice none 0 0] ∧ Rst w0 wx R (restV n (restV 1 b2)) (shortV n (restV 1 b2) (shortV 1 b2 s2)) A m c l)
    case first =>
      refine wp_region_X (fun _ => True) [8, 9] (by kernel_rfl) trivial (fun hS => ?_)
      obtain ⟨wd, hwd⟩ : ∃ wd, wc.drew = wd := ⟨_, rfl⟩
      have hsd : Rst w0 wd R b2 s2 A m c l := by rw [← hwd]; exact HS2.out.bel (Below.refl _ _).drew
      have hBd : Blk wd g 40 #[.slice none 0 0, .int .i64 k, .int .i64 md, .slice none 0 0] := by rw [← hwd]; exact HB2.out
      rw [hwd]
      clear hwd
      refine wpAnyX_S (i := 0) (v := ?_) rfl (by kernel_rfl) (by kernel_rfl) (by kernel_rfl) (by kernel_rfl) (fun _ _ _ h => h) (Or.inl ⟨by rfl, ?_⟩) hS ?_
      rotate_left 1
      · (intro w' hw'; (first | rw [hw'] | (have hw2 := HSF.out w' hw') | skip); go_simp; (try with_reducible rfl))
      simp only [Act.put, List.setIfInBounds_toArray, List.set_cons_zero, List.set_cons_succ]
      refine wpAnyX_S (i := 1) (v := ?_) rfl (by kernel_rfl) (by kernel_rfl) (by kernel_rfl) (by kernel_rfl) (fun _ _ _ h => h) (Or.inl ⟨by rfl, ?_⟩) hS ?_
      rotate_left 1
      · (intro w' hw'; (first | rw [hw'] | (have hw2 := HSF.out w' hw') | skip); go_simp; (try with_reducible rfl))
      simp only [Act.put, List.setIfInBounds_toArray, List.set_cons_zero, List.set_cons_succ]
      refine wpAnyX_S (i := 2) (v := ?_) rfl (by kernel_rfl) (by kernel_rfl) (by kernel_rfl) (by kernel_rfl) (fun _ _ _ h => h) (Or.inl ⟨by rfl, ?_⟩) hS ?_
      rotate_left 1
      · (intro w' hw'; (first | rw [hw'] | (have hw2 := HSF.out w' hw') | skip); go_simp; (try with_reducible rfl))
      simp only [Act.put, List.setIfInBounds_toArray, List.set_cons_zero, List.set_cons_succ]
      refine wpAnyX_S (i := 3) (v := ?_) rfl (by kernel_rfl) (by kernel_rfl) (by kernel_rfl) (by kernel_rfl) (fun _ _ _ h => h) (Or.inl ⟨by rfl, ?_⟩) hS ?_
      rotate_left 1
      · (intro w' hw'; (first | rw [hw'] | (have hw2 := HSF.out w' hw') | skip); go_simp; (try with_reducible rfl))
      simp only [Act.put, List.setIfInBounds_toArray, List.set_cons_zero, List.set_cons_succ]
      refine wpAnyX_S (i := 4) (v := ?_) rfl (by kernel_rfl) (by kernel_rfl) (by kernel_rfl) (by kernel_rfl) (fun _ _ _ h => h) (Or.inl ⟨by rfl, ?_⟩) hS ?_
      rotate_left 1
      · (intro w' hw'; (first | rw [hw'] | (have hw2 := HSF.out w' hw') | skip); go_simp; (try with_reducible rfl))
      simp only [Act.put, List.setIfInBounds_toArray, List.set_cons_zero, List.set_cons_succ]
      refine wpAnyX_S (i := 5) (v := ?_) rfl (by kernel_rfl) (by kernel_rfl) (by kernel_rfl) (by kernel_rfl) (fun _ _ _ h => h) (Or.inl ⟨by rfl, ?_⟩) hS ?_
      rotate_left 1
      · (intro w' hw'; (first | rw [hw'] | (have hw2 := HSF.out w' hw') | skip); go_simp; (try with_reducible rfl))
      simp only [Act.put, List.setIfInBounds_toArray, List.set_cons_zero, List.set_cons_succ]
      refine wpAnyX_oneL (k := 6) rfl (by kernel_rfl) rfl ?_
      refine wp_of_call (f := 21) (args := #[.pointer (some ⟨R, 0, none⟩), .int .i64 1]) (by go_simp) (HN3.out wd hsd) (fun e w3 hq => ?_)
      obtain ⟨rfl, hr, hG⟩ := hq
      have hs3 := hsd.step hr hG
      obtain ⟨Ab, cb, hbk, -⟩ := hsd.rd.blk
      have hB3 := blk_only hBd hG (hBd.ne_ hbk (by decide))
      refine ⟨_, rfl, fun _ => trivial, ?_⟩
      simp only [Act.put, List.setIfInBounds_toArray, List.set_cons_zero, List.set_cons_succ]
      refine wpAnyX_oneL (k := 7) rfl (by kernel_rfl) rfl ?_
      refine wp_of_call (f := 20) (args := #[.pointer (some ⟨R, 0, none⟩), .int .i64 n]) (by go_simp) (HT3.out w3 hs3) (fun e w4 hq => ?_)
      obtain ⟨Ap, cp, rfl, hop, hr4, hG4⟩ := hq
      have hs4 := hs3.step hr4 hG4
      obtain ⟨Ab3, cb3, hbk3, -⟩ := hs3.rd.blk
      have hB4 := blk_only hB3 hG4 (hB3.ne_ hbk3 (by decide))
      have hcv := conv_str (c := cp) (Reads.of_own hop) (takeV_byte (restV_byte HY2.out))
      refine ⟨_, rfl, fun _ => trivial, ?_⟩
      simp only [Act.put, List.setIfInBounds_toArray, List.set_cons_zero, List.set_cons_succ]
      refine wpAnyX_tailF [8, 9] (by kernel_rfl) (by rfl) (by rfl) (by rfl) ?_
      simp only [List.filterMap_cons, List.filterMap_nil, List.getElem?_cons_succ, List.getElem?_cons_zero]
      have HF := Sl.mk (And.intro hB4 hs4)
      clear hB4 hs4 hbk3 hr4 hG4 hop hB3 hbk hs3 hr hG hBd hsd HN3 HT3
      go_wp2_with fail
      refine NoPanic.normal ?_
      go_wp2_with fail
      go_meet
      exact ⟨rfl, HF.out⟩
    case rest =>
      obtain ⟨rfl, hB, hst⟩ := hcut
      have hy4 := restV_byte (n := n) (restV_byte (n := 1) HY2.out)
      have hyp := takeV_byte (n := n) (restV_byte (n := 1) HY2.out)
      obtain ⟨b4, hb4⟩ : ∃ b4, restV n (restV 1 b2) = b4 := ⟨_, rfl⟩
      obtain ⟨s4, hs4⟩ : ∃ s4, shortV n (restV 1 b2) (shortV 1 b2 s2) = s4 := ⟨_, rfl⟩
      obtain ⟨ps, hps⟩ : ∃ ps, takeV n (restV 1 b2) = ps := ⟨_, rfl⟩
      have hpl : ps.length ≤ 65535 := by rw [← hps, takeV_len]; exact hn65
      rw [hb4] at hy4
      rw [hps] at hyp
      rw [hb4, hs4] at hst
      rw [hps]
      have H34 := Sl.mk (And.intro hb4 (And.intro hs4 hps))
      have HS4 := Sl.mk hst
      have HB4 := Sl.mk hB
      have HY4 := Sl.mk hy4
      have HYP := Sl.mk hyp
      have hq65 := numF_le (l := takeV 2 b4) (by rw [takeV_len]; omega) (takeV_byte hy4)
      clear hb4 hs4 hps hst hB hy4 hyp HN3 HT3 HS2 HB2
      obtain ⟨q, hq⟩ : ∃ q, numF (takeV 2 b4) = q := ⟨_, rfl⟩
      rw [hq] at hq65
      have HN5 := Sl.mk (fun (W : World) (H : Rst w0 W R b4 s4 A m c l) => number_any w0.heap.size R 2 b4 s4 (.slice A m c) W (by omega) HY4.out H.rd)
      have HT5 := Sl.mk (fun (W : World) (H : Rst w0 W R (restV 2 b4) (shortV 2 b4 s4) A m c l) => take_any w0.heap.size R q (restV 2 b4) (shortV 2 b4 s4) (.slice A m c) W (by omega) H.rd)
      unfold NumPost at HN5
      unfold TakePost at HT5
      rw [hq] at HN5
      have HQQ := Sl.mk hq
      clear hq
      go_wp2_with fail
      go_cut [] (fun wx => ∃ Ad cd, Blk wx g 40 #[.slice none 0 0, .int .i64 k, .int .i64 md, .slice Ad q cd] ∧ wx.ownsRow w0.heap.size 5 1 (.slice Ad q cd) q (u8s (takeV q (restV 2 b4))) ∧ Rst w0 wx R (restV q (restV 2 b4)) (shortV q (restV 2 b4) (shortV 2 b4 s4)) A m c l)
      case first =>
        refine wp_region_X (fun _ => True) [8, 9] (by kernel_rfl) trivial (fun hS => ?_)
        obtain ⟨wd, hwd⟩ : ∃ wd, wc.drew = wd := ⟨_, rfl⟩
        have hsd : Rst w0 wd R b4 s4 A m c l := by rw [← hwd]; exact HS4.out.bel (Below.refl _ _).drew
        have hBd : Blk wd g 40 #[.slice none 0 0, .int .i64 k, .int .i64 md, .slice none 0 0] := by rw [← hwd]; exact HB4.out
        rw [hwd]
        clear hwd
        refine wpAnyX_S (i := 0) (v := ?_) rfl (by kernel_rfl) (by kernel_rfl) (by kernel_rfl) (by kernel_rfl) (fun _ _ _ h => h) (Or.inl ⟨by rfl, ?_⟩) hS ?_
        rotate_left 1
        · (intro w' hw'; (first | rw [hw'] | (have hw2 := HSF.out w' hw') | skip); go_simp; (try with_reducible rfl))
        simp only [Act.put, List.setIfInBounds_toArray, List.set_cons_zero, List.set_cons_succ]
        refine wpAnyX_S (i := 1) (v := ?_) rfl (by kernel_rfl) (by kernel_rfl) (by kernel_rfl) (by kernel_rfl) (fun _ _ _ h => h) (Or.inl ⟨by rfl, ?_⟩) hS ?_
        rotate_left 1
        · (intro w' hw'; (first | rw [hw'] | (have hw2 := HSF.out w' hw') | skip); go_simp; (try with_reducible rfl))
        simp only [Act.put, List.setIfInBounds_toArray, List.set_cons_zero, List.set_cons_succ]
        refine wpAnyX_S (i := 2) (v := ?_) rfl (by kernel_rfl) (by kernel_rfl) (by kernel_rfl) (by kernel_rfl) (fun _ _ _ h => h) (Or.inl ⟨by rfl, ?_⟩) hS ?_
        rotate_left 1
        · (intro w' hw'; (first | rw [hw'] | (have hw2 := HSF.out w' hw') | skip); go_simp; (try with_reducible rfl))
        simp only [Act.put, List.setIfInBounds_toArray, List.set_cons_zero, List.set_cons_succ]
        refine wpAnyX_S (i := 3) (v := ?_) rfl (by kernel_rfl) (by kernel_rfl) (by kernel_rfl) (by kernel_rfl) (fun _ _ _ h => h) (Or.inl ⟨by rfl, ?_⟩) hS ?_
        rotate_left 1
        · (intro w' hw'; (first | rw [hw'] | (have hw2 := HSF.out w' hw') | skip); go_simp; (try with_reducible rfl))
        simp only [Act.put, List.setIfInBounds_toArray, List.set_cons_zero, List.set_cons_succ]
        refine wpAnyX_S (i := 4) (v := ?_) rfl (by kernel_rfl) (by kernel_rfl) (by kernel_rfl) (by kernel_rfl) (fun _ _ _ h => h) (Or.inl ⟨by rfl, ?_⟩) hS ?_
        rotate_left 1
        · (intro w' hw'; (first | rw [hw'] | (have hw2 := HSF.out w' hw') | skip); go_simp; (try with_reducible rfl))
        simp only [Act.put, List.setIfInBounds_toArray, List.set_cons_zero, List.set_cons_succ]
        refine wpAnyX_S (i := 5) (v := ?_) rfl (by kernel_rfl) (by kernel_rfl) (by kernel_rfl) (by kernel_rfl) (fun _ _ _ h => h) (Or.inl ⟨by rfl, ?_⟩) hS ?_
        rotate_left 1
        · (intro w' hw'; (first | rw [hw'] | (have hw2 := HSF.out w' hw') | skip); go_simp; (try with_reducible rfl))
        simp only [Act.put, List.setIfInBounds_toArray, List.set_cons_zero, List.set_cons_succ]
        refine wpAnyX_oneL (k := 6) rfl (by kernel_rfl) rfl ?_
        refine wp_of_call (f := 21) (args := #[.pointer (some ⟨R, 0, none⟩), .int .i64 2]) (by go_simp) (HN5.out wd hsd) (fun e w3 hq => ?_)
        obtain ⟨rfl, hr, hG⟩ := hq
        have hs3 := hsd.step hr hG
        obtain ⟨Ab, cb, hbk, -⟩ := hsd.rd.blk
        have hB3 := blk_only hBd hG (hBd.ne_ hbk (by decide))
        refine ⟨_, rfl, fun _ => trivial, ?_⟩
        simp only [Act.put, List.setIfInBounds_toArray, List.set_cons_zero, List.set_cons_succ]
        refine wpAnyX_oneL (k := 7) rfl (by kernel_rfl) rfl ?_
        refine wp_of_call (f := 20) (args := #[.pointer (some ⟨R, 0, none⟩), .int .i64 q]) (by go_simp) (HT5.out w3 hs3) (fun e w4 hq => ?_)
        obtain ⟨Ap, cp, rfl, hop, hr4, hG4⟩ := hq
        have hs5 := hs3.step hr4 hG4
        obtain ⟨Ab3, cb3, hbk3, -⟩ := hs3.rd.blk
        have hB5 := blk_only hB3 hG4 (hB3.ne_ hbk3 (by decide))
        have hop0 := Go.Joins.ownsRow_le hop (hs3.be.size)
        refine ⟨_, rfl, fun _ => trivial, ?_⟩
        simp only [Act.put, List.setIfInBounds_toArray, List.set_cons_zero, List.set_cons_succ]
        refine wpAnyX_tailF [8, 9] (by kernel_rfl) (by rfl) (by rfl) (by rfl) ?_
        simp only [List.filterMap_cons, List.filterMap_nil, List.getElem?_cons_succ, List.getElem?_cons_zero]
        have hGs := only_setCell (only_refl w4 (some g)) 3 (.slice Ap q cp)
        have HF := Sl.mk (show Blk (w4.setCell ⟨g, 3, none⟩ (.slice Ap q cp)) g 40 #[.slice none 0 0, .int .i64 k, .int .i64 md, .slice Ap q cp] ∧ (w4.setCell ⟨g, 3, none⟩ (.slice Ap q cp)).ownsRow w0.heap.size 5 1 (.slice Ap q cp) q (u8s (takeV q (restV 2 b4))) ∧ Rst w0 (w4.setCell ⟨g, 3, none⟩ (.slice Ap q cp)) R (restV q (restV 2 b4)) (shortV q (restV 2 b4) (shortV 2 b4 s4)) A m c l from
          ⟨hB5.set_ 3 _, hop0.kept hGs (.inr (own_blk_ne hop0 hB5 (by decide))), hs5.far hGs hB5 HGA.out.2 HGA.out.1⟩)
        have c3 := hB5.cell 3
        have f3 := hB5.frozen 3
        clear hB5 hs5 hbk3 hr4 hG4 hop hop0 hB3 hbk hs3 hr hG hBd hsd HN5 HT5 hGs
        go_wp2_with fail
        refine NoPanic.normal ?_
        go_wp2_with fail
        go_meet
        exact ⟨Ap, cp, HF.out⟩
      case rest =>
        obtain ⟨Ad, cd, hB, hd, hst⟩ := hcut
        have hy6 := restV_byte (n := q) (restV_byte (n := 2) HY4.out)
        have hyd := takeV_byte (n := q) (restV_byte (n := 2) HY4.out)
        obtain ⟨b6, hb6⟩ : ∃ b6, restV q (restV 2 b4) = b6 := ⟨_, rfl⟩
        obtain ⟨s6, hs6⟩ : ∃ s6, shortV q (restV 2 b4) (shortV 2 b4 s4) = s6 := ⟨_, rfl⟩
        obtain ⟨ds, hds⟩ : ∃ ds, takeV q (restV 2 b4) = ds := ⟨_, rfl⟩
        have hdl : ds.length = q := by rw [← hds, takeV_len]
        rw [hb6] at hy6
        rw [hds] at hyd hd
        rw [hb6, hs6] at hst
        have H56 := Sl.mk (And.intro hb6 (And.intro hs6 hds))
        have HS6 := Sl.mk hst
        have HB6 := Sl.mk hB
        have HY6 := Sl.mk hy6
        have HYD := Sl.mk hyd
        have HD6 := Sl.mk hd
        have HDL := Sl.mk hdl
        have HT7 := Sl.mk (take_any w0.heap.size R 8 b6 s6 (.slice A m c) wc (by omega) hst.rd)
        clear hb6 hs6 hds hst hB hy6 hyd hd hdl HN5 HT5 HS4 HB4
        have hrd : readF b s = ⟨k, md, ps, ds, takeV 8 b6, restV 8 b6, shortV 8 b6 s6⟩ := by
          obtain ⟨q1, q2, q3, q4⟩ := H12.out
          obtain ⟨q5, q6, q7⟩ := H34.out
          obtain ⟨q8, q9, q10⟩ := H56.out
          have q11 := HNN.out
          have q12 := HQQ.out
          unfold readF
          simp only [q1, q2, q3, q4, q11, q5, q6, q7, q12, q8, q9, q10]
        have HRD := Sl.mk hrd
        unfold TakePost at HT7
        clear hrd H12 H34 H56 HNN HQQ HY2 HY4
        go_wp2_with fail
        refine HT7.out.mono ?_
        rintro e w7 ⟨A8, c8, rfl, ho8, hr7, hG7⟩
        obtain ⟨Ab, cb, hbk, -⟩ := HS6.out.rd.blk
        have hs7 := HS6.out.step hr7 hG7
        have hB7 := blk_only HB6.out hG7 (HB6.out.ne_ hbk (by decide))
        have hd7 := HD6.out.kept hG7 (.inr (own_blk_ne HD6.out hbk (by decide)))
        have hsl7 := Go.Joins.ownsRow_le ho8 HS6.out.be.size
        have hysl := takeV_byte (n := 8) HY6.out
        obtain ⟨b7, hb7⟩ : ∃ b7, restV 8 b6 = b7 := ⟨_, rfl⟩
        obtain ⟨s7, hss7⟩ : ∃ s7, shortV 8 b6 s6 = s7 := ⟨_, rfl⟩
        obtain ⟨sl, hsl⟩ : ∃ sl, takeV 8 b6 = sl := ⟨_, rfl⟩
        rw [hb7, hss7] at hs7
        rw [hsl] at hsl7 hysl
        rw [hb7, hss7, hsl] at HRD
        obtain ⟨Ab7, cb7, hbk7, -⟩ := hs7.rd.blk
        have r1 := hbk7.cell 1
        have HS7 := Sl.mk hs7
        have HB7 := Sl.mk hB7
        have HD7 := Sl.mk hd7
        have HSL := Sl.mk hsl7
        have HYS := Sl.mk hysl
        clear hbk hs7 hB7 hd7 hsl7 hysl hb7 hss7 hsl ho8 hr7 hG7 HT7 HS6 HB6 HD6 hbk7
        cases s7
        · have hss := strN_size ps
          obtain ⟨SS, hSS⟩ : ∃ SS, strN ps = SS := ⟨_, rfl⟩
          rw [hSS] at hss ⊢
          have HPR := Sl.mk (parse_any SS w7 (by omega) (HM.out.be HS7.out.be))
          unfold ParsePost at HPR
          have HSSS := Sl.mk hSS
          clear hSS
          go_wp2_with fail
          refine HPR.out.mono ?_
          rintro e w8 ⟨hB8, hpost⟩
          clear r1
          rcases hpost with ⟨hE, rfl⟩ | ⟨hE, Ap, cp, rfl, hop⟩
          · have HE := Sl.mk (show nextE b s l = 10 by unfold nextE; rw [HRD.out]; simp only [HSSS.out, Bool.false_eq_true, if_false, if_pos hE])
            have hE' : (parseE SS != 0) = true := by simpa using hE
            have hbe := below_tr HS7.out.be hB8
            obtain ⟨PE, hPE⟩ : ∃ PE, parseE SS = PE := ⟨_, rfl⟩
            rw [hPE] at hE' ⊢
            clear hE hPE HPR hB8
            go_wp2_with fail
            go_ret
            exact ⟨by rw [HE.out]; rfl, hbe, fun h => by rw [HE.out] at h; cases h⟩
          · obtain ⟨hP8, hSS160⟩ := parseP_len hE
            have hPS := parseP_size (S := SS)
            obtain ⟨PP, hPP⟩ : ∃ PP, parseP SS = PP := ⟨_, rfl⟩
            rw [hPP] at hop hP8 hPS ⊢
            obtain ⟨pl, hpl2⟩ : ∃ pl, PP.length = pl := ⟨_, rfl⟩
            rw [hpl2] at hop hP8 ⊢
            have hs8 := HS7.out.bel hB8
            have hB8e := HB7.out.below hB8 HB7.out.lt
            have hd8 := own_below HD7.out hB8
            have hsl8 := own_below HSL.out hB8
            have hp8 := Go.Joins.ownsRow_le hop HS7.out.be.size
            have hGs := only_setCell (only_refl w8 (some g)) 0 (.slice Ap pl cp)
            have HF := Sl.mk (show Blk (w8.setCell ⟨g, 0, none⟩ (.slice Ap pl cp)) g 40 #[.slice Ap pl cp, .int .i64 k, .int .i64 md, .slice Ad q cd] ∧ (w8.setCell ⟨g, 0, none⟩ (.slice Ap pl cp)).ownsRow w0.heap.size 5 1 (.slice Ad q cd) q (u8s ds) ∧ (w8.setCell ⟨g, 0, none⟩ (.slice Ap pl cp)).ownsRow w0.heap.size 5 1 (.slice A8 8 c8) 8 (u8s sl) ∧ (w8.setCell ⟨g, 0, none⟩ (.slice Ap pl cp)).ownsRow w0.heap.size 9 1 (.slice Ap pl cp) pl (strV PP) ∧ Rst w0 (w8.setCell ⟨g, 0, none⟩ (.slice Ap pl cp)) R b7 false A m c l from
              ⟨hB8e.set_ 0 _, hd8.kept hGs (.inr (own_blk_ne hd8 hB8e (by decide))), hsl8.kept hGs (.inr (own_blk_ne hsl8 hB8e (by decide))), hp8.kept hGs (.inr (own_blk_ne hp8 hB8e (by decide))), hs8.far hGs hB8e HGA.out.2 HGA.out.1⟩)
            have c0 := hB8e.cell 0
            have f0 := hB8e.frozen 0
            have HPP := Sl.mk (And.intro hPP (And.intro hpl2 (And.intro hE hPS)))
            clear hpl2 hPS hPP hE hop hp8 hsl8 hd8 hB8e hs8 hB8 hGs HPR HS7 HB7 HD7 HSL
            go_wp2_with fail
            obtain ⟨w9, hw9⟩ : ∃ w9, w8.setCell ⟨g, 0, none⟩ (.slice Ap pl cp) = w9 := ⟨_, rfl⟩
            rw [hw9] at HF ⊢
            clear hw9 c0 f0
            have hql := HDL.out
            have HX := Sl.mk (show ExOwn w9 w0.heap.size ⟨⟨PP, k, md, ds⟩, Ap, cp, Ad, cd⟩ from by
              obtain ⟨q1, q2, q3, q4⟩ := HPP.out
              exact ⟨by show w9.ownsRow _ _ 1 (.slice Ap PP.length cp) PP.length _; rw [q2]; exact HF.out.2.2.2.1, by show w9.ownsRow _ _ 1 (.slice Ad ds.length cd) ds.length _; rw [hql]; exact HF.out.2.1, by show PP.length ≤ 100; omega, fun s hs => by have := q4 s hs; omega, by show ds.length ≤ 100000; omega, HYD.out⟩)
            have HEN := Sl.mk (show entF (readF b s) = ⟨PP, k, md, ds⟩ by
              obtain ⟨q1, q2, q3, q4⟩ := HPP.out
              rw [HRD.out]; unfold entF; simp only [HSSS.out, q1])
            obtain ⟨wd, hwd⟩ : ∃ wd, w9.drew = wd := ⟨_, rfl⟩
            have hwb : Below w9.heap.size w9 wd := by rw [← hwd]; exact (Below.refl _ _).drew
            have HFd := Sl.mk (show Blk wd g 40 #[.slice Ap pl cp, .int .i64 k, .int .i64 md, .slice Ad q cd] ∧ wd.ownsRow w0.heap.size 5 1 (.slice A8 8 c8) 8 (u8s sl) ∧ Rst w0 wd R b7 false A m c l ∧ ExOwn wd w0.heap.size ⟨⟨PP, k, md, ds⟩, Ap, cp, Ad, cd⟩ from
              ⟨HF.out.1.below hwb HF.out.1.lt, own_below HF.out.2.2.1 hwb, HF.out.2.2.2.2.bel hwb, HX.out.be hwb⟩)
            obtain ⟨Ab9, cb9, hbk9, -⟩ := HFd.out.2.2.1.rd.blk
            have c2 := hbk9.cell 2
            have HLV := Sl.mk (run_loadVar_at wd ⟨g, 0, none⟩ 40 [.slice Ap pl cp, .int .i64 k, .int .i64 md, .slice Ad q cd] _ (fun j v hv => by rw [addr_add0, HFd.out.1.cell j]; simpa using hv) Tryz.underlying40 rfl enSize)
            have HRF := Sl.mk (refused_any ⟨⟨PP, k, md, ds⟩, Ap, cp, Ad, cd⟩ A m c l wd HFd.out.2.2.2.ok (by omega) ⟨Reads.of_own HFd.out.2.2.1.own, fun x hx => (HFd.out.2.2.1.ex x hx).ok⟩ (HM.out.be HFd.out.2.2.1.be))
            have HRF' : Sl (Calls Tryz.prog 33 #[.agg #[.slice Ap pl cp, .int .i64 k, .int .i64 md, .slice Ad q cd], .slice A m c] wd fun e w' => e = .returned (.int .i64 (refusedE ⟨PP, k, md, ds⟩ l)) ∧ Below wd.heap.size wd w') := Sl.mk (by
              have h := HRF.out
              have e1 := HPP.out.2.1
              have : (exC ⟨⟨PP, k, md, ds⟩, Ap, cp, Ad, cd⟩).toArray = #[.slice Ap pl cp, .int .i64 k, .int .i64 md, .slice Ad q cd] := by
                show #[Value.slice Ap PP.length cp, .int .i64 k, .int .i64 md, .slice Ad ds.length cd] = _
                rw [e1, hql]
              rw [this] at h
              exact h)
            have eg3 : ∀ args w, (callFunc 33 args).run Tryz.prog w = .ok (.enter 33 args) w := enters_of Tryz.func33 (by kernel_rfl) rfl
            clear hbk9 HRF hwb
            refine wp_region_X (fun W => W = wd) [5, 6] (by kernel_rfl) hwd (fun hS => ?_)
            rw [hwd] at hS ⊢
            clear hwd
            refine wpAnyX_S (i := 0) (v := .agg #[.slice Ap pl cp, .int .i64 k, .int .i64 md, .slice Ad q cd]) rfl (by kernel_rfl) (by kernel_rfl) (by kernel_rfl) (by kernel_rfl) (fun _ _ _ h => h) (yieldsIf_loadA (by rfl) 40 (.tmp 3) rfl ⟨g, 0, none⟩ _ rfl (fun w' hw' => by rw [hw']; exact HLV.out)) hS ?_
            simp only [Act.put, List.setIfInBounds_toArray, List.set_cons_zero, List.set_cons_succ]
            refine wpAnyX_S (i := 1) (v := ?_) rfl (by kernel_rfl) (by kernel_rfl) (by kernel_rfl) (by kernel_rfl) (fun _ _ _ h => h) (Or.inl ⟨by rfl, ?_⟩) hS ?_
            rotate_left 1
            · (intro w' hw'; (first | rw [hw'] | (have hw2 := HSF.out w' hw') | skip); go_simp; (try with_reducible rfl))
            simp only [Act.put, List.setIfInBounds_toArray, List.set_cons_zero, List.set_cons_succ]
            refine wpAnyX_S (i := 2) (v := ?_) rfl (by kernel_rfl) (by kernel_rfl) (by kernel_rfl) (by kernel_rfl) (fun _ _ _ h => h) (Or.inl ⟨by rfl, ?_⟩) hS ?_
            rotate_left 1
            · (intro w' hw'; (first | rw [hw'] | (have hw2 := HSF.out w' hw') | skip); go_simp; (try with_reducible rfl))
            simp only [Act.put, List.setIfInBounds_toArray, List.set_cons_zero, List.set_cons_succ]
            refine wpAnyX_S (i := 3) (v := ?_) rfl (by kernel_rfl) (by kernel_rfl) (by kernel_rfl) (by kernel_rfl) (fun _ _ _ h => h) (Or.inl ⟨by rfl, ?_⟩) hS ?_
            rotate_left 1
            · (intro w' hw'; (first | rw [hw'] | (have hw2 := HSF.out w' hw') | skip); go_simp; (try with_reducible rfl))
            simp only [Act.put, List.setIfInBounds_toArray, List.set_cons_zero, List.set_cons_succ]
            refine wpAnyX_S (i := 4) (v := ?_) rfl (by kernel_rfl) (by kernel_rfl) (by kernel_rfl) (by kernel_rfl) (fun _ _ _ h => h) (Or.inl ⟨by rfl, ?_⟩) hS ?_
            rotate_left 1
            · (intro w' hw'; (first | rw [hw'] | (have hw2 := HSF.out w' hw') | skip); go_simp; (try with_reducible rfl))
            simp only [Act.put, List.setIfInBounds_toArray, List.set_cons_zero, List.set_cons_succ]
            refine wpAnyX_oneL (k := 5) rfl (by kernel_rfl) rfl ?_
            refine wp_of_call (f := 33) (args := #[.agg #[.slice Ap pl cp, .int .i64 k, .int .i64 md, .slice Ad q cd], .slice A m c]) (by go_simp) HRF'.out (fun e w10 hq => ?_)
            obtain ⟨rfl, hB10⟩ := hq
            refine ⟨_, rfl, fun h => absurd h (by decide), ?_⟩
            simp only [Act.put, List.setIfInBounds_toArray, List.set_cons_zero, List.set_cons_succ]
            refine wpAnyX_tailF [6] (by kernel_rfl) (by rfl) (by rfl) (by rfl) ?_
            simp only [List.filterMap_cons, List.filterMap_nil, List.getElem?_cons_succ, List.getElem?_cons_zero]
            have HF10 := Sl.mk (show Blk w10 g 40 #[.slice Ap pl cp, .int .i64 k, .int .i64 md, .slice Ad q cd] ∧ w10.ownsRow w0.heap.size 5 1 (.slice A8 8 c8) 8 (u8s sl) ∧ Rst w0 w10 R b7 false A m c l ∧ ExOwn w10 w0.heap.size ⟨⟨PP, k, md, ds⟩, Ap, cp, Ad, cd⟩ from
              ⟨HFd.out.1.below hB10 HFd.out.1.lt, own_below HFd.out.2.1 hB10, HFd.out.2.2.1.bel hB10, HFd.out.2.2.2.be hB10⟩)
            clear HRF' HLV c2 hS HFd HF HX hB10
            obtain ⟨RE, hRE⟩ : ∃ RE, refusedE ⟨PP, k, md, ds⟩ l = RE := ⟨_, rfl⟩
            rw [hRE]
            have HRE := Sl.mk hRE
            clear hRE
            go_wp2_with fail
            refine NoPanic.normal ?_
            by_cases hR0 : RE = 0
            · subst hR0
              have HSE : Sl (Calls Tryz.prog 40 #[.agg #[.slice Ap pl cp, .int .i64 k, .int .i64 md, .slice Ad q cd]] w10 fun e w' => ∃ g c, e = .returned (.slice (some ⟨g, 0, none⟩) 8 c) ∧ RdS w' (fun b => b < w'.heap.size) (some ⟨g, 0, none⟩) (sealF ⟨PP, k, md, ds⟩) ∧ Below w10.heap.size w10 w') := Sl.mk (by
                have h := seal_any ⟨⟨PP, k, md, ds⟩, Ap, cp, Ad, cd⟩ w10 HF10.out.2.2.2.ok (HT.out.below HF10.out.2.2.1.be HT.out.1)
                have e1 := HPP.out.2.1
                have : (exC ⟨⟨PP, k, md, ds⟩, Ap, cp, Ad, cd⟩).toArray = #[.slice Ap pl cp, .int .i64 k, .int .i64 md, .slice Ad q cd] := by
                  show #[Value.slice Ap PP.length cp, .int .i64 k, .int .i64 md, .slice Ad ds.length cd] = _
                  rw [e1, hql]
                rw [this] at h
                exact h)
              go_wp2_with (refine ld_en HF10.out.1 rfl (.tmp 3) rfl rfl rfl ?_)
              refine HSE.out.mono ?_
              rintro e w11 ⟨g11, c11, rfl, hr11, hB11⟩
              have HF11 := Sl.mk (show Blk w11 g 40 #[.slice Ap pl cp, .int .i64 k, .int .i64 md, .slice Ad q cd] ∧ w11.ownsRow w0.heap.size 5 1 (.slice A8 8 c8) 8 (u8s sl) ∧ Rst w0 w11 R b7 false A m c l ∧ ExOwn w11 w0.heap.size ⟨⟨PP, k, md, ds⟩, Ap, cp, Ad, cd⟩ from
                ⟨HF10.out.1.below hB11 HF10.out.1.lt, own_below HF10.out.2.1 hB11, HF10.out.2.2.1.bel hB11, HF10.out.2.2.2.be hB11⟩)
              have HBE := Sl.mk (bequal_any A8 (some ⟨g11, 0, none⟩) 8 c8 8 c11 sl (sealF ⟨PP, k, md, ds⟩) w11 HYS.out (sealF_byte _) (Reads.of_own HF11.out.2.1) (reads_rdsN hr11 (fun _ h => h) (sealF_len _)))
              clear HSE HF10 hr11 hB11
              go_wp2_with fail
              refine HBE.out.mono ?_
              rintro e w12 ⟨rfl, rfl⟩
              clear HBE
              cases eq8 : eqB sl (sealF ⟨PP, k, md, ds⟩)
              · have HE := Sl.mk (show nextE b s l = 5 by
                  unfold nextE
                  rw [HEN.out, HRD.out]
                  simp only [HSSS.out, HPP.out.2.2.1, HRE.out, eq8, Bool.false_eq_true, if_false, ne_eq, not_true_eq_false])
                clear eq8
                go_wp2_with fail
                go_ret
                exact ⟨by rw [HE.out]; rfl, HF11.out.2.2.1.be, fun h => by rw [HE.out] at h; cases h⟩
              · have HE := Sl.mk (show nextE b s l = 0 by
                  unfold nextE
                  rw [HEN.out, HRD.out]
                  simp only [HSSS.out, HPP.out.2.2.1, HRE.out, eq8, Bool.false_eq_true, if_false, ne_eq, not_true_eq_false, if_true])
                clear eq8
                go_wp2_with fail
                obtain ⟨wd, hwd⟩ : ∃ wd, w11.drew = wd := ⟨_, rfl⟩
                have hwb : Below w11.heap.size w11 wd := by rw [← hwd]; exact (Below.refl _ _).drew
                have HFe := Sl.mk (show Blk wd g 40 #[.slice Ap pl cp, .int .i64 k, .int .i64 md, .slice Ad q cd] ∧ Rst w0 wd R b7 false A m c l ∧ ExOwn wd w0.heap.size ⟨⟨PP, k, md, ds⟩, Ap, cp, Ad, cd⟩ from
                  ⟨HF11.out.1.below hwb HF11.out.1.lt, HF11.out.2.2.1.bel hwb, HF11.out.2.2.2.be hwb⟩)
                obtain ⟨Ab9, cb9, hbk9, -⟩ := HFe.out.2.1.rd.blk
                have HBK9 := Sl.mk hbk9
                have HSF : Sl (∀ W, Below wd.heap.size wd W → W.cell? ⟨R, 2, none⟩ = some (.slice A m c)) := Sl.mk (fun W hW => (HBK9.out.below hW HBK9.out.lt).cell 2)
                obtain ⟨r0, hr0, hw0, hw1, hw2⟩ := info_parts enInfo
                have HLV : Sl (∀ W, Below wd.heap.size wd W → (loadVar 40 ⟨g, 0, none⟩).run Tryz.prog W = .ok (.agg #[.slice Ap pl cp, .int .i64 k, .int .i64 md, .slice Ad q cd]) W) := Sl.mk (fun W hW => run_loadVar_at W ⟨g, 0, none⟩ 40 [.slice Ap pl cp, .int .i64 k, .int .i64 md, .slice Ad q cd] _ (fun j v hv => by rw [addr_add0, (HFe.out.1.below hW HFe.out.1.lt).cell j]; simpa using hv) Tryz.underlying40 rfl enSize)
                clear HF11 hwb hbk9
                refine wp_region_X (fun W => Below wd.heap.size wd W) [0, 7, 8, 9, 10] (by kernel_rfl) (by rw [hwd]; exact Below.refl _ _) (fun hS => ?_)
                rw [hwd] at hS ⊢
                clear hwd
                refine wpAnyX_P (i := 0) (v := ?_) rfl (by kernel_rfl) (by kernel_rfl) (by kernel_rfl) (by kernel_rfl) (fun _ _ _ h => h) (Or.inl ⟨by rfl, ?_⟩) ?_
                rotate_left 1
                · (intro w' hw'; (first | rw [hw'] | (have hw2 := HSF.out w' hw') | skip); go_simp; (try with_reducible rfl))
                simp only [Act.put, List.setIfInBounds_toArray, List.set_cons_zero, List.set_cons_succ]
                refine wpAnyX_S (i := 1) (v := ?_) rfl (by kernel_rfl) (by kernel_rfl) (by kernel_rfl) (by kernel_rfl) (fun _ _ _ h => h) (Or.inl ⟨by rfl, ?_⟩) hS ?_
                rotate_left 1
                · (intro w' hw'; (first | rw [hw'] | (have hw2 := HSF.out w' hw') | skip); go_simp; (try with_reducible rfl))
                simp only [Act.put, List.setIfInBounds_toArray, List.set_cons_zero, List.set_cons_succ]
                refine wpAnyX_S (i := 2) (v := ?_) rfl (by kernel_rfl) (by kernel_rfl) (by kernel_rfl) (by kernel_rfl) (fun _ _ _ h => h) (Or.inl ⟨by rfl, ?_⟩) hS ?_
                rotate_left 1
                · (intro w' hw'; (first | rw [hw'] | (have hw2 := HSF.out w' hw') | skip); go_simp; (try with_reducible rfl))
                simp only [Act.put, List.setIfInBounds_toArray, List.set_cons_zero, List.set_cons_succ]
                refine wpAnyX_S (i := 3) (v := ?_) rfl (by kernel_rfl) (by kernel_rfl) (by kernel_rfl) (by kernel_rfl) (fun _ _ _ h => h) (Or.inl ⟨by rfl, ?_⟩) hS ?_
                rotate_left 1
                · (intro w' hw'; (first | rw [hw'] | (have hw2 := HSF.out w' hw') | skip); go_simp; (try with_reducible rfl))
                simp only [Act.put, List.setIfInBounds_toArray, List.set_cons_zero, List.set_cons_succ]
                refine wpAnyX_S (i := 4) (v := ?_) rfl (by kernel_rfl) (by kernel_rfl) (by kernel_rfl) (by kernel_rfl) (fun _ _ _ h => h) (Or.inl ⟨by rfl, ?_⟩) hS ?_
                rotate_left 1
                · (intro w' hw'; (first | rw [hw'] | (have hw2 := HSF.out w' hw') | skip); go_simp; (try with_reducible rfl))
                simp only [Act.put, List.setIfInBounds_toArray, List.set_cons_zero, List.set_cons_succ]
                refine wpAnyX_S (i := 5) (v := .agg #[.slice Ap pl cp, .int .i64 k, .int .i64 md, .slice Ad q cd]) rfl (by kernel_rfl) (by kernel_rfl) (by kernel_rfl) (by kernel_rfl) (fun _ _ _ h => h) (yieldsIf_loadA (by rfl) 40 (.tmp 3) rfl ⟨g, 0, none⟩ _ rfl (fun w' hw' => HLV.out w' hw')) hS ?_
                simp only [Act.put, List.setIfInBounds_toArray, List.set_cons_zero, List.set_cons_succ]
                refine wpAnyX_oneL (k := 6) rfl (by kernel_rfl) rfl ?_
                refine wp_of_run (v := .slice (some ⟨wd.heap.size, 0, none⟩) 1 1) (w' := wd.alloc (.cells #[.slice Ap pl cp, .int .i64 k, .int .i64 md, .slice Ad q cd] 40)) (by go_simp) ⟨fun _ => below_al (Below.refl _ _) _, ?_⟩
                simp only [Act.put, List.setIfInBounds_toArray, List.set_cons_zero, List.set_cons_succ]
                refine wpAnyX_tailF [7, 8, 9, 10] (by kernel_rfl) (by rfl) (by rfl) (by rfl) ?_
                simp only [List.filterMap_cons, List.filterMap_nil, List.getElem?_cons_succ, List.getElem?_cons_zero]
                have hba := below_al (Below.refl wd.heap.size wd) (.cells #[.slice Ap pl cp, .int .i64 k, .int .i64 md, .slice Ad q cd] 40)
                have HFa := Sl.mk (And.intro (HFe.out.2.1.bel hba) (HFe.out.2.2.be hba))
                have HBKa := Sl.mk (HBK9.out.below hba HBK9.out.lt)
                have hge := HFe.out.2.1.be.size
                clear HFe HBK9 HSF HLV hS hba
                refine wpList_append_anyG _ rfl (.tmp 72) (.tmp 74) 23 rfl w0.heap.size 40 r0 (.agg #[.slice none 0 0, .int .i64 0, .int .i64 0, .slice none 0 0]) 4 64 Tryz.underlying23 hr0 hw0 hw1 hw2 (by rfl) (by decide) (.slice A m c) m (exsC l) rfl HFa.out.1.own (wd.heap.size + 1) (some ⟨wd.heap.size, 0, none⟩) 1 1 [.slice Ap pl cp, .int .i64 k, .int .i64 md, .slice Ad q cd] rfl (reads_row4 wd _ _ _ _ _) (four_one _ _ _ _ rfl rfl rfl rfl) (by unfold maxLen; omega) (by omega) (by simp; omega) ?_
                intro v9 w9' ho9 hg9 hb9
                obtain ⟨A9, c9, rfl⟩ := ownForm ho9
                have hxc : exC ⟨⟨PP, k, md, ds⟩, Ap, cp, Ad, cd⟩ = [.slice Ap pl cp, .int .i64 k, .int .i64 md, .slice Ad q cd] := by
                  have e1 := HPP.out.2.1
                  show [Value.slice Ap PP.length cp, .int .i64 k, .int .i64 md, .slice Ad ds.length cd] = _
                  rw [e1, hql]
                rw [← hxc] at ho9
                have hpush := HFa.out.1.push HFa.out.2 ho9 hg9
                have hbk := HBKa.out.grown hg9 (fun e => own_blk_ne HFa.out.1.own HBKa.out (by decide) e.symm)
                have c2 := hbk.cell 2
                have f2 := hbk.frozen 2
                have HPU := Sl.mk hpush
                clear ho9 hg9 hb9 hpush hbk HBKa HFa hxc hr0 hw0 hw1 hw2
                go_wp2_with fail
                refine NoPanic.normal ?_
                go_wp2_with fail
                go_ret
                exact ⟨by rw [HE.out]; rfl, HPU.out.be, fun _ => ⟨A9, c9, ⟨⟨PP, k, md, ds⟩, Ap, cp, Ad, cd⟩, HEN.out.symm, by rw [HRD.out]; exact HPU.out⟩⟩
            · have hR' : (RE != 0) = true := by simpa using hR0
              have HE := Sl.mk (show nextE b s l = RE by
                unfold nextE
                rw [HEN.out, HRD.out]
                simp only [HSSS.out, HPP.out.2.2.1, HRE.out, Bool.false_eq_true, if_false, ne_eq, not_true_eq_false, hR0, not_false_eq_true, if_true])
              have HNR := Sl.mk hR0
              clear hR0
              go_wp2_with fail
              go_ret
              exact ⟨by rw [HE.out]; rfl, HF10.out.2.2.1.be, fun h => absurd (HE.out.symm.trans h) HNR.out⟩
        · have HE := Sl.mk (show nextE b s l = 4 by unfold nextE; rw [HRD.out]; rfl)
          have hbe := HS7.out.be
          go_wp2_with fail
          go_ret
          exact ⟨by rw [HE.out]; rfl, hbe, fun h => by rw [HE.out] at h; cases h⟩

end Go.Proofs.YticcphppnmoogaaGreatDoor
