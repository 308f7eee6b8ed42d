/-
  A reader's lists: rows that it owns, apart from one another.
  The contract of a reader's rest.
-/
import Derived.Test.YtmgblbkmbiiofaaDoorMd12

namespace Go.Proofs.YtmgblbkmbiiofaaDoor
open Go.RowKit
attribute [local go_sem ↓] Go.wp_at_zero Go.wp_at_succ
set_option linter.unusedVariables false

set_option maxRecDepth 100000 in
set_option maxHeartbeats 2000000 in
theorem lists_blk (b o : Nat) (w : World) : Calls Tryd.prog 16 #[.pointer (some ⟨b, o, none⟩)] w fun e w' =>
    e = .returned (.slice (some ⟨w.heap.size, 0, none⟩) 4 4) ∧ Below w.heap.size w w' ∧ Blk w' w.heap.size 60 (listsC b o).toArray := by
  go_enter Tryd.func16, Tryd.ntmps16
  go_wp2_with fail
  refine wp_region_quiet_tail 16 (by kernel_rfl) (by kernel_rfl) ?_
  simp only [List.take_succ_cons, List.take_zero, List.drop_succ_cons, List.drop_zero]
  repeat (any_goals (first | go_big_quiet_step (fail) | quiet_step (fail)))
  refine wpQuiet_nil ?_
  intro _ hw'
  obtain ⟨nq, hw''⟩ := hw'
  subst hw''
  go_wp2_with fail
  go_ret
  exact ⟨rfl, below_al (below_drN (Below.refl w.heap.size w) nq) _, Blk.new' (by simp)⟩
def Hd.b (h : Hd) : Option Nat := h.v.ownBlock
/-- The lists' rows: owned from a base on, each its own block. -/
structure Ls (w : World) (base : Nat) (m : Mf) (hd : Nat → Hd) : Prop where
  own : ∀ j, j < 4 → OwnI w base (hd j).A (hd j).n (hd j).c (m.at j)
  apart : ∀ i j, i < 4 → j < 4 → i ≠ j → ∀ g, (hd i).b = some g → (hd j).b ≠ some g
theorem Ls.be {w w' : World} {base : Nat} {m : Mf} {hd : Nat → Hd} (h : Ls w base m hd) (hb : Below w.heap.size w w') : Ls w' base m hd :=
  ⟨fun j hj => own_below (h.own j hj) hb, h.apart⟩
theorem Ls.only {w w' : World} {base rb : Nat} {m : Mf} {hd : Nat → Hd} (h : Ls w base m hd) (hg : w.grownBy w' (some rb)) (hr : rb < base) : Ls w' base m hd :=
  ⟨fun j hj => (h.own j hj).kept hg (.inr fun e => by have := ownGe (h.own j hj) e; omega), h.apart⟩
def updH (hd : Nat → Hd) (k : Nat) (x : Hd) : Nat → Hd := fun j => if j = k then x else hd j
theorem at_add (m : Mf) (k j : Nat) (x : It) (hk : k < 4) (hj : j < 4) : (m.add k x).at j = if j = k then m.at k ++ [x] else m.at j := by
  match k, hk, j, hj with
  | 0, _, 0, _ => rfl
  | 0, _, 1, _ => rfl
  | 0, _, 2, _ => rfl
  | 0, _, 3, _ => rfl
  | 1, _, 0, _ => rfl
  | 1, _, 1, _ => rfl
  | 1, _, 2, _ => rfl
  | 1, _, 3, _ => rfl
  | 2, _, 0, _ => rfl
  | 2, _, 1, _ => rfl
  | 2, _, 2, _ => rfl
  | 2, _, 3, _ => rfl
  | 3, _, 0, _ => rfl
  | 3, _, 1, _ => rfl
  | 3, _, 2, _ => rfl
  | 3, _, 3, _ => rfl
theorem Hd.lt {w : World} {base : Nat} {h : Hd} {l : List It} (ho : OwnI w base h.A h.n h.c l) {g : Nat} (hg : h.b = some g) : g < w.heap.size := World.ownsRow.lt ho _ hg |>.2
theorem Ls.add {w w9 : World} {base : Nat} {m : Mf} {hd : Nat → Hd} {k : Nat} {x : It} {A : Option Addr} {c : Nat} (h : Ls w base m hd) (hk : k < 4)
    (ho : OwnI w9 base A ((hd k).n + 1) c (m.at k ++ [x])) (hg : w.grownBy w9 (hd k).b) (hb : (Value.slice A ((hd k).n + 1) c).ownBlock = (hd k).b ∨ ∃ g, w.heap.size ≤ g ∧ (Value.slice A ((hd k).n + 1) c).ownBlock = some g) :
    Ls w9 base (m.add k x) (updH hd k ⟨A, (hd k).n + 1, c⟩) := by
  have hne : ∀ i j, i < 4 → j < 4 → i ≠ j → ∀ g, (updH hd k ⟨A, (hd k).n + 1, c⟩ i).b = some g → (updH hd k ⟨A, (hd k).n + 1, c⟩ j).b ≠ some g := by
    intro i j hi hj hij g h1 h2
    unfold updH at h1 h2
    by_cases hik : i = k
    · rw [if_pos hik] at h1
      by_cases hjk : j = k
      · exact hij (hik.trans hjk.symm)
      · rw [if_neg hjk] at h2
        rcases hb with hb | ⟨g', hg1, hg2⟩
        · exact h.apart k j hk hj (fun e => hjk e.symm) g (hb.symm.trans h1) h2
        · have e : g' = g := Option.some.inj (hg2.symm.trans h1)
          have := Hd.lt (h.own j hj) h2
          omega
    · rw [if_neg hik] at h1
      by_cases hjk : j = k
      · rw [if_pos hjk] at h2
        rcases hb with hb | ⟨g', hg1, hg2⟩
        · exact h.apart i k hi hk hik g h1 (hb.symm.trans h2)
        · have e : g' = g := Option.some.inj (hg2.symm.trans h2)
          have := Hd.lt (h.own i hi) h1
          omega
      · rw [if_neg hjk] at h2
        exact h.apart i j hi hj hij g h1 h2
  refine ⟨fun j hj => ?_, hne⟩
  rw [at_add m k j x hk hj]
  unfold updH
  by_cases hjk : j = k
  · subst hjk
    rw [if_pos rfl, if_pos rfl]
    exact ho
  · rw [if_neg hjk, if_neg hjk]
    refine (h.own j hj).kept hg ?_
    cases hbj : (hd j).b with
    | none => exact .inl hbj
    | some g =>
      refine .inr fun e => ?_
      have e1 : (hd k).b = some g := e.symm.trans hbj
      exact h.apart k j hk hj (fun e => hjk e.symm) g e1 hbj
end Go.Proofs.YtmgblbkmbiiofaaDoor

namespace Go.Proofs.YtmgblbkmbiiofaaDoor
open Go.RowKit
attribute [local go_sem ↓] Go.wp_at_zero Go.wp_at_succ
set_option linter.unusedVariables false

def rdA (L : List Bs) (lb : Nat) (no : Nat) (m : Mf) (hd : Nat → Hd) : Array Value :=
  #[.slice (some ⟨lb, 0, none⟩) L.length L.length, .int .i64 (no : Nat), .string (bsS m.pkg), .string (bsS m.pub), .int .i64 m.rev, (hd 0).v, (hd 1).v, (hd 2).v, (hd 3).v]
/-- Where a reader stands. -/
structure RSt (w : World) (rb lb gl : Nat) (L : List Bs) (i p : Nat) (m : Mf) (hd : Nat → Hd) (wr : World) : Prop where
  be : Below rb w wr
  rd : Blk wr rb 73 (rdA L lb i m hd)
  ls : Ls wr (rb + 1) m hd
  li : Blk wr gl 60 (listsC rb 2).toArray
  ln : Lns wr lb L
  nn : ∀ j, j < 4 → (hd j).n ≤ i
  tx : ∀ j, j < 4 → ∀ x ∈ m.at j, x.a.length ≤ 1000000 ∧ x.b.length ≤ 1000000
def RestPost (w : World) (rb lb : Nat) (L : List Bs) (R : Mf × Bool × Nat) (e : Ending) (w' : World) : Prop :=
  e = .returned (.bool R.2.1) ∧ ∃ m hd gl, RSt w rb lb gl L R.2.2 0 m hd w' ∧ (R.2.1 = true → m = R.1)
theorem RSt.next {w wr w' : World} {rb lb gl : Nat} {L : List Bs} {i p no : Nat} {m : Mf} {hd : Nat → Hd} (h : RSt w rb lb gl L i p m hd wr) (hg : wr.grownBy w' (some rb)) (hlb : lb < rb)
    (hB : Blk w' rb 73 (rdA L lb no m hd)) (hi : i ≤ no) : RSt w rb lb gl L no p m hd w' :=
  ⟨h.be.trans ((Below.refl rb wr).grown hg (Nat.le_of_lt h.rd.lt) (fun g hg => by injection hg with hg; omega)), hB, h.ls.only hg (Nat.lt_succ_self _),
    h.li.grown hg (fun e => (Blk.ne_ h.li h.rd (by decide)) (Option.some.inj e)), h.ln.only hg (by omega), fun j hj => Nat.le_trans (h.nn j hj) hi, h.tx⟩
theorem RSt.be_ {w wr w' : World} {rb lb gl : Nat} {L : List Bs} {i p : Nat} {m : Mf} {hd : Nat → Hd} (h : RSt w rb lb gl L i p m hd wr) (hb : Below wr.heap.size wr w') : RSt w rb lb gl L i p m hd w' :=
  ⟨h.be.trans (hb.mono (Nat.le_of_lt h.rd.lt)), h.rd.be hb, h.ls.be hb, h.li.be hb, ⟨fun j s hs => (hb.cell (p := ⟨lb, j, none⟩) h.ln.lt).trans (h.ln.cells j s hs), Nat.lt_of_lt_of_le h.ln.lt hb.size, h.ln.len, h.ln.n⟩, h.nn, h.tx⟩
theorem RSt.at_p {w wr : World} {rb lb gl : Nat} {L : List Bs} {i p p' : Nat} {m : Mf} {hd : Nat → Hd} (h : RSt w rb lb gl L i p m hd wr) : RSt w rb lb gl L i p' m hd wr := ⟨h.be, h.rd, h.ls, h.li, h.ln, h.nn, h.tx⟩
theorem restM_len {m : Mf} {p : Nat} {l : Bs} (h : (Lib.split l [32]).length ≠ 3) : restM m p l = none := by
  unfold restM
  split
  · rename_i a b c hs; rw [hs] at h; exact absurd rfl h
  · rfl
theorem restM_three {m : Mf} {p : Nat} {l a b c : Bs} (h : Lib.split l [32] = [a, b, c]) : restM m p l = match findW p a with
    | some k => some (m.add k ⟨b, c⟩, k)
    | none => none := by unfold restM; rw [h]; rfl
theorem findW_here {p : Nat} {a : Bs} (hp : p < 4) (h : wl.getD p [] = a) : findW p a = some p := by rw [← h]; exact findW_at (Nat.le_refl _) hp
theorem findW_next {p : Nat} {a : Bs} (hp : p < 4) (h : wl.getD p [] ≠ a) : findW p a = findW (p + 1) a := by
  unfold findW
  cases hf : wl.findIdx? (· == a) with
  | none => rfl
  | some k =>
    obtain ⟨hlt, he, _⟩ := List.findIdx?_eq_some_iff_getElem.1 hf
    have hk : wl.getD k [] = a := by
      rw [List.getD_eq_getElem?_getD, List.getElem?_eq_getElem hlt]
      exact beq_iff_eq.1 he
    have hne : k ≠ p := fun e => h (by rw [← e]; exact hk)
    simp only []
    by_cases h1 : p ≤ k
    · rw [if_pos h1, if_pos (by omega)]
    · rw [if_neg h1, if_neg (by omega)]
theorem findW_end (a : Bs) : findW 4 a = none := by
  unfold findW
  cases hf : wl.findIdx? (· == a) with
  | none => rfl
  | some k =>
    obtain ⟨hlt, _, _⟩ := List.findIdx?_eq_some_iff_getElem.1 hf
    have : wl.length = 4 := rfl
    simp only []
    rw [if_neg (by omega)]
theorem reads_row2 (w : World) (a b : Value) (t : TypeId) {B : Nat} (hB : w.heap.size < B) : Reads (w.alloc (.cells #[a, b] t)) B 2 (some ⟨w.heap.size, 0, none⟩) 1 [a, b] :=
  ⟨rfl, fun _ => ⟨_, rfl, hB, fun j u hj => by
    have hadd : (⟨w.heap.size, 0, none⟩ : Addr).add j = ⟨w.heap.size, j, none⟩ := by unfold Addr.add; split <;> simp_all
    rw [hadd, (Blk.new w t #[a, b]).cell j]
    simpa using hj⟩⟩
theorem rdA_upd (L : List Bs) (lb no : Nat) (m : Mf) (hd : Nat → Hd) (k : Nat) (x : It) (y : Hd) (hk : k < 4) : (rdA L lb no m hd).setIfInBounds (5 + k) y.v = rdA L lb no (m.add k x) (updH hd k y) := by
  match k, hk with
  | 0, _ => rfl
  | 1, _ => rfl
  | 2, _ => rfl
  | 3, _ => rfl
theorem RSt.add {w wd w9 : World} {rb lb gl : Nat} {L : List Bs} {i p p' k : Nat} {m : Mf} {hd : Nat → Hd} {x : It} {o : Obj} {A : Option Addr} {c : Nat} (h : RSt w rb lb gl L i p m hd wd) (hk : k < 4) (hlb : lb < rb)
    (ho : OwnI w9 (rb + 1) A ((hd k).n + 1) c (m.at k ++ [x])) (hg : (wd.alloc o).grownBy w9 (hd k).b) (hb : (Value.slice A ((hd k).n + 1) c).ownBlock = (hd k).b ∨ (Value.slice A ((hd k).n + 1) c).ownBlock = some (wd.alloc o).heap.size)
    (hn : (hd k).n + 1 ≤ i) (hx : x.a.length ≤ 1000000 ∧ x.b.length ≤ 1000000) :
    Blk w9 rb 73 (rdA L lb i m hd) ∧ RSt w rb lb gl L i p' (m.add k x) (updH hd k ⟨A, (hd k).n + 1, c⟩) (w9.setCell ⟨rb, 5 + k, none⟩ (.slice A ((hd k).n + 1) c)) := by
  have hal := below_al (Below.refl wd.heap.size wd) o
  have ha := h.be_ hal
  have hne : ∀ {T : TypeId} {g : Nat} {cs : Array Value}, Blk (wd.alloc o) g T cs → 62 ≠ T → some g ≠ (hd k).b := fun hB hT e => own_blk_ne (ha.ls.own k hk) hB hT e.symm
  have hR9 : Blk w9 rb 73 (rdA L lb i m hd) := ha.rd.grown hg (hne ha.rd (by decide))
  have hb9 : Below rb (wd.alloc o) w9 := (Below.refl rb _).grown hg (Nat.le_of_lt ha.rd.lt) (fun g hg => by have := ownGe (ha.ls.own k hk) hg; omega)
  have hl9 : Ls w9 (rb + 1) (m.add k x) (updH hd k ⟨A, (hd k).n + 1, c⟩) := ha.ls.add hk ho hg (hb.imp id fun e => ⟨_, Nat.le_refl _, e⟩)
  have hi9 := ha.li.grown hg (hne ha.li (by decide))
  have hs := only_setCell (only_refl w9 (some rb)) (5 + k) (.slice A ((hd k).n + 1) c)
  have hrl := hR9.lt
  refine ⟨hR9, ⟨(ha.be.trans hb9).trans ((Below.refl rb w9).grown hs (Nat.le_of_lt hrl) (fun g hg => by injection hg with hg; omega)), ?_, hl9.only hs (Nat.lt_succ_self _), hi9.grown hs (fun e => Blk.ne_ hi9 hR9 (by decide) (Option.some.inj e)), ?_, fun j hj => ?_, fun j hj y hy => ?_⟩⟩
  · exact blk_set _ _ _ _ (5 + k) _ _ hR9 (rdA_upd L lb i m hd k x ⟨A, (hd k).n + 1, c⟩ hk)
  · refine ⟨fun j s hj => ?_, ?_, ha.ln.len, ha.ln.n⟩
    · refine hs.cell (hb9.cell (p := ⟨lb, j, none⟩) hlb |>.trans (ha.ln.cells j s hj)) (fun e => by have e2 : lb = rb := Option.some.inj e; omega)
    · have h1 := ha.ln.lt
      have h2 := hg.size
      have h3 := hs.size
      omega
  · unfold updH
    by_cases e : j = k
    · rw [if_pos e]; exact hn
    · rw [if_neg e]; exact h.nn j hj
  · rw [at_add m k j x hk hj] at hy
    by_cases e : j = k
    · rw [if_pos e] at hy
      rcases List.mem_append.1 hy with hy | hy
      · exact h.tx k hk y hy
      · rw [List.mem_singleton.1 hy]; exact hx
    · rw [if_neg e] at hy; exact h.tx j hj y hy
theorem rest_nil (m : Mf) (p no : Nat) : restsM m p [] no = (m, true, no + 1) := by rw [restsM]
theorem rest_cons (m : Mf) (p no : Nat) (l : Bs) (r : List Bs) : restsM m p (l :: r) no = match restM m p l with
    | none => (m, false, no + 1)
    | some q => restsM q.1 q.2 r (no + 1) := by rw [restsM]; rfl
set_option maxRecDepth 100000 in
set_option maxHeartbeats 16000000 in
theorem rest_any (rb lb : Nat) (L : List Bs) (m : Mf) (hd : Nat → Hd) (w : World) (hlb : lb < rb) (hM : Em w rb) (hN : 3 ≤ L.length) (hL : Lns w lb L) (hB : Blk w rb 73 (rdA L lb 3 m hd)) (hS : Ls w (rb + 1) m hd)
    (hn : ∀ j, j < 4 → (hd j).n ≤ 3) (ht : ∀ j, j < 4 → ∀ x ∈ m.at j, x.a.length ≤ 1000000 ∧ x.b.length ≤ 1000000) :
    Calls Tryd.prog 21 #[.pointer (some ⟨rb, 0, none⟩)] w (RestPost w rb lb L (restsM m 0 (L.drop 3) 3)) := by
  obtain ⟨N, hNN⟩ : ∃ N, L.length = N := ⟨_, rfl⟩
  obtain ⟨R, hR⟩ : ∃ R, restsM m 0 (L.drop 3) 3 = R := ⟨_, rfl⟩
  rw [hR]
  have HNN := Sl.mk hNN
  have HRR := Sl.mk hR
  have HL := Sl.mk hL
  have HM := Sl.mk hM
  have HB := Sl.mk hB
  have HS := Sl.mk hS
  have HN := Sl.mk hn
  have HT := Sl.mk ht
  have hrl := hB.lt
  have h3 : 3 ≤ N := by omega
  have hN1 : N ≤ 1000000 := by rw [← hNN]; exact hL.n
  obtain ⟨i0, hi0, hz0, hz1, hz2⟩ := info_it
  clear hNN hR hL hM hB hS hn ht hN
  go_enter Tryd.func21, Tryd.ntmps21
  go_wp2_with fail
  go_step3
  go_wp2_with fail
  refine (lists_blk rb 2 w).mono ?_
  rintro e w1 ⟨rfl, hb1, hk1⟩
  have HR0 := Sl.mk (show RSt w rb lb w.heap.size L 3 0 m hd w1 from ⟨hb1.mono (Nat.le_of_lt hrl), HB.out.be hb1, HS.out.be hb1, hk1, ⟨fun j s hs => (hb1.cell (p := ⟨lb, j, none⟩) HL.out.lt).trans (HL.out.cells j s hs), Nat.lt_of_lt_of_le HL.out.lt hb1.size, HL.out.len, HL.out.n⟩, HN.out, HT.out⟩)
  clear hb1 hk1
  go_wp2_with fail
  go_step3
  go_wp2_with fail
  go_loopg [4] (N - 3) (fun q v4 wr => ∃ (i p : Nat) (m2 : Mf) (hd2 : Nat → Hd), q = N - i ∧ i ≤ N ∧ p ≤ 4 ∧ v4 = .int .i64 p ∧ Sl (RSt w rb lb w.heap.size L i p m2 hd2 wr) ∧ Sl (R = restsM m2 p (L.drop i) i))
  case atStart => exact ⟨3, 0, m, hd, rfl, h3, by omega, rfl, HR0, ⟨HRR.out.symm⟩⟩
  case round =>
    obtain ⟨i, p, m2, hd2, hq, hi, hp, rfl, HT, HRs⟩ := hrel
    have HNX := Sl.mk (next_any rb lb L i _ _ _ _ _ _ _ wr (by omega) HT.out.ln (by omega) (HM.out.be HT.out.be) HT.out.rd)
    go_wp2_with fail
    refine HNX.out.mono ?_
    rintro e w2 ⟨hg, hb, h⟩
    rcases h with ⟨hle, rfl⟩ | ⟨s, g, hs, rfl, hg1, hg2, hcb⟩
    · obtain rfl : i = N := by have := HNN.out; omega
      have HC := Sl.mk (show R = (m2, true, i + 1) by rw [HRs.out, List.drop_eq_nil_of_le hle, rest_nil])
      have HF := Sl.mk (HT.out.next (no := i + 1) hg hlb (by rw [HNN.out, Nat.min_self] at hb; unfold rdA; rw [HNN.out]; exact hb) (by omega))
      clear hle hg hb
      go_wp2_with fail
      rw [Exit.noGoto_ret]
      go_ret
      exact ⟨by rw [HC.out]; rfl, m2, hd2, _, by rw [HC.out]; exact HF.out.at_p, fun _ => by rw [HC.out]⟩
    · have hiN : i < N := by
        rw [← HNN.out]
        exact (List.getElem?_eq_some_iff.1 hs).1
      have HF := Sl.mk (HT.out.next (no := i + 1) hg hlb (by rw [HNN.out, Nat.min_eq_left hi] at hb; unfold rdA; rw [HNN.out]; exact hb) (by omega))
      have HRC := Sl.mk (show R = match restM m2 p s with
        | none => (m2, false, i + 1)
        | some q => restsM q.1 q.2 (L.drop (i + 1)) (i + 1) by rw [HRs.out, drop_cons1 hs, rest_cons])
      have HSL := Sl.mk (HL.out.len s (List.mem_of_getElem? hs))
      have HCB := Sl.mk hcb
      clear hg hb hs hcb
      obtain ⟨W, hW⟩ : ∃ W, Lib.split s [32] = W := ⟨_, rfl⟩
      rw [hW] at HCB
      rw [hW]
      by_cases h2 : W.length = 3
      · obtain ⟨a, b, c, rfl⟩ : ∃ a b c, W = [a, b, c] := by
          match W, h2 with
          | [a, b, c], _ => exact ⟨a, b, c, rfl⟩
        have HBC := Sl.mk (show b.length ≤ 1000000 ∧ c.length ≤ 1000000 by
          have h1 := split_three_eq hW
          have h3 := HSL.out
          rw [h1] at h3
          unfold itL at h3
          simp at h3
          omega)
        have HRJ := Sl.mk (show R = match findW p a with
          | some k => restsM (m2.add k ⟨b, c⟩) k (L.drop (i + 1)) (i + 1)
          | none => (m2, false, i + 1) by
            rw [HRC.out, restM_three hW]
            cases findW p a <;> rfl)
        simp only [List.length_cons, List.length_nil]
        clear h2 hW
        go_wp2_with fail
        go_loopg [4] (4 - p) (fun q v4 wx => ∃ j : Nat, q = 4 - j ∧ j ≤ 4 ∧ v4 = .int .i64 j ∧ Sl (RSt w rb lb w.heap.size L (i + 1) p m2 hd2 wx) ∧ Sl (Blk wx g 9 (strsA [a, b, c]).toArray) ∧ Sl (R = match findW j a with
          | some k => restsM (m2.add k ⟨b, c⟩) k (L.drop (i + 1)) (i + 1)
          | none => (m2, false, i + 1)))
        case atStart => exact ⟨p, rfl, hp, rfl, HF, HCB, HRJ⟩
        case round =>
          obtain ⟨j, hqj, hj, rfl, HFd, HCd, HJ⟩ := hrel
          have k0 : wr.cell? ⟨g, 0, none⟩ = some (.string (bsS a)) := HCd.out.cell 0
          match j, hj with
          | 0, _ =>
            have cw : wr.cell? ⟨w.heap.size, 0, none⟩ = some (.string (bsS wPlug)) := HFd.out.li.cell 0
            have he := bs_beq wPlug a
            by_cases ha : wPlug = a
            · rw [decide_eq_true ha] at he
              have HR1 := Sl.mk (show R = restsM (m2.add 0 ⟨b, c⟩) 0 (L.drop (i + 1)) (i + 1) by rw [HJ.out, findW_here (p := 0) (by omega) ha])
              clear ha
              obtain ⟨A, n, c9, hhd⟩ : ∃ A n c9, hd2 0 = ⟨A, n, c9⟩ := ⟨_, _, _, rfl⟩
              have hni : n ≤ i := by
                have h1 := HT.out.nn 0 (by omega)
                rw [hhd] at h1
                exact h1
              have HHD := Sl.mk hhd
              clear hhd
              go_wp2_with fail
              go_quiet (fail)
              go_wp2_with fail
              obtain ⟨wd, hwd⟩ : ∃ wd, (wr.drewN nq).drew = wd := ⟨_, rfl⟩
              have HFw := Sl.mk (show RSt w rb lb w.heap.size L (i + 1) p m2 hd2 wd by rw [← hwd]; exact HFd.out.be_ (below_drN (below_drN (Below.refl _ _) nq) 1))
              have HCw := Sl.mk (show Blk wd g 9 (strsA [a, b, c]).toArray by rw [← hwd]; exact HCd.out.drewN nq)
              have hOw : OwnI wd (rb + 1) A n c9 (m2.at 0) := by
                have h1 := HFw.out.ls.own 0 (by omega)
                rw [HHD.out] at h1
                exact h1
              have HSF : Sl (∀ W, (Blk W rb 73 (rdA L lb (i + 1) m2 hd2) ∧ Blk W w.heap.size 60 (listsC rb 2).toArray ∧ Blk W g 9 (strsA [a, b, c]).toArray) → W.cell? ⟨rb, 5, none⟩ = some (.slice A n c9) ∧ (W.cell? ⟨w.heap.size, 1, none⟩ = some (.pointer (some ⟨rb, 5, none⟩)) ∧ W.cell? ⟨g, 1, none⟩ = some (.string (bsS b)) ∧ W.cell? ⟨g, 2, none⟩ = some (.string (bsS c)))) :=
                Sl.mk (fun W hW => ⟨(hW.1.cell 5).trans (show some (hd2 0).v = _ by rw [HHD.out]; rfl), hW.2.1.cell 1, hW.2.2.cell 1, hW.2.2.cell 2⟩)
              refine wp_region_X (fun W => Blk W rb 73 (rdA L lb (i + 1) m2 hd2) ∧ Blk W w.heap.size 60 (listsC rb 2).toArray ∧ Blk W g 9 (strsA [a, b, c]).toArray) [21, 22] (by kernel_rfl) (by rw [hwd]; exact ⟨HFw.out.rd, HFw.out.li, HCw.out⟩) (fun hS => ?_)
              rw [hwd] at hS ⊢
              clear hwd cw he k0
              refine wpAnyX_S (i := 0) (v := ?_) rfl (by kernel_rfl) (by kernel_rfl) (by kernel_rfl) (by kernel_rfl) (fun _ _ _ h => h) (Or.inl ⟨by rfl, ?_⟩) hS ?_
              rotate_left 1
              · (intro w' hw'; (first | rw [hw'] | (have hw2 := HSF.out w' hw'; (try obtain ⟨hw2, hw3⟩ := hw2)) | skip); go_simp; (try with_reducible rfl))
              simp only [Act.put, List.setIfInBounds_toArray, List.set_cons_zero, List.set_cons_succ]
              refine wpAnyX_S (i := 1) (v := ?_) rfl (by kernel_rfl) (by kernel_rfl) (by kernel_rfl) (by kernel_rfl) (fun _ _ _ h => h) (Or.inl ⟨by rfl, ?_⟩) hS ?_
              rotate_left 1
              · (intro w' hw'; (first | rw [hw'] | (have hw2 := HSF.out w' hw'; (try obtain ⟨hw2, hw3⟩ := hw2)) | skip); go_simp; (try with_reducible rfl))
              simp only [Act.put, List.setIfInBounds_toArray, List.set_cons_zero, List.set_cons_succ]
              refine wpAnyX_S (i := 2) (v := ?_) rfl (by kernel_rfl) (by kernel_rfl) (by kernel_rfl) (by kernel_rfl) (fun _ _ _ h => h) (Or.inl ⟨by rfl, ?_⟩) hS ?_
              rotate_left 1
              · (intro w' hw'; (first | rw [hw'] | (have hw2 := HSF.out w' hw'; (try obtain ⟨hw2, hw3⟩ := hw2)) | skip); go_simp; (try with_reducible rfl))
              simp only [Act.put, List.setIfInBounds_toArray, List.set_cons_zero, List.set_cons_succ]
              refine wpAnyX_S (i := 3) (v := ?_) rfl (by kernel_rfl) (by kernel_rfl) (by kernel_rfl) (by kernel_rfl) (fun _ _ _ h => h) (Or.inl ⟨by rfl, ?_⟩) hS ?_
              rotate_left 1
              · (intro w' hw'; (first | rw [hw'] | (have hw2 := HSF.out w' hw'; (try obtain ⟨hw2, hw3⟩ := hw2)) | skip); go_simp; (try with_reducible rfl))
              simp only [Act.put, List.setIfInBounds_toArray, List.set_cons_zero, List.set_cons_succ]
              refine wpAnyX_S (i := 4) (v := ?_) rfl (by kernel_rfl) (by kernel_rfl) (by kernel_rfl) (by kernel_rfl) (fun _ _ _ h => h) (Or.inl ⟨by rfl, ?_⟩) hS ?_
              rotate_left 1
              · (intro w' hw'; (first | rw [hw'] | (have hw2 := HSF.out w' hw'; (try obtain ⟨hw2, hw3⟩ := hw2)) | skip); go_simp; (try with_reducible rfl))
              simp only [Act.put, List.setIfInBounds_toArray, List.set_cons_zero, List.set_cons_succ]
              refine wpAnyX_S (i := 5) (v := ?_) rfl (by kernel_rfl) (by kernel_rfl) (by kernel_rfl) (by kernel_rfl) (fun _ _ _ h => h) (Or.inl ⟨by rfl, ?_⟩) hS ?_
              rotate_left 1
              · (intro w' hw'; (first | rw [hw'] | (have hw2 := HSF.out w' hw'; (try obtain ⟨hw2, hw3⟩ := hw2)) | skip); go_simp; (try with_reducible rfl))
              simp only [Act.put, List.setIfInBounds_toArray, List.set_cons_zero, List.set_cons_succ]
              refine wpAnyX_S (i := 6) (v := ?_) rfl (by kernel_rfl) (by kernel_rfl) (by kernel_rfl) (by kernel_rfl) (fun _ _ _ h => h) (Or.inl ⟨by rfl, ?_⟩) hS ?_
              rotate_left 1
              · (intro w' hw'; (first | rw [hw'] | (have hw2 := HSF.out w' hw'; (try obtain ⟨hw2, hw3⟩ := hw2)) | skip); go_simp; (try with_reducible rfl))
              simp only [Act.put, List.setIfInBounds_toArray, List.set_cons_zero, List.set_cons_succ]
              refine wpAnyX_S (i := 7) (v := ?_) rfl (by kernel_rfl) (by kernel_rfl) (by kernel_rfl) (by kernel_rfl) (fun _ _ _ h => h) (Or.inl ⟨by rfl, ?_⟩) hS ?_
              rotate_left 1
              · (intro w' hw'; (first | rw [hw'] | (have hw2 := HSF.out w' hw'; (try obtain ⟨hw2, hw3⟩ := hw2)) | skip); go_simp; (try with_reducible rfl))
              simp only [Act.put, List.setIfInBounds_toArray, List.set_cons_zero, List.set_cons_succ]
              refine wpAnyX_S (i := 8) (v := ?_) rfl (by kernel_rfl) (by kernel_rfl) (by kernel_rfl) (by kernel_rfl) (fun _ _ _ h => h) (Or.inl ⟨by rfl, ?_⟩) hS ?_
              rotate_left 1
              · (intro w' hw'; (first | rw [hw'] | (have hw2 := HSF.out w' hw'; (try obtain ⟨hw2, hw3⟩ := hw2)) | skip); go_simp; (try with_reducible rfl))
              simp only [Act.put, List.setIfInBounds_toArray, List.set_cons_zero, List.set_cons_succ]
              refine wpAnyX_S (i := 9) (v := ?_) rfl (by kernel_rfl) (by kernel_rfl) (by kernel_rfl) (by kernel_rfl) (fun _ _ _ h => h) (Or.inl ⟨by rfl, ?_⟩) hS ?_
              rotate_left 1
              · (intro w' hw'; (first | rw [hw'] | (have hw2 := HSF.out w' hw'; (try obtain ⟨hw2, hw3⟩ := hw2)) | skip); go_simp; (try with_reducible rfl))
              simp only [Act.put, List.setIfInBounds_toArray, List.set_cons_zero, List.set_cons_succ]
              refine wpAnyX_S (i := 10) (v := ?_) rfl (by kernel_rfl) (by kernel_rfl) (by kernel_rfl) (by kernel_rfl) (fun _ _ _ h => h) (Or.inl ⟨by rfl, ?_⟩) hS ?_
              rotate_left 1
              · (intro w' hw'; (first | rw [hw'] | (have hw2 := HSF.out w' hw'; (try obtain ⟨hw2, hw3⟩ := hw2)) | skip); go_simp; (try with_reducible rfl))
              simp only [Act.put, List.setIfInBounds_toArray, List.set_cons_zero, List.set_cons_succ]
              refine wpAnyX_S (i := 11) (v := ?_) rfl (by kernel_rfl) (by kernel_rfl) (by kernel_rfl) (by kernel_rfl) (fun _ _ _ h => h) (Or.inl ⟨by rfl, ?_⟩) hS ?_
              rotate_left 1
              · (intro w' hw'; (first | rw [hw'] | (have hw2 := HSF.out w' hw'; (try obtain ⟨hw2, hw3⟩ := hw2)) | skip); go_simp; (try with_reducible rfl))
              simp only [Act.put, List.setIfInBounds_toArray, List.set_cons_zero, List.set_cons_succ]
              refine wpAnyX_S (i := 12) (v := ?_) rfl (by kernel_rfl) (by kernel_rfl) (by kernel_rfl) (by kernel_rfl) (fun _ _ _ h => h) (Or.inl ⟨by rfl, ?_⟩) hS ?_
              rotate_left 1
              · (intro w' hw'; (first | rw [hw'] | (have hw2 := HSF.out w' hw'; (try obtain ⟨hw2, hw3⟩ := hw2)) | skip); go_simp; (try with_reducible rfl))
              simp only [Act.put, List.setIfInBounds_toArray, List.set_cons_zero, List.set_cons_succ]
              refine wpAnyX_S (i := 13) (v := ?_) rfl (by kernel_rfl) (by kernel_rfl) (by kernel_rfl) (by kernel_rfl) (fun _ _ _ h => h) (Or.inl ⟨by rfl, ?_⟩) hS ?_
              rotate_left 1
              · (intro w' hw'; (first | rw [hw'] | (have hw2 := HSF.out w' hw'; (try obtain ⟨hw2, hw3⟩ := hw2)) | skip); go_simp; (try with_reducible rfl))
              simp only [Act.put, List.setIfInBounds_toArray, List.set_cons_zero, List.set_cons_succ]
              refine wpAnyX_S (i := 14) (v := ?_) rfl (by kernel_rfl) (by kernel_rfl) (by kernel_rfl) (by kernel_rfl) (fun _ _ _ h => h) (Or.inl ⟨by rfl, ?_⟩) hS ?_
              rotate_left 1
              · (intro w' hw'; (first | rw [hw'] | (have hw2 := HSF.out w' hw'; (try obtain ⟨hw2, hw3⟩ := hw2)) | skip); go_simp; (try with_reducible rfl))
              simp only [Act.put, List.setIfInBounds_toArray, List.set_cons_zero, List.set_cons_succ]
              refine wpAnyX_S (i := 15) (v := ?_) rfl (by kernel_rfl) (by kernel_rfl) (by kernel_rfl) (by kernel_rfl) (fun _ _ _ h => h) (Or.inl ⟨by rfl, ?_⟩) hS ?_
              rotate_left 1
              · (intro w' hw'; (first | rw [hw'] | (have hw2 := HSF.out w' hw'; (try obtain ⟨hw2, hw3⟩ := hw2)) | skip); go_simp; (try with_reducible rfl))
              simp only [Act.put, List.setIfInBounds_toArray, List.set_cons_zero, List.set_cons_succ]
              refine wpAnyX_S (i := 16) (v := ?_) rfl (by kernel_rfl) (by kernel_rfl) (by kernel_rfl) (by kernel_rfl) (fun _ _ _ h => h) (Or.inl ⟨by rfl, ?_⟩) hS ?_
              rotate_left 1
              · (intro w' hw'; (first | rw [hw'] | (have hw2 := HSF.out w' hw'; (try obtain ⟨hw2, hw3⟩ := hw2)) | skip); go_simp; (try with_reducible rfl))
              simp only [Act.put, List.setIfInBounds_toArray, List.set_cons_zero, List.set_cons_succ]
              refine wpAnyX_S (i := 17) (v := ?_) rfl (by kernel_rfl) (by kernel_rfl) (by kernel_rfl) (by kernel_rfl) (fun _ _ _ h => h) (Or.inl ⟨by rfl, ?_⟩) hS ?_
              rotate_left 1
              · (intro w' hw'; (first | rw [hw'] | (have hw2 := HSF.out w' hw'; (try obtain ⟨hw2, hw3⟩ := hw2)) | skip); go_simp; (try with_reducible rfl))
              simp only [Act.put, List.setIfInBounds_toArray, List.set_cons_zero, List.set_cons_succ]
              refine wpAnyX_S (i := 18) (v := ?_) rfl (by kernel_rfl) (by kernel_rfl) (by kernel_rfl) (by kernel_rfl) (fun _ _ _ h => h) (Or.inl ⟨by rfl, ?_⟩) hS ?_
              rotate_left 1
              · (intro w' hw'; (first | rw [hw'] | (have hw2 := HSF.out w' hw'; (try obtain ⟨hw2, hw3⟩ := hw2)) | skip); go_simp; (try with_reducible rfl))
              simp only [Act.put, List.setIfInBounds_toArray, List.set_cons_zero, List.set_cons_succ]
              refine wpAnyX_oneL (k := 19) rfl (by kernel_rfl) rfl ?_
              refine wp_of_run (v := .slice (some ⟨wd.heap.size, 0, none⟩) 1 1) (w' := wd.alloc (.cells #[.string (bsS b), .string (bsS c)] 62)) (by go_simp) ⟨fun _ => ⟨hS.1.alloc _, hS.2.1.alloc _, hS.2.2.alloc _⟩, ?_⟩
              simp only [Act.put, List.setIfInBounds_toArray, List.set_cons_zero, List.set_cons_succ]
              refine wpAnyX_oneL (k := 20) rfl (by kernel_rfl) rfl ?_
              have hbd : rb + 1 ≤ (wd.alloc (.cells #[.string (bsS b), .string (bsS c)] 62)).heap.size := by have := HFw.out.rd.lt; simp; omega
              refine wp_append_any _ (.tmp 49) (.tmp 57) 26 rfl (rb + 1) 62 i0 (.agg #[.string ⟨#[]⟩, .string ⟨#[]⟩]) 2 32 Tryd.underlying26 hi0 hz0 hz1 hz2 rfl (by decide) _ _ _ rfl (hOw.alloc _) (wd.heap.size + 1) _ 1 1 [.string (bsS b), .string (bsS c)] rfl (reads_row2 wd _ _ _ (Nat.lt_succ_self _)) (itC_one ⟨b, c⟩) (by unfold maxLen; omega) (by omega) hbd ?_
              intro v9 w9 ho9 hg9 hb9
              obtain ⟨A9, c99, hv9, hO9⟩ := ownI_form (l := m2.at 0 ++ [⟨b, c⟩]) (by simpa [itsC_app, itsC, itC] using ho9)
              subst hv9
              have hadd := HFw.out.add (p' := 0) (k := 0) (x := ⟨b, c⟩) (o := .cells #[.string (bsS b), .string (bsS c)] 62) (A := A9) (c := c99) (w9 := w9) (by omega) hlb (by rw [HHD.out]; exact hO9) (by rw [HHD.out]; exact hg9) (by rw [HHD.out]; exact hb9) (by rw [HHD.out]; show n + 1 ≤ i + 1; omega) HBC.out
              rw [HHD.out] at hadd
              have HADD := Sl.mk hadd
              have hOa : OwnI (wd.alloc (.cells #[.string (bsS b), .string (bsS c)] 62)) (rb + 1) A n c9 _ := World.ownsRow.alloc hOw _
              have hli9 := (HFw.out.li.alloc (.cells #[.string (bsS b), .string (bsS c)] 62)).grown hg9 (fun e => own_blk_ne hOa (HFw.out.li.alloc (.cells #[.string (bsS b), .string (bsS c)] 62)) (by decide) e.symm)
              have hst9 := (HCw.out.alloc (.cells #[.string (bsS b), .string (bsS c)] 62)).grown hg9 (fun e => own_blk_ne hOa (HCw.out.alloc (.cells #[.string (bsS b), .string (bsS c)] 62)) (by decide) e.symm)
              refine ⟨fun _ => ⟨HADD.out.1, hli9, hst9⟩, ?_⟩
              simp only [Act.put, List.setIfInBounds_toArray, List.set_cons_zero, List.set_cons_succ]
              have d2 := HADD.out.1.cell 5
              have f2 := HADD.out.1.frozen 5
              clear hS hbd ho9 hg9 hb9 hO9 hadd hli9 hst9 hOw hOa HSF
              refine wpAnyX_tailF [21, 22] (by kernel_rfl) (by rfl) (by rfl) (by rfl) ?_
              simp only [List.filterMap_cons, List.filterMap_nil, List.getElem?_cons_succ, List.getElem?_cons_zero]
              go_wp2_with fail
              refine NoPanic.normal ?_
              go_wp2_with fail
              go_roundg (N - (i + 1))
              case measure => omega
              case rel => exact ⟨i + 1, 0, m2.add 0 ⟨b, c⟩, _, rfl, by omega, by omega, by go_num, ⟨HADD.out.2⟩, HR1⟩
            · rw [decide_eq_false ha] at he
              have HR1 := Sl.mk (show R = match findW 1 a with
                | some k => restsM (m2.add k ⟨b, c⟩) k (L.drop (i + 1)) (i + 1)
                | none => (m2, false, i + 1) by rw [HJ.out, findW_next (p := 0) (by omega) ha])
              clear ha
              go_wp2_with fail
              go_quiet (fail)
              go_wp2_with fail
              go_roundg (4 - 1)
              case measure => omega
              case rel => exact ⟨1, rfl, by omega, by go_num, ⟨HFd.out.be_ (below_drN (Below.refl _ _) nq)⟩, ⟨HCd.out.drewN nq⟩, HR1⟩
          | 1, _ =>
            have cw : wr.cell? ⟨w.heap.size, 4, none⟩ = some (.string (bsS wSlot)) := HFd.out.li.cell 4
            have he := bs_beq wSlot a
            by_cases ha : wSlot = a
            · rw [decide_eq_true ha] at he
              have HR1 := Sl.mk (show R = restsM (m2.add 1 ⟨b, c⟩) 1 (L.drop (i + 1)) (i + 1) by rw [HJ.out, findW_here (p := 1) (by omega) ha])
              clear ha
              obtain ⟨A, n, c9, hhd⟩ : ∃ A n c9, hd2 1 = ⟨A, n, c9⟩ := ⟨_, _, _, rfl⟩
              have hni : n ≤ i := by
                have h1 := HT.out.nn 1 (by omega)
                rw [hhd] at h1
                exact h1
              have HHD := Sl.mk hhd
              clear hhd
              go_wp2_with fail
              go_quiet (fail)
              go_wp2_with fail
              obtain ⟨wd, hwd⟩ : ∃ wd, (wr.drewN nq).drew = wd := ⟨_, rfl⟩
              have HFw := Sl.mk (show RSt w rb lb w.heap.size L (i + 1) p m2 hd2 wd by rw [← hwd]; exact HFd.out.be_ (below_drN (below_drN (Below.refl _ _) nq) 1))
              have HCw := Sl.mk (show Blk wd g 9 (strsA [a, b, c]).toArray by rw [← hwd]; exact HCd.out.drewN nq)
              have hOw : OwnI wd (rb + 1) A n c9 (m2.at 1) := by
                have h1 := HFw.out.ls.own 1 (by omega)
                rw [HHD.out] at h1
                exact h1
              have HSF : Sl (∀ W, (Blk W rb 73 (rdA L lb (i + 1) m2 hd2) ∧ Blk W w.heap.size 60 (listsC rb 2).toArray ∧ Blk W g 9 (strsA [a, b, c]).toArray) → W.cell? ⟨rb, 6, none⟩ = some (.slice A n c9) ∧ (W.cell? ⟨w.heap.size, 5, none⟩ = some (.pointer (some ⟨rb, 6, none⟩)) ∧ W.cell? ⟨g, 1, none⟩ = some (.string (bsS b)) ∧ W.cell? ⟨g, 2, none⟩ = some (.string (bsS c)))) :=
                Sl.mk (fun W hW => ⟨(hW.1.cell 6).trans (show some (hd2 1).v = _ by rw [HHD.out]; rfl), hW.2.1.cell 5, hW.2.2.cell 1, hW.2.2.cell 2⟩)
              refine wp_region_X (fun W => Blk W rb 73 (rdA L lb (i + 1) m2 hd2) ∧ Blk W w.heap.size 60 (listsC rb 2).toArray ∧ Blk W g 9 (strsA [a, b, c]).toArray) [21, 22] (by kernel_rfl) (by rw [hwd]; exact ⟨HFw.out.rd, HFw.out.li, HCw.out⟩) (fun hS => ?_)
              rw [hwd] at hS ⊢
              clear hwd cw he k0
              refine wpAnyX_S (i := 0) (v := ?_) rfl (by kernel_rfl) (by kernel_rfl) (by kernel_rfl) (by kernel_rfl) (fun _ _ _ h => h) (Or.inl ⟨by rfl, ?_⟩) hS ?_
              rotate_left 1
              · (intro w' hw'; (first | rw [hw'] | (have hw2 := HSF.out w' hw'; (try obtain ⟨hw2, hw3⟩ := hw2)) | skip); go_simp; (try with_reducible rfl))
              simp only [Act.put, List.setIfInBounds_toArray, List.set_cons_zero, List.set_cons_succ]
              refine wpAnyX_S (i := 1) (v := ?_) rfl (by kernel_rfl) (by kernel_rfl) (by kernel_rfl) (by kernel_rfl) (fun _ _ _ h => h) (Or.inl ⟨by rfl, ?_⟩) hS ?_
              rotate_left 1
              · (intro w' hw'; (first | rw [hw'] | (have hw2 := HSF.out w' hw'; (try obtain ⟨hw2, hw3⟩ := hw2)) | skip); go_simp; (try with_reducible rfl))
              simp only [Act.put, List.setIfInBounds_toArray, List.set_cons_zero, List.set_cons_succ]
              refine wpAnyX_S (i := 2) (v := ?_) rfl (by kernel_rfl) (by kernel_rfl) (by kernel_rfl) (by kernel_rfl) (fun _ _ _ h => h) (Or.inl ⟨by rfl, ?_⟩) hS ?_
              rotate_left 1
              · (intro w' hw'; (first | rw [hw'] | (have hw2 := HSF.out w' hw'; (try obtain ⟨hw2, hw3⟩ := hw2)) | skip); go_simp; (try with_reducible rfl))
              simp only [Act.put, List.setIfInBounds_toArray, List.set_cons_zero, List.set_cons_succ]
              refine wpAnyX_S (i := 3) (v := ?_) rfl (by kernel_rfl) (by kernel_rfl) (by kernel_rfl) (by kernel_rfl) (fun _ _ _ h => h) (Or.inl ⟨by rfl, ?_⟩) hS ?_
              rotate_left 1
              · (intro w' hw'; (first | rw [hw'] | (have hw2 := HSF.out w' hw'; (try obtain ⟨hw2, hw3⟩ := hw2)) | skip); go_simp; (try with_reducible rfl))
              simp only [Act.put, List.setIfInBounds_toArray, List.set_cons_zero, List.set_cons_succ]
              refine wpAnyX_S (i := 4) (v := ?_) rfl (by kernel_rfl) (by kernel_rfl) (by kernel_rfl) (by kernel_rfl) (fun _ _ _ h => h) (Or.inl ⟨by rfl, ?_⟩) hS ?_
              rotate_left 1
              · (intro w' hw'; (first | rw [hw'] | (have hw2 := HSF.out w' hw'; (try obtain ⟨hw2, hw3⟩ := hw2)) | skip); go_simp; (try with_reducible rfl))
              simp only [Act.put, List.setIfInBounds_toArray, List.set_cons_zero, List.set_cons_succ]
              refine wpAnyX_S (i := 5) (v := ?_) rfl (by kernel_rfl) (by kernel_rfl) (by kernel_rfl) (by kernel_rfl) (fun _ _ _ h => h) (Or.inl ⟨by rfl, ?_⟩) hS ?_
              rotate_left 1
              · (intro w' hw'; (first | rw [hw'] | (have hw2 := HSF.out w' hw'; (try obtain ⟨hw2, hw3⟩ := hw2)) | skip); go_simp; (try with_reducible rfl))
              simp only [Act.put, List.setIfInBounds_toArray, List.set_cons_zero, List.set_cons_succ]
              refine wpAnyX_S (i := 6) (v := ?_) rfl (by kernel_rfl) (by kernel_rfl) (by kernel_rfl) (by kernel_rfl) (fun _ _ _ h => h) (Or.inl ⟨by rfl, ?_⟩) hS ?_
              rotate_left 1
              · (intro w' hw'; (first | rw [hw'] | (have hw2 := HSF.out w' hw'; (try obtain ⟨hw2, hw3⟩ := hw2)) | skip); go_simp; (try with_reducible rfl))
              simp only [Act.put, List.setIfInBounds_toArray, List.set_cons_zero, List.set_cons_succ]
              refine wpAnyX_S (i := 7) (v := ?_) rfl (by kernel_rfl) (by kernel_rfl) (by kernel_rfl) (by kernel_rfl) (fun _ _ _ h => h) (Or.inl ⟨by rfl, ?_⟩) hS ?_
              rotate_left 1
              · (intro w' hw'; (first | rw [hw'] | (have hw2 := HSF.out w' hw'; (try obtain ⟨hw2, hw3⟩ := hw2)) | skip); go_simp; (try with_reducible rfl))
              simp only [Act.put, List.setIfInBounds_toArray, List.set_cons_zero, List.set_cons_succ]
              refine wpAnyX_S (i := 8) (v := ?_) rfl (by kernel_rfl) (by kernel_rfl) (by kernel_rfl) (by kernel_rfl) (fun _ _ _ h => h) (Or.inl ⟨by rfl, ?_⟩) hS ?_
              rotate_left 1
              · (intro w' hw'; (first | rw [hw'] | (have hw2 := HSF.out w' hw'; (try obtain ⟨hw2, hw3⟩ := hw2)) | skip); go_simp; (try with_reducible rfl))
              simp only [Act.put, List.setIfInBounds_toArray, List.set_cons_zero, List.set_cons_succ]
              refine wpAnyX_S (i := 9) (v := ?_) rfl (by kernel_rfl) (by kernel_rfl) (by kernel_rfl) (by kernel_rfl) (fun _ _ _ h => h) (Or.inl ⟨by rfl, ?_⟩) hS ?_
              rotate_left 1
              · (intro w' hw'; (first | rw [hw'] | (have hw2 := HSF.out w' hw'; (try obtain ⟨hw2, hw3⟩ := hw2)) | skip); go_simp; (try with_reducible rfl))
              simp only [Act.put, List.setIfInBounds_toArray, List.set_cons_zero, List.set_cons_succ]
              refine wpAnyX_S (i := 10) (v := ?_) rfl (by kernel_rfl) (by kernel_rfl) (by kernel_rfl) (by kernel_rfl) (fun _ _ _ h => h) (Or.inl ⟨by rfl, ?_⟩) hS ?_
              rotate_left 1
              · (intro w' hw'; (first | rw [hw'] | (have hw2 := HSF.out w' hw'; (try obtain ⟨hw2, hw3⟩ := hw2)) | skip); go_simp; (try with_reducible rfl))
              simp only [Act.put, List.setIfInBounds_toArray, List.set_cons_zero, List.set_cons_succ]
              refine wpAnyX_S (i := 11) (v := ?_) rfl (by kernel_rfl) (by kernel_rfl) (by kernel_rfl) (by kernel_rfl) (fun _ _ _ h => h) (Or.inl ⟨by rfl, ?_⟩) hS ?_
              rotate_left 1
              · (intro w' hw'; (first | rw [hw'] | (have hw2 := HSF.out w' hw'; (try obtain ⟨hw2, hw3⟩ := hw2)) | skip); go_simp; (try with_reducible rfl))
              simp only [Act.put, List.setIfInBounds_toArray, List.set_cons_zero, List.set_cons_succ]
              refine wpAnyX_S (i := 12) (v := ?_) rfl (by kernel_rfl) (by kernel_rfl) (by kernel_rfl) (by kernel_rfl) (fun _ _ _ h => h) (Or.inl ⟨by rfl, ?_⟩) hS ?_
              rotate_left 1
              · (intro w' hw'; (first | rw [hw'] | (have hw2 := HSF.out w' hw'; (try obtain ⟨hw2, hw3⟩ := hw2)) | skip); go_simp; (try with_reducible rfl))
              simp only [Act.put, List.setIfInBounds_toArray, List.set_cons_zero, List.set_cons_succ]
              refine wpAnyX_S (i := 13) (v := ?_) rfl (by kernel_rfl) (by kernel_rfl) (by kernel_rfl) (by kernel_rfl) (fun _ _ _ h => h) (Or.inl ⟨by rfl, ?_⟩) hS ?_
              rotate_left 1
              · (intro w' hw'; (first | rw [hw'] | (have hw2 := HSF.out w' hw'; (try obtain ⟨hw2, hw3⟩ := hw2)) | skip); go_simp; (try with_reducible rfl))
              simp only [Act.put, List.setIfInBounds_toArray, List.set_cons_zero, List.set_cons_succ]
              refine wpAnyX_S (i := 14) (v := ?_) rfl (by kernel_rfl) (by kernel_rfl) (by kernel_rfl) (by kernel_rfl) (fun _ _ _ h => h) (Or.inl ⟨by rfl, ?_⟩) hS ?_
              rotate_left 1
              · (intro w' hw'; (first | rw [hw'] | (have hw2 := HSF.out w' hw'; (try obtain ⟨hw2, hw3⟩ := hw2)) | skip); go_simp; (try with_reducible rfl))
              simp only [Act.put, List.setIfInBounds_toArray, List.set_cons_zero, List.set_cons_succ]
              refine wpAnyX_S (i := 15) (v := ?_) rfl (by kernel_rfl) (by kernel_rfl) (by kernel_rfl) (by kernel_rfl) (fun _ _ _ h => h) (Or.inl ⟨by rfl, ?_⟩) hS ?_
              rotate_left 1
              · (intro w' hw'; (first | rw [hw'] | (have hw2 := HSF.out w' hw'; (try obtain ⟨hw2, hw3⟩ := hw2)) | skip); go_simp; (try with_reducible rfl))
              simp only [Act.put, List.setIfInBounds_toArray, List.set_cons_zero, List.set_cons_succ]
              refine wpAnyX_S (i := 16) (v := ?_) rfl (by kernel_rfl) (by kernel_rfl) (by kernel_rfl) (by kernel_rfl) (fun _ _ _ h => h) (Or.inl ⟨by rfl, ?_⟩) hS ?_
              rotate_left 1
              · (intro w' hw'; (first | rw [hw'] | (have hw2 := HSF.out w' hw'; (try obtain ⟨hw2, hw3⟩ := hw2)) | skip); go_simp; (try with_reducible rfl))
              simp only [Act.put, List.setIfInBounds_toArray, List.set_cons_zero, List.set_cons_succ]
              refine wpAnyX_S (i := 17) (v := ?_) rfl (by kernel_rfl) (by kernel_rfl) (by kernel_rfl) (by kernel_rfl) (fun _ _ _ h => h) (Or.inl ⟨by rfl, ?_⟩) hS ?_
              rotate_left 1
              · (intro w' hw'; (first | rw [hw'] | (have hw2 := HSF.out w' hw'; (try obtain ⟨hw2, hw3⟩ := hw2)) | skip); go_simp; (try with_reducible rfl))
              simp only [Act.put, List.setIfInBounds_toArray, List.set_cons_zero, List.set_cons_succ]
              refine wpAnyX_S (i := 18) (v := ?_) rfl (by kernel_rfl) (by kernel_rfl) (by kernel_rfl) (by kernel_rfl) (fun _ _ _ h => h) (Or.inl ⟨by rfl, ?_⟩) hS ?_
              rotate_left 1
              · (intro w' hw'; (first | rw [hw'] | (have hw2 := HSF.out w' hw'; (try obtain ⟨hw2, hw3⟩ := hw2)) | skip); go_simp; (try with_reducible rfl))
              simp only [Act.put, List.setIfInBounds_toArray, List.set_cons_zero, List.set_cons_succ]
              refine wpAnyX_oneL (k := 19) rfl (by kernel_rfl) rfl ?_
              refine wp_of_run (v := .slice (some ⟨wd.heap.size, 0, none⟩) 1 1) (w' := wd.alloc (.cells #[.string (bsS b), .string (bsS c)] 62)) (by go_simp) ⟨fun _ => ⟨hS.1.alloc _, hS.2.1.alloc _, hS.2.2.alloc _⟩, ?_⟩
              simp only [Act.put, List.setIfInBounds_toArray, List.set_cons_zero, List.set_cons_succ]
              refine wpAnyX_oneL (k := 20) rfl (by kernel_rfl) rfl ?_
              have hbd : rb + 1 ≤ (wd.alloc (.cells #[.string (bsS b), .string (bsS c)] 62)).heap.size := by have := HFw.out.rd.lt; simp; omega
              refine wp_append_any _ (.tmp 49) (.tmp 57) 26 rfl (rb + 1) 62 i0 (.agg #[.string ⟨#[]⟩, .string ⟨#[]⟩]) 2 32 Tryd.underlying26 hi0 hz0 hz1 hz2 rfl (by decide) _ _ _ rfl (hOw.alloc _) (wd.heap.size + 1) _ 1 1 [.string (bsS b), .string (bsS c)] rfl (reads_row2 wd _ _ _ (Nat.lt_succ_self _)) (itC_one ⟨b, c⟩) (by unfold maxLen; omega) (by omega) hbd ?_
              intro v9 w9 ho9 hg9 hb9
              obtain ⟨A9, c99, hv9, hO9⟩ := ownI_form (l := m2.at 1 ++ [⟨b, c⟩]) (by simpa [itsC_app, itsC, itC] using ho9)
              subst hv9
              have hadd := HFw.out.add (p' := 1) (k := 1) (x := ⟨b, c⟩) (o := .cells #[.string (bsS b), .string (bsS c)] 62) (A := A9) (c := c99) (w9 := w9) (by omega) hlb (by rw [HHD.out]; exact hO9) (by rw [HHD.out]; exact hg9) (by rw [HHD.out]; exact hb9) (by rw [HHD.out]; show n + 1 ≤ i + 1; omega) HBC.out
              rw [HHD.out] at hadd
              have HADD := Sl.mk hadd
              have hOa : OwnI (wd.alloc (.cells #[.string (bsS b), .string (bsS c)] 62)) (rb + 1) A n c9 _ := World.ownsRow.alloc hOw _
              have hli9 := (HFw.out.li.alloc (.cells #[.string (bsS b), .string (bsS c)] 62)).grown hg9 (fun e => own_blk_ne hOa (HFw.out.li.alloc (.cells #[.string (bsS b), .string (bsS c)] 62)) (by decide) e.symm)
              have hst9 := (HCw.out.alloc (.cells #[.string (bsS b), .string (bsS c)] 62)).grown hg9 (fun e => own_blk_ne hOa (HCw.out.alloc (.cells #[.string (bsS b), .string (bsS c)] 62)) (by decide) e.symm)
              refine ⟨fun _ => ⟨HADD.out.1, hli9, hst9⟩, ?_⟩
              simp only [Act.put, List.setIfInBounds_toArray, List.set_cons_zero, List.set_cons_succ]
              have d2 := HADD.out.1.cell 6
              have f2 := HADD.out.1.frozen 6
              clear hS hbd ho9 hg9 hb9 hO9 hadd hli9 hst9 hOw hOa HSF
              refine wpAnyX_tailF [21, 22] (by kernel_rfl) (by rfl) (by rfl) (by rfl) ?_
              simp only [List.filterMap_cons, List.filterMap_nil, List.getElem?_cons_succ, List.getElem?_cons_zero]
              go_wp2_with fail
              refine NoPanic.normal ?_
              go_wp2_with fail
              go_roundg (N - (i + 1))
              case measure => omega
              case rel => exact ⟨i + 1, 1, m2.add 1 ⟨b, c⟩, _, rfl, by omega, by omega, by go_num, ⟨HADD.out.2⟩, HR1⟩
            · rw [decide_eq_false ha] at he
              have HR1 := Sl.mk (show R = match findW 2 a with
                | some k => restsM (m2.add k ⟨b, c⟩) k (L.drop (i + 1)) (i + 1)
                | none => (m2, false, i + 1) by rw [HJ.out, findW_next (p := 1) (by omega) ha])
              clear ha
              go_wp2_with fail
              go_quiet (fail)
              go_wp2_with fail
              go_roundg (4 - 2)
              case measure => omega
              case rel => exact ⟨2, rfl, by omega, by go_num, ⟨HFd.out.be_ (below_drN (Below.refl _ _) nq)⟩, ⟨HCd.out.drewN nq⟩, HR1⟩
          | 2, _ =>
            have cw : wr.cell? ⟨w.heap.size, 8, none⟩ = some (.string (bsS wHook)) := HFd.out.li.cell 8
            have he := bs_beq wHook a
            by_cases ha : wHook = a
            · rw [decide_eq_true ha] at he
              have HR1 := Sl.mk (show R = restsM (m2.add 2 ⟨b, c⟩) 2 (L.drop (i + 1)) (i + 1) by rw [HJ.out, findW_here (p := 2) (by omega) ha])
              clear ha
              obtain ⟨A, n, c9, hhd⟩ : ∃ A n c9, hd2 2 = ⟨A, n, c9⟩ := ⟨_, _, _, rfl⟩
              have hni : n ≤ i := by
                have h1 := HT.out.nn 2 (by omega)
                rw [hhd] at h1
                exact h1
              have HHD := Sl.mk hhd
              clear hhd
              go_wp2_with fail
              go_quiet (fail)
              go_wp2_with fail
              obtain ⟨wd, hwd⟩ : ∃ wd, (wr.drewN nq).drew = wd := ⟨_, rfl⟩
              have HFw := Sl.mk (show RSt w rb lb w.heap.size L (i + 1) p m2 hd2 wd by rw [← hwd]; exact HFd.out.be_ (below_drN (below_drN (Below.refl _ _) nq) 1))
              have HCw := Sl.mk (show Blk wd g 9 (strsA [a, b, c]).toArray by rw [← hwd]; exact HCd.out.drewN nq)
              have hOw : OwnI wd (rb + 1) A n c9 (m2.at 2) := by
                have h1 := HFw.out.ls.own 2 (by omega)
                rw [HHD.out] at h1
                exact h1
              have HSF : Sl (∀ W, (Blk W rb 73 (rdA L lb (i + 1) m2 hd2) ∧ Blk W w.heap.size 60 (listsC rb 2).toArray ∧ Blk W g 9 (strsA [a, b, c]).toArray) → W.cell? ⟨rb, 7, none⟩ = some (.slice A n c9) ∧ (W.cell? ⟨w.heap.size, 9, none⟩ = some (.pointer (some ⟨rb, 7, none⟩)) ∧ W.cell? ⟨g, 1, none⟩ = some (.string (bsS b)) ∧ W.cell? ⟨g, 2, none⟩ = some (.string (bsS c)))) :=
                Sl.mk (fun W hW => ⟨(hW.1.cell 7).trans (show some (hd2 2).v = _ by rw [HHD.out]; rfl), hW.2.1.cell 9, hW.2.2.cell 1, hW.2.2.cell 2⟩)
              refine wp_region_X (fun W => Blk W rb 73 (rdA L lb (i + 1) m2 hd2) ∧ Blk W w.heap.size 60 (listsC rb 2).toArray ∧ Blk W g 9 (strsA [a, b, c]).toArray) [21, 22] (by kernel_rfl) (by rw [hwd]; exact ⟨HFw.out.rd, HFw.out.li, HCw.out⟩) (fun hS => ?_)
              rw [hwd] at hS ⊢
              clear hwd cw he k0
              refine wpAnyX_S (i := 0) (v := ?_) rfl (by kernel_rfl) (by kernel_rfl) (by kernel_rfl) (by kernel_rfl) (fun _ _ _ h => h) (Or.inl ⟨by rfl, ?_⟩) hS ?_
              rotate_left 1
              · (intro w' hw'; (first | rw [hw'] | (have hw2 := HSF.out w' hw'; (try obtain ⟨hw2, hw3⟩ := hw2)) | skip); go_simp; (try with_reducible rfl))
              simp only [Act.put, List.setIfInBounds_toArray, List.set_cons_zero, List.set_cons_succ]
              refine wpAnyX_S (i := 1) (v := ?_) rfl (by kernel_rfl) (by kernel_rfl) (by kernel_rfl) (by kernel_rfl) (fun _ _ _ h => h) (Or.inl ⟨by rfl, ?_⟩) hS ?_
              rotate_left 1
              · (intro w' hw'; (first | rw [hw'] | (have hw2 := HSF.out w' hw'; (try obtain ⟨hw2, hw3⟩ := hw2)) | skip); go_simp; (try with_reducible rfl))
              simp only [Act.put, List.setIfInBounds_toArray, List.set_cons_zero, List.set_cons_succ]
              refine wpAnyX_S (i := 2) (v := ?_) rfl (by kernel_rfl) (by kernel_rfl) (by kernel_rfl) (by kernel_rfl) (fun _ _ _ h => h) (Or.inl ⟨by rfl, ?_⟩) hS ?_
              rotate_left 1
              · (intro w' hw'; (first | rw [hw'] | (have hw2 := HSF.out w' hw'; (try obtain ⟨hw2, hw3⟩ := hw2)) | skip); go_simp; (try with_reducible rfl))
              simp only [Act.put, List.setIfInBounds_toArray, List.set_cons_zero, List.set_cons_succ]
              refine wpAnyX_S (i := 3) (v := ?_) rfl (by kernel_rfl) (by kernel_rfl) (by kernel_rfl) (by kernel_rfl) (fun _ _ _ h => h) (Or.inl ⟨by rfl, ?_⟩) hS ?_
              rotate_left 1
              · (intro w' hw'; (first | rw [hw'] | (have hw2 := HSF.out w' hw'; (try obtain ⟨hw2, hw3⟩ := hw2)) | skip); go_simp; (try with_reducible rfl))
              simp only [Act.put, List.setIfInBounds_toArray, List.set_cons_zero, List.set_cons_succ]
              refine wpAnyX_S (i := 4) (v := ?_) rfl (by kernel_rfl) (by kernel_rfl) (by kernel_rfl) (by kernel_rfl) (fun _ _ _ h => h) (Or.inl ⟨by rfl, ?_⟩) hS ?_
              rotate_left 1
              · (intro w' hw'; (first | rw [hw'] | (have hw2 := HSF.out w' hw'; (try obtain ⟨hw2, hw3⟩ := hw2)) | skip); go_simp; (try with_reducible rfl))
              simp only [Act.put, List.setIfInBounds_toArray, List.set_cons_zero, List.set_cons_succ]
              refine wpAnyX_S (i := 5) (v := ?_) rfl (by kernel_rfl) (by kernel_rfl) (by kernel_rfl) (by kernel_rfl) (fun _ _ _ h => h) (Or.inl ⟨by rfl, ?_⟩) hS ?_
              rotate_left 1
              · (intro w' hw'; (first | rw [hw'] | (have hw2 := HSF.out w' hw'; (try obtain ⟨hw2, hw3⟩ := hw2)) | skip); go_simp; (try with_reducible rfl))
              simp only [Act.put, List.setIfInBounds_toArray, List.set_cons_zero, List.set_cons_succ]
              refine wpAnyX_S (i := 6) (v := ?_) rfl (by kernel_rfl) (by kernel_rfl) (by kernel_rfl) (by kernel_rfl) (fun _ _ _ h => h) (Or.inl ⟨by rfl, ?_⟩) hS ?_
              rotate_left 1
              · (intro w' hw'; (first | rw [hw'] | (have hw2 := HSF.out w' hw'; (try obtain ⟨hw2, hw3⟩ := hw2)) | skip); go_simp; (try with_reducible rfl))
              simp only [Act.put, List.setIfInBounds_toArray, List.set_cons_zero, List.set_cons_succ]
              refine wpAnyX_S (i := 7) (v := ?_) rfl (by kernel_rfl) (by kernel_rfl) (by kernel_rfl) (by kernel_rfl) (fun _ _ _ h => h) (Or.inl ⟨by rfl, ?_⟩) hS ?_
              rotate_left 1
              · (intro w' hw'; (first | rw [hw'] | (have hw2 := HSF.out w' hw'; (try obtain ⟨hw2, hw3⟩ := hw2)) | skip); go_simp; (try with_reducible rfl))
              simp only [Act.put, List.setIfInBounds_toArray, List.set_cons_zero, List.set_cons_succ]
              refine wpAnyX_S (i := 8) (v := ?_) rfl (by kernel_rfl) (by kernel_rfl) (by kernel_rfl) (by kernel_rfl) (fun _ _ _ h => h) (Or.inl ⟨by rfl, ?_⟩) hS ?_
              rotate_left 1
              · (intro w' hw'; (first | rw [hw'] | (have hw2 := HSF.out w' hw'; (try obtain ⟨hw2, hw3⟩ := hw2)) | skip); go_simp; (try with_reducible rfl))
              simp only [Act.put, List.setIfInBounds_toArray, List.set_cons_zero, List.set_cons_succ]
              refine wpAnyX_S (i := 9) (v := ?_) rfl (by kernel_rfl) (by kernel_rfl) (by kernel_rfl) (by kernel_rfl) (fun _ _ _ h => h) (Or.inl ⟨by rfl, ?_⟩) hS ?_
              rotate_left 1
              · (intro w' hw'; (first | rw [hw'] | (have hw2 := HSF.out w' hw'; (try obtain ⟨hw2, hw3⟩ := hw2)) | skip); go_simp; (try with_reducible rfl))
              simp only [Act.put, List.setIfInBounds_toArray, List.set_cons_zero, List.set_cons_succ]
              refine wpAnyX_S (i := 10) (v := ?_) rfl (by kernel_rfl) (by kernel_rfl) (by kernel_rfl) (by kernel_rfl) (fun _ _ _ h => h) (Or.inl ⟨by rfl, ?_⟩) hS ?_
              rotate_left 1
              · (intro w' hw'; (first | rw [hw'] | (have hw2 := HSF.out w' hw'; (try obtain ⟨hw2, hw3⟩ := hw2)) | skip); go_simp; (try with_reducible rfl))
              simp only [Act.put, List.setIfInBounds_toArray, List.set_cons_zero, List.set_cons_succ]
              refine wpAnyX_S (i := 11) (v := ?_) rfl (by kernel_rfl) (by kernel_rfl) (by kernel_rfl) (by kernel_rfl) (fun _ _ _ h => h) (Or.inl ⟨by rfl, ?_⟩) hS ?_
              rotate_left 1
              · (intro w' hw'; (first | rw [hw'] | (have hw2 := HSF.out w' hw'; (try obtain ⟨hw2, hw3⟩ := hw2)) | skip); go_simp; (try with_reducible rfl))
              simp only [Act.put, List.setIfInBounds_toArray, List.set_cons_zero, List.set_cons_succ]
              refine wpAnyX_S (i := 12) (v := ?_) rfl (by kernel_rfl) (by kernel_rfl) (by kernel_rfl) (by kernel_rfl) (fun _ _ _ h => h) (Or.inl ⟨by rfl, ?_⟩) hS ?_
              rotate_left 1
              · (intro w' hw'; (first | rw [hw'] | (have hw2 := HSF.out w' hw'; (try obtain ⟨hw2, hw3⟩ := hw2)) | skip); go_simp; (try with_reducible rfl))
              simp only [Act.put, List.setIfInBounds_toArray, List.set_cons_zero, List.set_cons_succ]
              refine wpAnyX_S (i := 13) (v := ?_) rfl (by kernel_rfl) (by kernel_rfl) (by kernel_rfl) (by kernel_rfl) (fun _ _ _ h => h) (Or.inl ⟨by rfl, ?_⟩) hS ?_
              rotate_left 1
              · (intro w' hw'; (first | rw [hw'] | (have hw2 := HSF.out w' hw'; (try obtain ⟨hw2, hw3⟩ := hw2)) | skip); go_simp; (try with_reducible rfl))
              simp only [Act.put, List.setIfInBounds_toArray, List.set_cons_zero, List.set_cons_succ]
              refine wpAnyX_S (i := 14) (v := ?_) rfl (by kernel_rfl) (by kernel_rfl) (by kernel_rfl) (by kernel_rfl) (fun _ _ _ h => h) (Or.inl ⟨by rfl, ?_⟩) hS ?_
              rotate_left 1
              · (intro w' hw'; (first | rw [hw'] | (have hw2 := HSF.out w' hw'; (try obtain ⟨hw2, hw3⟩ := hw2)) | skip); go_simp; (try with_reducible rfl))
              simp only [Act.put, List.setIfInBounds_toArray, List.set_cons_zero, List.set_cons_succ]
              refine wpAnyX_S (i := 15) (v := ?_) rfl (by kernel_rfl) (by kernel_rfl) (by kernel_rfl) (by kernel_rfl) (fun _ _ _ h => h) (Or.inl ⟨by rfl, ?_⟩) hS ?_
              rotate_left 1
              · (intro w' hw'; (first | rw [hw'] | (have hw2 := HSF.out w' hw'; (try obtain ⟨hw2, hw3⟩ := hw2)) | skip); go_simp; (try with_reducible rfl))
              simp only [Act.put, List.setIfInBounds_toArray, List.set_cons_zero, List.set_cons_succ]
              refine wpAnyX_S (i := 16) (v := ?_) rfl (by kernel_rfl) (by kernel_rfl) (by kernel_rfl) (by kernel_rfl) (fun _ _ _ h => h) (Or.inl ⟨by rfl, ?_⟩) hS ?_
              rotate_left 1
              · (intro w' hw'; (first | rw [hw'] | (have hw2 := HSF.out w' hw'; (try obtain ⟨hw2, hw3⟩ := hw2)) | skip); go_simp; (try with_reducible rfl))
              simp only [Act.put, List.setIfInBounds_toArray, List.set_cons_zero, List.set_cons_succ]
              refine wpAnyX_S (i := 17) (v := ?_) rfl (by kernel_rfl) (by kernel_rfl) (by kernel_rfl) (by kernel_rfl) (fun _ _ _ h => h) (Or.inl ⟨by rfl, ?_⟩) hS ?_
              rotate_left 1
              · (intro w' hw'; (first | rw [hw'] | (have hw2 := HSF.out w' hw'; (try obtain ⟨hw2, hw3⟩ := hw2)) | skip); go_simp; (try with_reducible rfl))
              simp only [Act.put, List.setIfInBounds_toArray, List.set_cons_zero, List.set_cons_succ]
              refine wpAnyX_S (i := 18) (v := ?_) rfl (by kernel_rfl) (by kernel_rfl) (by kernel_rfl) (by kernel_rfl) (fun _ _ _ h => h) (Or.inl ⟨by rfl, ?_⟩) hS ?_
              rotate_left 1
              · (intro w' hw'; (first | rw [hw'] | (have hw2 := HSF.out w' hw'; (try obtain ⟨hw2, hw3⟩ := hw2)) | skip); go_simp; (try with_reducible rfl))
              simp only [Act.put, List.setIfInBounds_toArray, List.set_cons_zero, List.set_cons_succ]
              refine wpAnyX_oneL (k := 19) rfl (by kernel_rfl) rfl ?_
              refine wp_of_run (v := .slice (some ⟨wd.heap.size, 0, none⟩) 1 1) (w' := wd.alloc (.cells #[.string (bsS b), .string (bsS c)] 62)) (by go_simp) ⟨fun _ => ⟨hS.1.alloc _, hS.2.1.alloc _, hS.2.2.alloc _⟩, ?_⟩
              simp only [Act.put, List.setIfInBounds_toArray, List.set_cons_zero, List.set_cons_succ]
              refine wpAnyX_oneL (k := 20) rfl (by kernel_rfl) rfl ?_
              have hbd : rb + 1 ≤ (wd.alloc (.cells #[.string (bsS b), .string (bsS c)] 62)).heap.size := by have := HFw.out.rd.lt; simp; omega
              refine wp_append_any _ (.tmp 49) (.tmp 57) 26 rfl (rb + 1) 62 i0 (.agg #[.string ⟨#[]⟩, .string ⟨#[]⟩]) 2 32 Tryd.underlying26 hi0 hz0 hz1 hz2 rfl (by decide) _ _ _ rfl (hOw.alloc _) (wd.heap.size + 1) _ 1 1 [.string (bsS b), .string (bsS c)] rfl (reads_row2 wd _ _ _ (Nat.lt_succ_self _)) (itC_one ⟨b, c⟩) (by unfold maxLen; omega) (by omega) hbd ?_
              intro v9 w9 ho9 hg9 hb9
              obtain ⟨A9, c99, hv9, hO9⟩ := ownI_form (l := m2.at 2 ++ [⟨b, c⟩]) (by simpa [itsC_app, itsC, itC] using ho9)
              subst hv9
              have hadd := HFw.out.add (p' := 2) (k := 2) (x := ⟨b, c⟩) (o := .cells #[.string (bsS b), .string (bsS c)] 62) (A := A9) (c := c99) (w9 := w9) (by omega) hlb (by rw [HHD.out]; exact hO9) (by rw [HHD.out]; exact hg9) (by rw [HHD.out]; exact hb9) (by rw [HHD.out]; show n + 1 ≤ i + 1; omega) HBC.out
              rw [HHD.out] at hadd
              have HADD := Sl.mk hadd
              have hOa : OwnI (wd.alloc (.cells #[.string (bsS b), .string (bsS c)] 62)) (rb + 1) A n c9 _ := World.ownsRow.alloc hOw _
              have hli9 := (HFw.out.li.alloc (.cells #[.string (bsS b), .string (bsS c)] 62)).grown hg9 (fun e => own_blk_ne hOa (HFw.out.li.alloc (.cells #[.string (bsS b), .string (bsS c)] 62)) (by decide) e.symm)
              have hst9 := (HCw.out.alloc (.cells #[.string (bsS b), .string (bsS c)] 62)).grown hg9 (fun e => own_blk_ne hOa (HCw.out.alloc (.cells #[.string (bsS b), .string (bsS c)] 62)) (by decide) e.symm)
              refine ⟨fun _ => ⟨HADD.out.1, hli9, hst9⟩, ?_⟩
              simp only [Act.put, List.setIfInBounds_toArray, List.set_cons_zero, List.set_cons_succ]
              have d2 := HADD.out.1.cell 7
              have f2 := HADD.out.1.frozen 7
              clear hS hbd ho9 hg9 hb9 hO9 hadd hli9 hst9 hOw hOa HSF
              refine wpAnyX_tailF [21, 22] (by kernel_rfl) (by rfl) (by rfl) (by rfl) ?_
              simp only [List.filterMap_cons, List.filterMap_nil, List.getElem?_cons_succ, List.getElem?_cons_zero]
              go_wp2_with fail
              refine NoPanic.normal ?_
              go_wp2_with fail
              go_roundg (N - (i + 1))
              case measure => omega
              case rel => exact ⟨i + 1, 2, m2.add 2 ⟨b, c⟩, _, rfl, by omega, by omega, by go_num, ⟨HADD.out.2⟩, HR1⟩
            · rw [decide_eq_false ha] at he
              have HR1 := Sl.mk (show R = match findW 3 a with
                | some k => restsM (m2.add k ⟨b, c⟩) k (L.drop (i + 1)) (i + 1)
                | none => (m2, false, i + 1) by rw [HJ.out, findW_next (p := 2) (by omega) ha])
              clear ha
              go_wp2_with fail
              go_quiet (fail)
              go_wp2_with fail
              go_roundg (4 - 3)
              case measure => omega
              case rel => exact ⟨3, rfl, by omega, by go_num, ⟨HFd.out.be_ (below_drN (Below.refl _ _) nq)⟩, ⟨HCd.out.drewN nq⟩, HR1⟩
          | 3, _ =>
            have cw : wr.cell? ⟨w.heap.size, 12, none⟩ = some (.string (bsS wWant)) := HFd.out.li.cell 12
            have he := bs_beq wWant a
            by_cases ha : wWant = a
            · rw [decide_eq_true ha] at he
              have HR1 := Sl.mk (show R = restsM (m2.add 3 ⟨b, c⟩) 3 (L.drop (i + 1)) (i + 1) by rw [HJ.out, findW_here (p := 3) (by omega) ha])
              clear ha
              obtain ⟨A, n, c9, hhd⟩ : ∃ A n c9, hd2 3 = ⟨A, n, c9⟩ := ⟨_, _, _, rfl⟩
              have hni : n ≤ i := by
                have h1 := HT.out.nn 3 (by omega)
                rw [hhd] at h1
                exact h1
              have HHD := Sl.mk hhd
              clear hhd
              go_wp2_with fail
              go_quiet (fail)
              go_wp2_with fail
              obtain ⟨wd, hwd⟩ : ∃ wd, (wr.drewN nq).drew = wd := ⟨_, rfl⟩
              have HFw := Sl.mk (show RSt w rb lb w.heap.size L (i + 1) p m2 hd2 wd by rw [← hwd]; exact HFd.out.be_ (below_drN (below_drN (Below.refl _ _) nq) 1))
              have HCw := Sl.mk (show Blk wd g 9 (strsA [a, b, c]).toArray by rw [← hwd]; exact HCd.out.drewN nq)
              have hOw : OwnI wd (rb + 1) A n c9 (m2.at 3) := by
                have h1 := HFw.out.ls.own 3 (by omega)
                rw [HHD.out] at h1
                exact h1
              have HSF : Sl (∀ W, (Blk W rb 73 (rdA L lb (i + 1) m2 hd2) ∧ Blk W w.heap.size 60 (listsC rb 2).toArray ∧ Blk W g 9 (strsA [a, b, c]).toArray) → W.cell? ⟨rb, 8, none⟩ = some (.slice A n c9) ∧ (W.cell? ⟨w.heap.size, 13, none⟩ = some (.pointer (some ⟨rb, 8, none⟩)) ∧ W.cell? ⟨g, 1, none⟩ = some (.string (bsS b)) ∧ W.cell? ⟨g, 2, none⟩ = some (.string (bsS c)))) :=
                Sl.mk (fun W hW => ⟨(hW.1.cell 8).trans (show some (hd2 3).v = _ by rw [HHD.out]; rfl), hW.2.1.cell 13, hW.2.2.cell 1, hW.2.2.cell 2⟩)
              refine wp_region_X (fun W => Blk W rb 73 (rdA L lb (i + 1) m2 hd2) ∧ Blk W w.heap.size 60 (listsC rb 2).toArray ∧ Blk W g 9 (strsA [a, b, c]).toArray) [21, 22] (by kernel_rfl) (by rw [hwd]; exact ⟨HFw.out.rd, HFw.out.li, HCw.out⟩) (fun hS => ?_)
              rw [hwd] at hS ⊢
              clear hwd cw he k0
              refine wpAnyX_S (i := 0) (v := ?_) rfl (by kernel_rfl) (by kernel_rfl) (by kernel_rfl) (by kernel_rfl) (fun _ _ _ h => h) (Or.inl ⟨by rfl, ?_⟩) hS ?_
              rotate_left 1
              · (intro w' hw'; (first | rw [hw'] | (have hw2 := HSF.out w' hw'; (try obtain ⟨hw2, hw3⟩ := hw2)) | skip); go_simp; (try with_reducible rfl))
              simp only [Act.put, List.setIfInBounds_toArray, List.set_cons_zero, List.set_cons_succ]
              refine wpAnyX_S (i := 1) (v := ?_) rfl (by kernel_rfl) (by kernel_rfl) (by kernel_rfl) (by kernel_rfl) (fun _ _ _ h => h) (Or.inl ⟨by rfl, ?_⟩) hS ?_
              rotate_left 1
              · (intro w' hw'; (first | rw [hw'] | (have hw2 := HSF.out w' hw'; (try obtain ⟨hw2, hw3⟩ := hw2)) | skip); go_simp; (try with_reducible rfl))
              simp only [Act.put, List.setIfInBounds_toArray, List.set_cons_zero, List.set_cons_succ]
              refine wpAnyX_S (i := 2) (v := ?_) rfl (by kernel_rfl) (by kernel_rfl) (by kernel_rfl) (by kernel_rfl) (fun _ _ _ h => h) (Or.inl ⟨by rfl, ?_⟩) hS ?_
              rotate_left 1
              · (intro w' hw'; (first | rw [hw'] | (have hw2 := HSF.out w' hw'; (try obtain ⟨hw2, hw3⟩ := hw2)) | skip); go_simp; (try with_reducible rfl))
              simp only [Act.put, List.setIfInBounds_toArray, List.set_cons_zero, List.set_cons_succ]
              refine wpAnyX_S (i := 3) (v := ?_) rfl (by kernel_rfl) (by kernel_rfl) (by kernel_rfl) (by kernel_rfl) (fun _ _ _ h => h) (Or.inl ⟨by rfl, ?_⟩) hS ?_
              rotate_left 1
              · (intro w' hw'; (first | rw [hw'] | (have hw2 := HSF.out w' hw'; (try obtain ⟨hw2, hw3⟩ := hw2)) | skip); go_simp; (try with_reducible rfl))
              simp only [Act.put, List.setIfInBounds_toArray, List.set_cons_zero, List.set_cons_succ]
              refine wpAnyX_S (i := 4) (v := ?_) rfl (by kernel_rfl) (by kernel_rfl) (by kernel_rfl) (by kernel_rfl) (fun _ _ _ h => h) (Or.inl ⟨by rfl, ?_⟩) hS ?_
              rotate_left 1
              · (intro w' hw'; (first | rw [hw'] | (have hw2 := HSF.out w' hw'; (try obtain ⟨hw2, hw3⟩ := hw2)) | skip); go_simp; (try with_reducible rfl))
              simp only [Act.put, List.setIfInBounds_toArray, List.set_cons_zero, List.set_cons_succ]
              refine wpAnyX_S (i := 5) (v := ?_) rfl (by kernel_rfl) (by kernel_rfl) (by kernel_rfl) (by kernel_rfl) (fun _ _ _ h => h) (Or.inl ⟨by rfl, ?_⟩) hS ?_
              rotate_left 1
              · (intro w' hw'; (first | rw [hw'] | (have hw2 := HSF.out w' hw'; (try obtain ⟨hw2, hw3⟩ := hw2)) | skip); go_simp; (try with_reducible rfl))
              simp only [Act.put, List.setIfInBounds_toArray, List.set_cons_zero, List.set_cons_succ]
              refine wpAnyX_S (i := 6) (v := ?_) rfl (by kernel_rfl) (by kernel_rfl) (by kernel_rfl) (by kernel_rfl) (fun _ _ _ h => h) (Or.inl ⟨by rfl, ?_⟩) hS ?_
              rotate_left 1
              · (intro w' hw'; (first | rw [hw'] | (have hw2 := HSF.out w' hw'; (try obtain ⟨hw2, hw3⟩ := hw2)) | skip); go_simp; (try with_reducible rfl))
              simp only [Act.put, List.setIfInBounds_toArray, List.set_cons_zero, List.set_cons_succ]
              refine wpAnyX_S (i := 7) (v := ?_) rfl (by kernel_rfl) (by kernel_rfl) (by kernel_rfl) (by kernel_rfl) (fun _ _ _ h => h) (Or.inl ⟨by rfl, ?_⟩) hS ?_
              rotate_left 1
              · (intro w' hw'; (first | rw [hw'] | (have hw2 := HSF.out w' hw'; (try obtain ⟨hw2, hw3⟩ := hw2)) | skip); go_simp; (try with_reducible rfl))
              simp only [Act.put, List.setIfInBounds_toArray, List.set_cons_zero, List.set_cons_succ]
              refine wpAnyX_S (i := 8) (v := ?_) rfl (by kernel_rfl) (by kernel_rfl) (by kernel_rfl) (by kernel_rfl) (fun _ _ _ h => h) (Or.inl ⟨by rfl, ?_⟩) hS ?_
              rotate_left 1
              · (intro w' hw'; (first | rw [hw'] | (have hw2 := HSF.out w' hw'; (try obtain ⟨hw2, hw3⟩ := hw2)) | skip); go_simp; (try with_reducible rfl))
              simp only [Act.put, List.setIfInBounds_toArray, List.set_cons_zero, List.set_cons_succ]
              refine wpAnyX_S (i := 9) (v := ?_) rfl (by kernel_rfl) (by kernel_rfl) (by kernel_rfl) (by kernel_rfl) (fun _ _ _ h => h) (Or.inl ⟨by rfl, ?_⟩) hS ?_
              rotate_left 1
              · (intro w' hw'; (first | rw [hw'] | (have hw2 := HSF.out w' hw'; (try obtain ⟨hw2, hw3⟩ := hw2)) | skip); go_simp; (try with_reducible rfl))
              simp only [Act.put, List.setIfInBounds_toArray, List.set_cons_zero, List.set_cons_succ]
              refine wpAnyX_S (i := 10) (v := ?_) rfl (by kernel_rfl) (by kernel_rfl) (by kernel_rfl) (by kernel_rfl) (fun _ _ _ h => h) (Or.inl ⟨by rfl, ?_⟩) hS ?_
              rotate_left 1
              · (intro w' hw'; (first | rw [hw'] | (have hw2 := HSF.out w' hw'; (try obtain ⟨hw2, hw3⟩ := hw2)) | skip); go_simp; (try with_reducible rfl))
              simp only [Act.put, List.setIfInBounds_toArray, List.set_cons_zero, List.set_cons_succ]
              refine wpAnyX_S (i := 11) (v := ?_) rfl (by kernel_rfl) (by kernel_rfl) (by kernel_rfl) (by kernel_rfl) (fun _ _ _ h => h) (Or.inl ⟨by rfl, ?_⟩) hS ?_
              rotate_left 1
              · (intro w' hw'; (first | rw [hw'] | (have hw2 := HSF.out w' hw'; (try obtain ⟨hw2, hw3⟩ := hw2)) | skip); go_simp; (try with_reducible rfl))
              simp only [Act.put, List.setIfInBounds_toArray, List.set_cons_zero, List.set_cons_succ]
              refine wpAnyX_S (i := 12) (v := ?_) rfl (by kernel_rfl) (by kernel_rfl) (by kernel_rfl) (by kernel_rfl) (fun _ _ _ h => h) (Or.inl ⟨by rfl, ?_⟩) hS ?_
              rotate_left 1
              · (intro w' hw'; (first | rw [hw'] | (have hw2 := HSF.out w' hw'; (try obtain ⟨hw2, hw3⟩ := hw2)) | skip); go_simp; (try with_reducible rfl))
              simp only [Act.put, List.setIfInBounds_toArray, List.set_cons_zero, List.set_cons_succ]
              refine wpAnyX_S (i := 13) (v := ?_) rfl (by kernel_rfl) (by kernel_rfl) (by kernel_rfl) (by kernel_rfl) (fun _ _ _ h => h) (Or.inl ⟨by rfl, ?_⟩) hS ?_
              rotate_left 1
              · (intro w' hw'; (first | rw [hw'] | (have hw2 := HSF.out w' hw'; (try obtain ⟨hw2, hw3⟩ := hw2)) | skip); go_simp; (try with_reducible rfl))
              simp only [Act.put, List.setIfInBounds_toArray, List.set_cons_zero, List.set_cons_succ]
              refine wpAnyX_S (i := 14) (v := ?_) rfl (by kernel_rfl) (by kernel_rfl) (by kernel_rfl) (by kernel_rfl) (fun _ _ _ h => h) (Or.inl ⟨by rfl, ?_⟩) hS ?_
              rotate_left 1
              · (intro w' hw'; (first | rw [hw'] | (have hw2 := HSF.out w' hw'; (try obtain ⟨hw2, hw3⟩ := hw2)) | skip); go_simp; (try with_reducible rfl))
              simp only [Act.put, List.setIfInBounds_toArray, List.set_cons_zero, List.set_cons_succ]
              refine wpAnyX_S (i := 15) (v := ?_) rfl (by kernel_rfl) (by kernel_rfl) (by kernel_rfl) (by kernel_rfl) (fun _ _ _ h => h) (Or.inl ⟨by rfl, ?_⟩) hS ?_
              rotate_left 1
              · (intro w' hw'; (first | rw [hw'] | (have hw2 := HSF.out w' hw'; (try obtain ⟨hw2, hw3⟩ := hw2)) | skip); go_simp; (try with_reducible rfl))
              simp only [Act.put, List.setIfInBounds_toArray, List.set_cons_zero, List.set_cons_succ]
              refine wpAnyX_S (i := 16) (v := ?_) rfl (by kernel_rfl) (by kernel_rfl) (by kernel_rfl) (by kernel_rfl) (fun _ _ _ h => h) (Or.inl ⟨by rfl, ?_⟩) hS ?_
              rotate_left 1
              · (intro w' hw'; (first | rw [hw'] | (have hw2 := HSF.out w' hw'; (try obtain ⟨hw2, hw3⟩ := hw2)) | skip); go_simp; (try with_reducible rfl))
              simp only [Act.put, List.setIfInBounds_toArray, List.set_cons_zero, List.set_cons_succ]
              refine wpAnyX_S (i := 17) (v := ?_) rfl (by kernel_rfl) (by kernel_rfl) (by kernel_rfl) (by kernel_rfl) (fun _ _ _ h => h) (Or.inl ⟨by rfl, ?_⟩) hS ?_
              rotate_left 1
              · (intro w' hw'; (first | rw [hw'] | (have hw2 := HSF.out w' hw'; (try obtain ⟨hw2, hw3⟩ := hw2)) | skip); go_simp; (try with_reducible rfl))
              simp only [Act.put, List.setIfInBounds_toArray, List.set_cons_zero, List.set_cons_succ]
              refine wpAnyX_S (i := 18) (v := ?_) rfl (by kernel_rfl) (by kernel_rfl) (by kernel_rfl) (by kernel_rfl) (fun _ _ _ h => h) (Or.inl ⟨by rfl, ?_⟩) hS ?_
              rotate_left 1
              · (intro w' hw'; (first | rw [hw'] | (have hw2 := HSF.out w' hw'; (try obtain ⟨hw2, hw3⟩ := hw2)) | skip); go_simp; (try with_reducible rfl))
              simp only [Act.put, List.setIfInBounds_toArray, List.set_cons_zero, List.set_cons_succ]
              refine wpAnyX_oneL (k := 19) rfl (by kernel_rfl) rfl ?_
              refine wp_of_run (v := .slice (some ⟨wd.heap.size, 0, none⟩) 1 1) (w' := wd.alloc (.cells #[.string (bsS b), .string (bsS c)] 62)) (by go_simp) ⟨fun _ => ⟨hS.1.alloc _, hS.2.1.alloc _, hS.2.2.alloc _⟩, ?_⟩
              simp only [Act.put, List.setIfInBounds_toArray, List.set_cons_zero, List.set_cons_succ]
              refine wpAnyX_oneL (k := 20) rfl (by kernel_rfl) rfl ?_
              have hbd : rb + 1 ≤ (wd.alloc (.cells #[.string (bsS b), .string (bsS c)] 62)).heap.size := by have := HFw.out.rd.lt; simp; omega
              refine wp_append_any _ (.tmp 49) (.tmp 57) 26 rfl (rb + 1) 62 i0 (.agg #[.string ⟨#[]⟩, .string ⟨#[]⟩]) 2 32 Tryd.underlying26 hi0 hz0 hz1 hz2 rfl (by decide) _ _ _ rfl (hOw.alloc _) (wd.heap.size + 1) _ 1 1 [.string (bsS b), .string (bsS c)] rfl (reads_row2 wd _ _ _ (Nat.lt_succ_self _)) (itC_one ⟨b, c⟩) (by unfold maxLen; omega) (by omega) hbd ?_
              intro v9 w9 ho9 hg9 hb9
              obtain ⟨A9, c99, hv9, hO9⟩ := ownI_form (l := m2.at 3 ++ [⟨b, c⟩]) (by simpa [itsC_app, itsC, itC] using ho9)
              subst hv9
              have hadd := HFw.out.add (p' := 3) (k := 3) (x := ⟨b, c⟩) (o := .cells #[.string (bsS b), .string (bsS c)] 62) (A := A9) (c := c99) (w9 := w9) (by omega) hlb (by rw [HHD.out]; exact hO9) (by rw [HHD.out]; exact hg9) (by rw [HHD.out]; exact hb9) (by rw [HHD.out]; show n + 1 ≤ i + 1; omega) HBC.out
              rw [HHD.out] at hadd
              have HADD := Sl.mk hadd
              have hOa : OwnI (wd.alloc (.cells #[.string (bsS b), .string (bsS c)] 62)) (rb + 1) A n c9 _ := World.ownsRow.alloc hOw _
              have hli9 := (HFw.out.li.alloc (.cells #[.string (bsS b), .string (bsS c)] 62)).grown hg9 (fun e => own_blk_ne hOa (HFw.out.li.alloc (.cells #[.string (bsS b), .string (bsS c)] 62)) (by decide) e.symm)
              have hst9 := (HCw.out.alloc (.cells #[.string (bsS b), .string (bsS c)] 62)).grown hg9 (fun e => own_blk_ne hOa (HCw.out.alloc (.cells #[.string (bsS b), .string (bsS c)] 62)) (by decide) e.symm)
              refine ⟨fun _ => ⟨HADD.out.1, hli9, hst9⟩, ?_⟩
              simp only [Act.put, List.setIfInBounds_toArray, List.set_cons_zero, List.set_cons_succ]
              have d2 := HADD.out.1.cell 8
              have f2 := HADD.out.1.frozen 8
              clear hS hbd ho9 hg9 hb9 hO9 hadd hli9 hst9 hOw hOa HSF
              refine wpAnyX_tailF [21, 22] (by kernel_rfl) (by rfl) (by rfl) (by rfl) ?_
              simp only [List.filterMap_cons, List.filterMap_nil, List.getElem?_cons_succ, List.getElem?_cons_zero]
              go_wp2_with fail
              refine NoPanic.normal ?_
              go_wp2_with fail
              go_roundg (N - (i + 1))
              case measure => omega
              case rel => exact ⟨i + 1, 3, m2.add 3 ⟨b, c⟩, _, rfl, by omega, by omega, by go_num, ⟨HADD.out.2⟩, HR1⟩
            · rw [decide_eq_false ha] at he
              have HR1 := Sl.mk (show R = match findW 4 a with
                | some k => restsM (m2.add k ⟨b, c⟩) k (L.drop (i + 1)) (i + 1)
                | none => (m2, false, i + 1) by rw [HJ.out, findW_next (p := 3) (by omega) ha])
              clear ha
              go_wp2_with fail
              go_quiet (fail)
              go_wp2_with fail
              go_roundg (4 - 4)
              case measure => omega
              case rel => exact ⟨4, rfl, by omega, by go_num, ⟨HFd.out.be_ (below_drN (Below.refl _ _) nq)⟩, ⟨HCd.out.drewN nq⟩, HR1⟩
          | 4, _ =>
            have HC := Sl.mk (show R = (m2, false, i + 1) by rw [HJ.out, findW_end])
            go_wp2_with fail
            rw [Exit.noGoto_ret]
            go_ret
            exact ⟨by rw [HC.out]; rfl, m2, hd2, _, by rw [HC.out]; exact HFd.out.at_p, fun h => by rw [HC.out] at h; cases h⟩
      · have HC := Sl.mk (show R = (m2, false, i + 1) by rw [HRC.out, restM_len (by rw [hW]; exact h2)])
        have h2' : ((W.length : Int) != 3) = true := by simp; omega
        clear h2 hW
        go_wp2_with fail
        rw [Exit.noGoto_ret]
        go_ret
        exact ⟨by rw [HC.out]; rfl, m2, hd2, _, by rw [HC.out]; exact HF.out.at_p, fun h => by rw [HC.out] at h; cases h⟩
end Go.Proofs.YtmgblbkmbiiofaaDoor
