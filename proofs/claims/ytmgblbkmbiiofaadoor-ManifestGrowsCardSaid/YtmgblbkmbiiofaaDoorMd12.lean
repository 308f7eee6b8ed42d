/-
  The contract of a reader's heads.
  What a text's lines tell, line by line (plain).
  The document's side: below, is.
  The document's side: key.
  The document's side: Right.
  The document's side: Right at wants.
  The document's side: cut.
-/
import Derived.Test.YtmgblbkmbiiofaaDoorMd6
import Derived.Test.YtmgblbkmbiiofaaDoorMd11
import Derived.BigQuiet
import Derived.Test.YtmgblbkmbiiofaaDoorMd7
import Derived.Lib.IndexLaws
import Derived.Test.YtmgblbkmbiiofaaDoorMd9
import Derived.Test.YtmgblbkmbiiofaaDoorMd5

namespace Go.Proofs.YtmgblbkmbiiofaaDoor
open Go.RowKit
attribute [local go_sem ↓] Go.wp_at_zero Go.wp_at_succ
set_option linter.unusedVariables false

def headsF (L : List Bs) : Option (Bs × Bs × Nat) × Nat := match headR L 0 hw0 with
  | none => (none, 1)
  | some x => match headR L 1 hw1 with
    | none => (none, 2)
    | some y => match headR L 2 hw2 with
      | none => (none, 3)
      | some z => if (numP z).2 = true then (some (x, y, (numP z).1), 3) else (none, 3)
theorem scan_heads (L : List Bs) : scanM L = match headsF L with
    | (none, k) => (mf0, false, k)
    | (some (x, y, n), _) => restsM ⟨x, y, (n : Nat), [], [], [], []⟩ 0 (L.drop 3) 3 := by
  unfold headsF headR
  match L with
  | [] => rfl
  | a :: L =>
    unfold scanM
    simp only [List.getElem?_cons_zero, List.getElem?_cons_succ, Option.bind_some]
    cases headM hw0 a with
    | none => rfl
    | some x =>
      match L with
      | [] => rfl
      | b :: L =>
        simp only [List.getElem?_cons_zero, List.getElem?_cons_succ, Option.bind_some]
        cases headM hw1 b with
        | none => rfl
        | some y =>
          match L with
          | [] => rfl
          | c :: L =>
            simp only [List.getElem?_cons_zero, Option.bind_some]
            cases headM hw2 c with
            | none => rfl
            | some z =>
              simp only [Option.bind_some, numM_of]
              by_cases h : (numP z).2 = true
              · rw [if_pos h, if_pos h]; rfl
              · rw [if_neg h, if_neg h]
def HeadsPost (w : World) (rb lb : Nat) (L : List Bs) (r : Option (Bs × Bs × Nat) × Nat) (e : Ending) (w' : World) : Prop :=
  w.grownBy w' (some rb) ∧ e = .returned (.bool r.1.isSome) ∧ ∃ a b n, (∀ x y k, r.1 = some (x, y, k) → a = x ∧ b = y ∧ n = (k : Nat)) ∧
    Blk w' rb 73 #[.slice (some ⟨lb, 0, none⟩) L.length L.length, .int .i64 (r.2 : Nat), .string (bsS a), .string (bsS b), .int .i64 n, .slice none 0 0, .slice none 0 0, .slice none 0 0, .slice none 0 0]
theorem em_only {w w' : World} {rb : Nat} (h : Em w rb) (hg : w.grownBy w' (some rb)) (hl : rb < w.heap.size) : Em w' rb :=
  h.be ((Below.refl rb w).grown hg (Nat.le_of_lt hl) (fun g hg => by injection hg with hg; omega))
theorem Lns.only {w w' : World} {rb lb : Nat} {L : List Bs} (h : Lns w lb L) (hg : w.grownBy w' (some rb)) (hne : lb ≠ rb) : Lns w' lb L :=
  ⟨fun j s hs => hg.cell (h.cells j s hs) (fun e => hne (Option.some.inj e)), Nat.lt_of_lt_of_le h.lt hg.size, h.len, h.n⟩
set_option maxRecDepth 100000 in
set_option maxHeartbeats 8000000 in
theorem heads_any (rb lb : Nat) (L : List Bs) (w : World) (hL0 : 1 ≤ L.length) (hL : Lns w lb L) (hne : lb ≠ rb) (hM : Em w rb)
    (hB : Blk w rb 73 #[.slice (some ⟨lb, 0, none⟩) L.length L.length, .int .i64 0, .string ⟨#[]⟩, .string ⟨#[]⟩, .int .i64 0, .slice none 0 0, .slice none 0 0, .slice none 0 0, .slice none 0 0]) :
    Calls Tryd.prog 20 #[.pointer (some ⟨rb, 0, none⟩)] w (HeadsPost w rb lb L (headsF L)) := by
  have hRL : rb < w.heap.size := hB.lt
  have H0 := Sl.mk (head_any rb lb L 0 _ _ _ _ _ _ _ hw0 w (by omega) hL hne hM hB)
  obtain ⟨r0, hr0⟩ : ∃ r, headR L 0 hw0 = r := ⟨_, rfl⟩
  obtain ⟨R, hR⟩ : ∃ R, headsF L = R := ⟨_, rfl⟩
  rw [hR]
  have HR0 := Sl.mk hr0
  have HRR := Sl.mk hR
  rw [hr0] at H0
  have HL := Sl.mk hL
  have HM := Sl.mk hM
  have e0 : min 0 L.length + 1 = 1 := by omega
  have e1 : min 1 L.length + 1 = 2 := by omega
  unfold HeadPost at H0
  rw [e0] at H0
  clear hL hM hB hr0 hR
  go_enter Tryd.func20, Tryd.ntmps20
  go_wp2_with fail
  refine H0.out.mono ?_
  rintro e w1 ⟨hg1, hb1, rfl⟩
  have f1 := hb1.frozen 2
  have k1 := hb1.cell 2
  have HG1 := Sl.mk hg1
  have HB1 := Sl.mk hb1
  clear hg1 hb1
  cases r0 with
  | none =>
    have HC := Sl.mk (show R = (none, 1) by rw [← HRR.out]; unfold headsF; rw [HR0.out])
    go_wp2_with fail
    go_ret
    refine ⟨only_setCell HG1.out _ _, by rw [HC.out]; rfl, [], [], 0, (fun x y k h => (by rw [HC.out] at h; cases h)), ?_⟩
    rw [HC.out]
    exact blk_set _ _ _ _ 2 _ _ HB1.out rfl
  | some x =>
    obtain ⟨w2, hwb⟩ : ∃ w2, w1.setCell ⟨rb, 2, none⟩ (.string (bsS x)) = w2 := ⟨_, rfl⟩
    go_upto_region 5 with fail
    have hb2 : Blk w2 rb 73 #[.slice (some ⟨lb, 0, none⟩) L.length L.length, .int .i64 ((1 : Nat) : Int), .string (bsS x), .string ⟨#[]⟩, .int .i64 0, .slice none 0 0, .slice none 0 0, .slice none 0 0, .slice none 0 0] := by rw [← hwb]; exact blk_set _ _ _ _ 2 _ _ HB1.out rfl
    have hg2 : w.grownBy w2 (some rb) := by rw [← hwb]; exact only_setCell HG1.out _ _
    have HG2 := Sl.mk hg2
    have H1 := Sl.mk (head_any rb lb L 1 _ _ _ _ _ _ _ hw1 w2 (by omega) (HL.out.only hg2 hne) hne (em_only HM.out hg2 hRL) hb2)
    unfold HeadPost at H1
    rw [e1] at H1
    obtain ⟨r1, hr1⟩ : ∃ r, headR L 1 hw1 = r := ⟨_, rfl⟩
    have HR1 := Sl.mk hr1
    rw [hr1] at H1
    clear hg2 hb2 hr1 f1 k1
    clear hwb
    go_wp2_with fail
    refine H1.out.mono ?_
    rintro e w3 ⟨hg3, hb3, rfl⟩
    have f3 := hb3.frozen 3
    have k3 := hb3.cell 3
    have HG3 := Sl.mk (only_trans HG2.out hg3)
    have HB3 := Sl.mk hb3
    clear hg3 hb3
    cases r1 with
    | none =>
      have HC := Sl.mk (show R = (none, 2) by rw [← HRR.out]; unfold headsF; rw [HR0.out]; simp only []; rw [HR1.out])
      go_wp2_with fail
      go_ret
      refine ⟨only_setCell HG3.out _ _, by rw [HC.out]; rfl, x, [], 0, (fun a b k h => (by rw [HC.out] at h; cases h)), ?_⟩
      rw [HC.out]
      exact blk_set _ _ _ _ 3 _ _ HB3.out rfl
    | some y =>
      have h2L : 2 ≤ L.length := by
        have := HR1.out
        unfold headR at this
        rcases Nat.lt_or_ge 1 L.length with h | h
        · exact h
        · rw [List.getElem?_eq_none h] at this; cases this
      have e2 : min 2 L.length + 1 = 3 := by omega
      obtain ⟨w4, hwd⟩ : ∃ w4, w3.setCell ⟨rb, 3, none⟩ (.string (bsS y)) = w4 := ⟨_, rfl⟩
      go_upto_region 8 with fail
      have hb4 : Blk w4 rb 73 #[.slice (some ⟨lb, 0, none⟩) L.length L.length, .int .i64 ((2 : Nat) : Int), .string (bsS x), .string (bsS y), .int .i64 0, .slice none 0 0, .slice none 0 0, .slice none 0 0, .slice none 0 0] := by rw [← hwd]; exact blk_set _ _ _ _ 3 _ _ HB3.out rfl
      have hg4 : w.grownBy w4 (some rb) := by rw [← hwd]; exact only_setCell HG3.out _ _
      have HG4 := Sl.mk hg4
      have H2 := Sl.mk (head_any rb lb L 2 _ _ _ _ _ _ _ hw2 w4 (by omega) (HL.out.only hg4 hne) hne (em_only HM.out hg4 hRL) hb4)
      unfold HeadPost at H2
      rw [e2] at H2
      obtain ⟨r2, hr2⟩ : ∃ r, headR L 2 hw2 = r := ⟨_, rfl⟩
      have HR2 := Sl.mk hr2
      rw [hr2] at H2
      clear hg4 hb4 hr2 f3 k3 hwd h2L
      go_wp2_with fail
      refine H2.out.mono ?_
      rintro e w5 ⟨hg5, hb5, rfl⟩
      have f5 := hb5.frozen 4
      have k5 := hb5.cell 4
      have HG5 := Sl.mk (only_trans HG4.out hg5)
      have HB5 := Sl.mk hb5
      clear hg5 hb5
      cases r2 with
      | none =>
        have HC := Sl.mk (show R = (none, 3) by rw [← HRR.out]; unfold headsF; rw [HR0.out]; simp only []; rw [HR1.out]; simp only []; rw [HR2.out])
        go_wp2_with fail
        go_ret
        refine ⟨HG5.out, by rw [HC.out]; rfl, x, y, 0, (fun a b k h => (by rw [HC.out] at h; cases h)), ?_⟩
        rw [HC.out]
        exact HB5.out
      | some z =>
        have HC := Sl.mk (show R = if (numP z).2 = true then (some (x, y, (numP z).1), 3) else (none, 3) by rw [← HRR.out]; unfold headsF; rw [HR0.out]; simp only []; rw [HR1.out]; simp only []; rw [HR2.out])
        have hzl : z.length ≤ 1000000 := by
          have := HR2.out
          unfold headR at this
          obtain ⟨l, hl1, hl2⟩ := Option.bind_eq_some_iff.1 this
          have h1 := HL.out.len l (List.mem_of_getElem? hl1)
          have h2 := head_some hl2
          rw [h2] at h1
          unfold sp2 at h1
          simp at h1
          omega
        have HNB := Sl.mk (fun W => numb_any z W hzl)
        obtain ⟨n, b, hnb⟩ : ∃ n b, numP z = (n, b) := ⟨_, _, rfl⟩
        rw [hnb] at HNB HC
        clear hnb hzl
        go_wp2_with fail
        refine (HNB.out _).mono ?_
        rintro e w6 ⟨rfl, rfl⟩
        cases b
        · have HC2 := Sl.mk (show R = (none, 3) from HC.out.trans (if_neg (by decide)))
          go_wp2_with fail
          go_ret
          refine ⟨only_setCell HG5.out _ _, by rw [HC2.out]; rfl, x, y, n, (fun a b k h => (by rw [HC2.out] at h; cases h)), ?_⟩
          rw [HC2.out]
          exact blk_set _ _ _ _ 4 _ _ HB5.out rfl
        · have HC2 := Sl.mk (show R = (some (x, y, n), 3) from HC.out.trans (if_pos rfl))
          go_wp2_with fail
          go_ret
          refine ⟨only_setCell HG5.out _ _, by rw [HC2.out]; rfl, x, y, n, (fun a b k h => (by rw [HC2.out] at h; injection h with h; injection h with h1 h2; injection h2 with h2 h3; exact ⟨h1, h2, h3⟩)), ?_⟩
          rw [HC2.out]
          exact blk_set _ _ _ _ 4 _ _ HB5.out rfl
end Go.Proofs.YtmgblbkmbiiofaaDoor

namespace Go.Proofs.YtmgblbkmbiiofaaDoor

def finM (wh : Bool) (N : Nat) (S : Mf × Bool × Nat) : Mf × Int × Int :=
  if wh = false then (mf0, (min S.2.2 N : Nat), 3)
  else if S.2.1 = false then (mf0, (S.2.2 : Nat), 3)
  else if checkM S.1 ≠ 0 then (mf0, 0, checkM S.1)
  else (S.1, 0, 0)
theorem parse_fin {s : Bs} (h : ¬ 4096 < s.length) : parseM s = finM (whB s) (linesM s).length (scanM (linesM s)) := by
  unfold parseM finM
  rw [if_neg h]
theorem fin_bad {wh : Bool} {N i : Nat} {m : Mf} (h : i < N) : finM wh N (m, false, i + 1) = (mf0, (i : Int) + 1, 3) := by
  unfold finM
  cases wh
  · rw [if_pos rfl]
    simp only
    rw [Nat.min_eq_left (by omega)]
    rfl
  · rw [if_neg (by decide), if_pos rfl]; rfl
theorem fin_end_f {N : Nat} {m : Mf} {ok : Bool} : finM false N (m, ok, N + 1) = (mf0, (N : Int), 3) := by
  unfold finM
  rw [if_pos rfl]
  simp only
  rw [Nat.min_eq_right (by omega)]
theorem fin_end_t {N : Nat} {m : Mf} : finM true N (m, false, N + 1) = (mf0, (N : Int) + 1, 3) := by
  unfold finM
  rw [if_neg (by decide), if_pos rfl]; rfl
theorem fin_ck {N k : Nat} {m : Mf} (h : checkM m ≠ 0) : finM true N (m, true, k) = (mf0, 0, checkM m) := by
  unfold finM
  rw [if_neg (by decide), if_neg (by simp), if_pos h]
theorem fin_ok {N k : Nat} {m : Mf} (h : checkM m = 0) : finM true N (m, true, k) = (m, 0, 0) := by
  unfold finM
  rw [if_neg (by decide), if_neg (by simp), if_neg (by simp [h])]
theorem scan_f0 {L : List Bs} (h : headR L 0 hw0 = none) : scanM L = (mf0, false, 1) := by
  rw [scan_heads]; unfold headsF; rw [h]
theorem scan_f1 {L : List Bs} {x : Bs} (h0 : headR L 0 hw0 = some x) (h : headR L 1 hw1 = none) : scanM L = (mf0, false, 2) := by
  rw [scan_heads]; unfold headsF; rw [h0]; simp only; rw [h]
theorem scan_f2 {L : List Bs} {x y : Bs} (h0 : headR L 0 hw0 = some x) (h1 : headR L 1 hw1 = some y) (h : headR L 2 hw2 = none) : scanM L = (mf0, false, 3) := by
  rw [scan_heads]; unfold headsF; rw [h0]; simp only; rw [h1]; simp only; rw [h]
theorem scan_f3 {L : List Bs} {x y z : Bs} (h0 : headR L 0 hw0 = some x) (h1 : headR L 1 hw1 = some y) (h2 : headR L 2 hw2 = some z) (h : nuOk z = false) : scanM L = (mf0, false, 3) := by
  rw [scan_heads]; unfold headsF; rw [h0]; simp only; rw [h1]; simp only; rw [h2]; simp only; rw [num_bad h, if_neg (by decide)]
theorem scan_f4 {L : List Bs} {x y z : Bs} (h0 : headR L 0 hw0 = some x) (h1 : headR L 1 hw1 = some y) (h2 : headR L 2 hw2 = some z) (h : nuOk z = true) : scanM L = restsM ⟨x, y, (dcF z : Nat), [], [], [], []⟩ 0 (L.drop 3) 3 := by
  rw [scan_heads]; unfold headsF; rw [h0]; simp only; rw [h1]; simp only; rw [h2]; simp only; rw [num_good h, if_pos rfl]
theorem headR_lt {L : List Bs} {i : Nat} {w : Bs} {l : Bs} (h : L[i]? = some l) : headR L i w = headM w l := by unfold headR; rw [h]; rfl
theorem headR_ge {L : List Bs} {i : Nat} {w : Bs} (h : L.length ≤ i) : headR L i w = none := by unfold headR; rw [List.getElem?_eq_none h]; rfl
theorem hdM_two {w l a b : Bs} (h : Lib.split l [32] = [a, b]) : headM w l = if a = w then some b else none := by unfold headM; rw [h]
theorem headM_not {w l : Bs} (h : (Lib.split l [32]).length ≠ 2) : headM w l = none := by
  unfold headM
  split
  · rename_i a b e; rw [e] at h; exact absurd rfl h
  · rfl
theorem restsM_at {L : List Bs} {m : Mf} {lst i : Nat} {l : Bs} (h : L[i]? = some l) : restsM m lst (L.drop i) i = match restM m lst l with
    | none => (m, false, i + 1)
    | some q => restsM q.1 q.2 (L.drop (i + 1)) (i + 1) := by
  have hi := (List.getElem?_eq_some_iff.1 h).1
  have he := (List.getElem?_eq_some_iff.1 h).2
  rw [List.drop_eq_getElem_cons hi, he, restsM]
  rfl
theorem rests_end {L : List Bs} {m : Mf} {lst i : Nat} (h : L.length ≤ i) : restsM m lst (L.drop i) i = (m, true, i + 1) := by
  rw [List.drop_eq_nil_of_le h, restsM]
theorem restM_n3 {m : Mf} {lst : Nat} {l : Bs} (h : (Lib.split l [32]).length ≠ 3) : restM m lst l = none := by
  unfold restM
  split
  · rename_i a b c e; rw [e] at h; exact absurd rfl h
  · rfl
theorem restM_3w {m : Mf} {lst : Nat} {l a b c : Bs} (h : Lib.split l [32] = [a, b, c]) : restM m lst l = match findW lst a with
    | some k => some (m.add k ⟨b, c⟩, k)
    | none => none := by unfold restM; rw [h]; rfl
theorem wl_nodup : wl.Nodup := by decide
theorem wl_len : wl.length = 4 := rfl
theorem findW_hit {lst k : Nat} {a : Bs} (h : wl[k]? = some a) (hk : lst ≤ k) : findW lst a = some k := by
  have hk4 := (List.getElem?_eq_some_iff.1 h).1
  have he := (List.getElem?_eq_some_iff.1 h).2
  unfold findW
  have e : wl.findIdx? (· == a) = some k := by
    rw [List.findIdx?_eq_some_iff_getElem]
    refine ⟨hk4, by rw [he]; simp, fun j hj => ?_⟩
    simp only [Bool.not_eq_true, beq_eq_false_iff_ne]
    intro e2
    have key : ∀ k, k < 4 → ∀ j, j < k → wl.getD j [] ≠ wl.getD k [] := by decide
    have h2 := key k hk4 j hj
    rw [List.getD_eq_getElem?_getD, List.getD_eq_getElem?_getD, h, List.getElem?_eq_getElem (by omega), e2] at h2
    exact h2 rfl
  rw [e]
  simp only
  rw [if_pos hk]
theorem findW_miss {lst : Nat} {a : Bs} (h : ∀ k, lst ≤ k → k < 4 → wl[k]? ≠ some a) : findW lst a = none := by
  unfold findW
  cases e : wl.findIdx? (· == a) with
  | none => rfl
  | some k =>
    rw [List.findIdx?_eq_some_iff_getElem] at e
    obtain ⟨h1, h2, _⟩ := e
    simp only
    rw [if_neg]
    intro hk
    refine h k hk h1 ?_
    rw [List.getElem?_eq_getElem h1]
    simp only [beq_iff_eq] at h2
    rw [h2]
theorem nuOk_len {s : Bs} (h : s.length < 1 ∨ 6 < s.length) : nuOk s = false := by
  unfold nuOk
  rcases h with h | h
  · rw [decide_eq_false (show ¬ 1 ≤ s.length by omega)]; rfl
  · rw [decide_eq_false (show ¬ s.length ≤ 6 by omega)]; simp
theorem nuOk_zero {s : Bs} (h : s.getD 0 0 = 48) (h1 : 1 < s.length) : nuOk s = false := by
  unfold nuOk
  rw [h, decide_eq_true h1]; simp
theorem nuOk_ok {s : Bs} (h1 : 1 ≤ s.length) (h6 : s.length ≤ 6) (hz : ¬ (s.getD 0 0 = 48 ∧ 1 < s.length)) (hd : ∀ j, j < s.length → dgB (s.getD j 0) = true) : nuOk s = true := by
  have h : s.all dgB = true := List.all_eq_true.2 fun x hx => by
    obtain ⟨j, hj, rfl⟩ := List.mem_iff_getElem.1 hx
    have := hd j hj
    rw [List.getD_eq_getElem?_getD, List.getElem?_eq_getElem hj] at this
    exact this
  unfold nuOk
  rw [h, decide_eq_true h1, decide_eq_true h6]
  by_cases h3 : 1 < s.length
  · have : (s.getD 0 0 == 48) = false := beq_eq_false_iff_ne.2 fun e => hz ⟨e, h3⟩
    rw [this]; rfl
  · rw [decide_eq_false h3]; simp
end Go.Proofs.YtmgblbkmbiiofaaDoor

namespace Go.Proofs.YtmgblbkmbiiofaaDoor
open Go.RowKit
attribute [local go_sem ↓] Go.wp_at_zero Go.wp_at_succ
set_option linter.unusedVariables false


def isF (l : List Bs) (s : Bs) : Bool := l.contains s

end Go.Proofs.YtmgblbkmbiiofaaDoor

namespace Go.Proofs.YtmgblbkmbiiofaaDoor
open Go.RowKit
attribute [local go_sem ↓] Go.wp_at_zero Go.wp_at_succ
set_option linter.unusedVariables false

theorem occ46 {s : Bs} {j : Nat} (hj : j < s.length) : Lib.occAt s [46] j = (s.getD j 0 == 46) := by
  unfold Lib.occAt
  rw [List.drop_eq_getElem_cons hj, List.getD_eq_getElem?_getD, List.getElem?_eq_getElem hj]
  simp only [List.isPrefixOf, Bool.and_true, Option.getD_some]
  exact Bool.eq_iff_iff.2 ⟨fun h => beq_iff_eq.2 (beq_iff_eq.1 h).symm, fun h => beq_iff_eq.2 (beq_iff_eq.1 h).symm⟩
theorem key_at {s : Bs} {i : Nat} (hi : i < s.length) (h : s.getD i 0 = 46) (hb : ∀ j, j < i → s.getD j 0 ≠ 46) : keyM s = (nmL (s.take i) && nmL (s.drop (i + 1))) := by
  have hx : Lib.index s [46] = (i : Nat) := Lib.index_hit (fun j hj => by rw [occ46 (by omega)]; exact beq_eq_false_iff_ne.2 (hb j hj)) (by omega) (by rw [occ46 hi, h]; rfl)
  unfold keyM Lib.cut
  rw [hx, if_pos (by omega)]
  simp
theorem key_none {s : Bs} (hb : ∀ j, j < s.length → s.getD j 0 ≠ 46) : keyM s = false := by
  have hx : Lib.index s [46] = -1 := Lib.index_past (by simp) (i := s.length) (fun j hj => by rw [occ46 hj]; exact beq_eq_false_iff_ne.2 (hb j hj)) (by simp)
  unfold keyM Lib.cut
  rw [hx, if_neg (by decide)]
  rfl


end Go.Proofs.YtmgblbkmbiiofaaDoor

namespace Go.Proofs.YtmgblbkmbiiofaaDoor
open Go.RowKit
attribute [local go_sem ↓] Go.wp_at_zero Go.wp_at_succ
set_option linter.unusedVariables false




end Go.Proofs.YtmgblbkmbiiofaaDoor

namespace Go.Proofs.YtmgblbkmbiiofaaDoor
open Go.RowKit
attribute [local go_sem ↓] Go.wp_at_zero Go.wp_at_succ
set_option linter.unusedVariables false


end Go.Proofs.YtmgblbkmbiiofaaDoor

namespace Go.Proofs.YtmgblbkmbiiofaaDoor
open Go.RowKit
attribute [local go_sem ↓] Go.wp_at_zero Go.wp_at_succ
set_option linter.unusedVariables false

theorem info_st : ∃ i, Tryd.prog.info? 9 = some i ∧ i.zero = some (.string ByteArray.empty) ∧ i.size = 1 ∧ i.bytes = 16 := by
  have h := strInfo
  cases hi : Tryd.prog.info? 9 with
  | none => rw [hi] at h; cases h
  | some i =>
    rw [hi] at h
    simp only [Option.map_some, Option.some.injEq, Prod.mk.injEq] at h
    exact ⟨i, rfl, h.1, h.2.1, h.2.2⟩
theorem cut_at {s : Bs} {c : UInt8} {f i : Nat} (hf : f ≤ i) (hi : i < s.length) (h : s.getD i 0 = c) (hn : c ∉ (s.drop f).take (i - f)) : Lib.split (s.drop f) [c] = (s.drop f).take (i - f) :: Lib.split (s.drop (i + 1)) [c] := by
  have e : s.drop f = (s.drop f).take (i - f) ++ c :: s.drop (i + 1) := by
    have h1 : (s.drop f).drop (i - f) = c :: s.drop (i + 1) := by
      rw [List.drop_drop, show f + (i - f) = i by omega, List.drop_eq_getElem_cons hi]
      rw [List.getD_eq_getElem?_getD, List.getElem?_eq_getElem hi] at h
      rw [show s[i] = c from h]
    rw [← h1, List.take_append_drop]
  rw [e, split_app _ _ hn, ← e]
theorem cut_more {s : Bs} {c : UInt8} {f i : Nat} (hf : f ≤ i) (hi : i < s.length) (h : s.getD i 0 ≠ c) (hn : c ∉ (s.drop f).take (i - f)) : c ∉ (s.drop f).take (i + 1 - f) := by
  rw [show i + 1 - f = (i - f) + 1 by omega, List.take_add_one]
  intro hm
  rcases List.mem_append.1 hm with hm | hm
  · exact hn hm
  · rw [List.getElem?_drop, show f + (i - f) = i by omega, List.getElem?_eq_getElem hi] at hm
    simp at hm
    rw [List.getD_eq_getElem?_getD, List.getElem?_eq_getElem hi] at h
    exact h hm.symm
theorem strsA_snoc (D : List Bs) (x : Bs) : strsA (D ++ [x]) = strsA D ++ [.string (bsS x)] := by simp [strsA]
def CutPost (w : World) (L : List Bs) (e : Ending) (w' : World) : Prop :=
  Below w.heap.size w w' ∧ ∃ A c, e = .returned (.slice A L.length c) ∧ w'.ownsRow w.heap.size 9 1 (.slice A L.length c) L.length (strsA L)

end Go.Proofs.YtmgblbkmbiiofaaDoor
