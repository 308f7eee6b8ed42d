/-
  The contract of a reader's heads.
  What a text's lines tell, line by line (plain).
  The document's side: below, is.
  The document's side: key.
  The document's side: Right.
  The document's side: Right at wants.
  The document's side: cut.
-/
import Derived.Test.YtmgblbkmbiiofaaGreatDoorMb6
import Derived.Test.YtmgblbkmbiiofaaGreatDoorMb11
import Derived.BigQuiet
import Derived.Test.YtmgblbkmbiiofaaGreatDoorMb7
import Derived.Lib.IndexLaws
import Derived.Test.YtmgblbkmbiiofaaGreatDoorMb9
import Derived.Test.YtmgblbkmbiiofaaGreatDoorMb5

namespace Go.Proofs.YtmgblbkmbiiofaaGreatDoor
open Go.RowKit
attribute [local go_sem ↓] Go.wp_at_zero Go.wp_at_succ
set_option linter.unusedVariables false

def headsF (L : List Bs) : Option (Bs × Bs × Nat) × Nat := match headR L 0 hw0 with
  | none => (none, 1)
  | some x => match headR L 1 hw1 with
    | none => (none, 2)
    | some y => match headR L 2 hw2 with
      | none => (none, 3)
      | some z => if (numP z).2 = true then (some (x, y, (numP z).1), 3) else (none, 3)
theorem scan_heads (L : List Bs) : scanM L = match headsF L with
    | (none, k) => (mf0, false, k)
    | (some (x, y, n), _) => restsM ⟨x, y, (n : Nat), [], [], [], []⟩ 0 (L.drop 3) 3 := by
  unfold headsF headR
  match L with
  | [] => rfl
  | a :: L =>
    unfold scanM
    simp only [List.getElem?_cons_zero, List.getElem?_cons_succ, Option.bind_some]
    cases headM hw0 a with
    | none => rfl
    | some x =>
      match L with
      | [] => rfl
      | b :: L =>
        simp only [List.getElem?_cons_zero, List.getElem?_cons_succ, Option.bind_some]
        cases headM hw1 b with
        | none => rfl
        | some y =>
          match L with
          | [] => rfl
          | c :: L =>
            simp only [List.getElem?_cons_zero, Option.bind_some]
            cases headM hw2 c with
            | none => rfl
            | some z =>
              simp only [Option.bind_some, numM_of]
              by_cases h : (numP z).2 = true
              · rw [if_pos h, if_pos h]; rfl
              · rw [if_neg h, if_neg h]
def HeadsPost (w : World) (rb lb : Nat) (L : List Bs) (r : Option (Bs × Bs × Nat) × Nat) (e : Ending) (w' : World) : Prop :=
  w.grownBy w' (some rb) ∧ e = .returned (.bool r.1.isSome) ∧ ∃ a b n, (∀ x y k, r.1 = some (x, y, k) → a = x ∧ b = y ∧ n = (k : Nat)) ∧
    Blk w' rb 63 #[.slice (some ⟨lb, 0, none⟩) L.length L.length, .int .i64 (r.2 : Nat), .string (bsS a), .string (bsS b), .int .i64 n, .slice none 0 0, .slice none 0 0, .slice none 0 0, .slice none 0 0]
theorem em_only {w w' : World} {rb : Nat} (h : Em w rb) (hg : w.grownBy w' (some rb)) (hl : rb < w.heap.size) : Em w' rb :=
  h.be ((Below.refl rb w).grown hg (Nat.le_of_lt hl) (fun g hg => by injection hg with hg; omega))
theorem Lns.only {w w' : World} {rb lb : Nat} {L : List Bs} (h : Lns w lb L) (hg : w.grownBy w' (some rb)) (hne : lb ≠ rb) : Lns w' lb L :=
  ⟨fun j s hs => hg.cell (h.cells j s hs) (fun e => hne (Option.some.inj e)), Nat.lt_of_lt_of_le h.lt hg.size, h.len, h.n⟩
set_option maxRecDepth 100000 in
set_option maxHeartbeats 8000000 in
theorem heads_any (rb lb : Nat) (L : List Bs) (w : World) (hL0 : 1 ≤ L.length) (hL : Lns w lb L) (hne : lb ≠ rb) (hM : Em w rb)
    (hB : Blk w rb 63 #[.slice (some ⟨lb, 0, none⟩) L.length L.length, .int .i64 0, .string ⟨#[]⟩, .string ⟨#[]⟩, .int .i64 0, .slice none 0 0, .slice none 0 0, .slice none 0 0, .slice none 0 0]) :
    Calls Tryz.prog 24 #[.pointer (some ⟨rb, 0, none⟩)] w (HeadsPost w rb lb L (headsF L)) := by
  have hRL : rb < w.heap.size := hB.lt
  have H0 := Sl.mk (head_any rb lb L 0 _ _ _ _ _ _ _ hw0 w (by omega) hL hne hM hB)
  obtain ⟨r0, hr0⟩ : ∃ r, headR L 0 hw0 = r := ⟨_, rfl⟩
  obtain ⟨R, hR⟩ : ∃ R, headsF L = R := ⟨_, rfl⟩
  rw [hR]
  have HR0 := Sl.mk hr0
  have HRR := Sl.mk hR
  rw [hr0] at H0
  have HL := Sl.mk hL
  have HM := Sl.mk hM
  have e0 : min 0 L.length + 1 = 1 := by omega
  have e1 : min 1 L.length + 1 = 2 := by omega
  unfold HeadPost at H0
  rw [e0] at H0
  clear hL hM hB hr0 hR
  go_enter Tryz.func24, Tryz.ntmps24
  go_wp2_with fail
  refine H0.out.mono ?_
  rintro e w1 ⟨hg1, hb1, rfl⟩
  have f1 := hb1.frozen 2
  have k1 := hb1.cell 2
  have HG1 := Sl.mk hg1
  have HB1 := Sl.mk hb1
  clear hg1 hb1
  cases r0 with
  | none =>
    have HC := Sl.mk (show R = (none, 1) by rw [← HRR.out]; unfold headsF; rw [HR0.out])
    go_wp2_with fail
    go_ret
    refine ⟨only_setCell HG1.out _ _, by rw [HC.out]; rfl, [], [], 0, (fun x y k h => (by rw [HC.out] at h; cases h)), ?_⟩
    rw [HC.out]
    exact blk_set _ _ _ _ 2 _ _ HB1.out rfl
  | some x =>
    obtain ⟨w2, hwb⟩ : ∃ w2, w1.setCell ⟨rb, 2, none⟩ (.string (bsS x)) = w2 := ⟨_, rfl⟩
    go_upto_region 5 with fail
    have hb2 : Blk w2 rb 63 #[.slice (some ⟨lb, 0, none⟩) L.length L.length, .int .i64 ((1 : Nat) : Int), .string (bsS x), .string ⟨#[]⟩, .int .i64 0, .slice none 0 0, .slice none 0 0, .slice none 0 0, .slice none 0 0] := by rw [← hwb]; exact blk_set _ _ _ _ 2 _ _ HB1.out rfl
    have hg2 : w.grownBy w2 (some rb) := by rw [← hwb]; exact only_setCell HG1.out _ _
    have HG2 := Sl.mk hg2
    have H1 := Sl.mk (head_any rb lb L 1 _ _ _ _ _ _ _ hw1 w2 (by omega) (HL.out.only hg2 hne) hne (em_only HM.out hg2 hRL) hb2)
    unfold HeadPost at H1
    rw [e1] at H1
    obtain ⟨r1, hr1⟩ : ∃ r, headR L 1 hw1 = r := ⟨_, rfl⟩
    have HR1 := Sl.mk hr1
    rw [hr1] at H1
    clear hg2 hb2 hr1 f1 k1
    clear hwb
    go_wp2_with fail
    refine H1.out.mono ?_
    rintro e w3 ⟨hg3, hb3, rfl⟩
    have f3 := hb3.frozen 3
    have k3 := hb3.cell 3
    have HG3 := Sl.mk (only_trans HG2.out hg3)
    have HB3 := Sl.mk hb3
    clear hg3 hb3
    cases r1 with
    | none =>
      have HC := Sl.mk (show R = (none, 2) by rw [← HRR.out]; unfold headsF; rw [HR0.out]; simp only []; rw [HR1.out])
      go_wp2_with fail
      go_ret
      refine ⟨only_setCell HG3.out _ _, by rw [HC.out]; rfl, x, [], 0, (fun a b k h => (by rw [HC.out] at h; cases h)), ?_⟩
      rw [HC.out]
      exact blk_set _ _ _ _ 3 _ _ HB3.out rfl
    | some y =>
      have h2L : 2 ≤ L.length := by
        have := HR1.out
        unfold headR at this
        rcases Nat.lt_or_ge 1 L.length with h | h
        · exact h
        · rw [List.getElem?_eq_none h] at this; cases this
      have e2 : min 2 L.length + 1 = 3 := by omega
      obtain ⟨w4, hwd⟩ : ∃ w4, w3.setCell ⟨rb, 3, none⟩ (.string (bsS y)) = w4 := ⟨_, rfl⟩
      go_upto_region 8 with fail
      have hb4 : Blk w4 rb 63 #[.slice (some ⟨lb, 0, none⟩) L.length L.length, .int .i64 ((2 : Nat) : Int), .string (bsS x), .string (bsS y), .int .i64 0, .slice none 0 0, .slice none 0 0, .slice none 0 0, .slice none 0 0] := by rw [← hwd]; exact blk_set _ _ _ _ 3 _ _ HB3.out rfl
      have hg4 : w.grownBy w4 (some rb) := by rw [← hwd]; exact only_setCell HG3.out _ _
      have HG4 := Sl.mk hg4
      have H2 := Sl.mk (head_any rb lb L 2 _ _ _ _ _ _ _ hw2 w4 (by omega) (HL.out.only hg4 hne) hne (em_only HM.out hg4 hRL) hb4)
      unfold HeadPost at H2
      rw [e2] at H2
      obtain ⟨r2, hr2⟩ : ∃ r, headR L 2 hw2 = r := ⟨_, rfl⟩
      have HR2 := Sl.mk hr2
      rw [hr2] at H2
      clear hg4 hb4 hr2 f3 k3 hwd h2L
      go_wp2_with fail
      refine H2.out.mono ?_
      rintro e w5 ⟨hg5, hb5, rfl⟩
      have f5 := hb5.frozen 4
      have k5 := hb5.cell 4
      have HG5 := Sl.mk (only_trans HG4.out hg5)
      have HB5 := Sl.mk hb5
      clear hg5 hb5
      cases r2 with
      | none =>
        have HC := Sl.mk (show R = (none, 3) by rw [← HRR.out]; unfold headsF; rw [HR0.out]; simp only []; rw [HR1.out]; simp only []; rw [HR2.out])
        go_wp2_with fail
        go_ret
        refine ⟨HG5.out, by rw [HC.out]; rfl, x, y, 0, (fun a b k h => (by rw [HC.out] at h; cases h)), ?_⟩
        rw [HC.out]
        exact HB5.out
      | some z =>
        have HC := Sl.mk (show R = if (numP z).2 = true then (some (x, y, (numP z).1), 3) else (none, 3) by rw [← HRR.out]; unfold headsF; rw [HR0.out]; simp only []; rw [HR1.out]; simp only []; rw [HR2.out])
        have hzl : z.length ≤ 1000000 := by
          have := HR2.out
          unfold headR at this
          obtain ⟨l, hl1, hl2⟩ := Option.bind_eq_some_iff.1 this
          have h1 := HL.out.len l (List.mem_of_getElem? hl1)
          have h2 := head_some hl2
          rw [h2] at h1
          unfold sp2 at h1
          simp at h1
          omega
        have HNB := Sl.mk (fun W => numb_any z W hzl)
        obtain ⟨n, b, hnb⟩ : ∃ n b, numP z = (n, b) := ⟨_, _, rfl⟩
        rw [hnb] at HNB HC
        clear hnb hzl
        go_wp2_with fail
        refine (HNB.out _).mono ?_
        rintro e w6 ⟨rfl, rfl⟩
        cases b
        · have HC2 := Sl.mk (show R = (none, 3) from HC.out.trans (if_neg (by decide)))
          go_wp2_with fail
          go_ret
          refine ⟨only_setCell HG5.out _ _, by rw [HC2.out]; rfl, x, y, n, (fun a b k h => (by rw [HC2.out] at h; cases h)), ?_⟩
          rw [HC2.out]
          exact blk_set _ _ _ _ 4 _ _ HB5.out rfl
        · have HC2 := Sl.mk (show R = (some (x, y, n), 3) from HC.out.trans (if_pos rfl))
          go_wp2_with fail
          go_ret
          refine ⟨only_setCell HG5.out _ _, by rw [HC2.out]; rfl, x, y, n, (fun a b k h => (by rw [HC2.out] at h; injection h with h; injection h with h1 h2; injection h2 with h2 h3; exact ⟨h1, h2, h3⟩)), ?_⟩
          rw [HC2.out]
          exact blk_set _ _ _ _ 4 _ _ HB5.out rfl
end Go.Proofs.YtmgblbkmbiiofaaGreatDoor

namespace Go.Proofs.YtmgblbkmbiiofaaGreatDoor

def finM (wh : Bool) (N : Nat) (S : Mf × Bool × Nat) : Mf × Int × Int :=
  if wh = false then (mf0, (min S.2.2 N : Nat), 3)
  else if S.2.1 = false then (mf0, (S.2.2 : Nat), 3)
  else if checkM S.1 ≠ 0 then (mf0, 0, checkM S.1)
  else (S.1, 0, 0)
theorem parse_fin {s : Bs} (h : ¬ 4096 < s.length) : parseM s = finM (whB s) (linesM s).length (scanM (linesM s)) := by
  unfold parseM finM
  rw [if_neg h]
theorem fin_bad {wh : Bool} {N i : Nat} {m : Mf} (h : i < N) : finM wh N (m, false, i + 1) = (mf0, (i : Int) + 1, 3) := by
  unfold finM
  cases wh
  · rw [if_pos rfl]
    simp only
    rw [Nat.min_eq_left (by omega)]
    rfl
  · rw [if_neg (by decide), if_pos rfl]; rfl
theorem fin_end_f {N : Nat} {m : Mf} {ok : Bool} : finM false N (m, ok, N + 1) = (mf0, (N : Int), 3) := by
  unfold finM
  rw [if_pos rfl]
  simp only
  rw [Nat.min_eq_right (by omega)]
theorem fin_end_t {N : Nat} {m : Mf} : finM true N (m, false, N + 1) = (mf0, (N : Int) + 1, 3) := by
  unfold finM
  rw [if_neg (by decide), if_pos rfl]; rfl
theorem fin_ck {N k : Nat} {m : Mf} (h : checkM m ≠ 0) : finM true N (m, true, k) = (mf0, 0, checkM m) := by
  unfold finM
  rw [if_neg (by decide), if_neg (by simp), if_pos h]
theorem fin_ok {N k : Nat} {m : Mf} (h : checkM m = 0) : finM true N (m, true, k) = (m, 0, 0) := by
  unfold finM
  rw [if_neg (by decide), if_neg (by simp), if_neg (by simp [h])]
theorem scan_f0 {L : List Bs} (h : headR L 0 hw0 = none) : scanM L = (mf0, false, 1) := by
  rw [scan_heads]; unfold headsF; rw [h]
theorem scan_f1 {L : List Bs} {x : Bs} (h0 : headR L 0 hw0 = some x) (h : headR L 1 hw1 = none) : scanM L = (mf0, false, 2) := by
  rw [scan_heads]; unfold headsF; rw [h0]; simp only; rw [h]
theorem scan_f2 {L : List Bs} {x y : Bs} (h0 : headR L 0 hw0 = some x) (h1 : headR L 1 hw1 = some y) (h : headR L 2 hw2 = none) : scanM L = (mf0, false, 3) := by
  rw [scan_heads]; unfold headsF; rw [h0]; simp only; rw [h1]; simp only; rw [h]
theorem scan_f3 {L : List Bs} {x y z : Bs} (h0 : headR L 0 hw0 = some x) (h1 : headR L 1 hw1 = some y) (h2 : headR L 2 hw2 = some z) (h : nuOk z = false) : scanM L = (mf0, false, 3) := by
  rw [scan_heads]; unfold headsF; rw [h0]; simp only; rw [h1]; simp only; rw [h2]; simp only; rw [num_bad h, if_neg (by decide)]
theorem scan_f4 {L : List Bs} {x y z : Bs} (h0 : headR L 0 hw0 = some x) (h1 : headR L 1 hw1 = some y) (h2 : headR L 2 hw2 = some z) (h : nuOk z = true) : scanM L = restsM ⟨x, y, (dcF z : Nat), [], [], [], []⟩ 0 (L.drop 3) 3 := by
  rw [scan_heads]; unfold headsF; rw [h0]; simp only; rw [h1]; simp only; rw [h2]; simp only; rw [num_good h, if_pos rfl]
theorem headR_lt {L : List Bs} {i : Nat} {w : Bs} {l : Bs} (h : L[i]? = some l) : headR L i w = headM w l := by unfold headR; rw [h]; rfl
theorem headR_ge {L : List Bs} {i : Nat} {w : Bs} (h : L.length ≤ i) : headR L i w = none := by unfold headR; rw [List.getElem?_eq_none h]; rfl
theorem hdM_two {w l a b : Bs} (h : Lib.split l [32] = [a, b]) : headM w l = if a = w then some b else none := by unfold headM; rw [h]
theorem headM_not {w l : Bs} (h : (Lib.split l [32]).length ≠ 2) : headM w l = none := by
  unfold headM
  split
  · rename_i a b e; rw [e] at h; exact absurd rfl h
  · rfl
theorem restsM_at {L : List Bs} {m : Mf} {lst i : Nat} {l : Bs} (h : L[i]? = some l) : restsM m lst (L.drop i) i = match restM m lst l with
    | none => (m, false, i + 1)
    | some q => restsM q.1 q.2 (L.drop (i + 1)) (i + 1) := by
  have hi := (List.getElem?_eq_some_iff.1 h).1
  have he := (List.getElem?_eq_some_iff.1 h).2
  rw [List.drop_eq_getElem_cons hi, he, restsM]
  rfl
theorem rests_end {L : List Bs} {m : Mf} {lst i : Nat} (h : L.length ≤ i) : restsM m lst (L.drop i) i = (m, true, i + 1) := by
  rw [List.drop_eq_nil_of_le h, restsM]
theorem restM_n3 {m : Mf} {lst : Nat} {l : Bs} (h : (Lib.split l [32]).length ≠ 3) : restM m lst l = none := by
  unfold restM
  split
  · rename_i a b c e; rw [e] at h; exact absurd rfl h
  · rfl
theorem restM_3w {m : Mf} {lst : Nat} {l a b c : Bs} (h : Lib.split l [32] = [a, b, c]) : restM m lst l = match findW lst a with
    | some k => some (m.add k ⟨b, c⟩, k)
    | none => none := by unfold restM; rw [h]; rfl
theorem wl_nodup : wl.Nodup := by decide
theorem wl_len : wl.length = 4 := rfl
theorem findW_hit {lst k : Nat} {a : Bs} (h : wl[k]? = some a) (hk : lst ≤ k) : findW lst a = some k := by
  have hk4 := (List.getElem?_eq_some_iff.1 h).1
  have he := (List.getElem?_eq_some_iff.1 h).2
  unfold findW
  have e : wl.findIdx? (· == a) = some k := by
    rw [List.findIdx?_eq_some_iff_getElem]
    refine ⟨hk4, by rw [he]; simp, fun j hj => ?_⟩
    simp only [Bool.not_eq_true, beq_eq_false_iff_ne]
    intro e2
    have key : ∀ k, k < 4 → ∀ j, j < k → wl.getD j [] ≠ wl.getD k [] := by decide
    have h2 := key k hk4 j hj
    rw [List.getD_eq_getElem?_getD, List.getD_eq_getElem?_getD, h, List.getElem?_eq_getElem (by omega), e2] at h2
    exact h2 rfl
  rw [e]
  simp only
  rw [if_pos hk]
theorem findW_miss {lst : Nat} {a : Bs} (h : ∀ k, lst ≤ k → k < 4 → wl[k]? ≠ some a) : findW lst a = none := by
  unfold findW
  cases e : wl.findIdx? (· == a) with
  | none => rfl
  | some k =>
    rw [List.findIdx?_eq_some_iff_getElem] at e
    obtain ⟨h1, h2, _⟩ := e
    simp only
    rw [if_neg]
    intro hk
    refine h k hk h1 ?_
    rw [List.getElem?_eq_getElem h1]
    simp only [beq_iff_eq] at h2
    rw [h2]
theorem nuOk_len {s : Bs} (h : s.length < 1 ∨ 6 < s.length) : nuOk s = false := by
  unfold nuOk
  rcases h with h | h
  · rw [decide_eq_false (show ¬ 1 ≤ s.length by omega)]; rfl
  · rw [decide_eq_false (show ¬ s.length ≤ 6 by omega)]; simp
theorem nuOk_zero {s : Bs} (h : s.getD 0 0 = 48) (h1 : 1 < s.length) : nuOk s = false := by
  unfold nuOk
  rw [h, decide_eq_true h1]; simp
theorem nuOk_ok {s : Bs} (h1 : 1 ≤ s.length) (h6 : s.length ≤ 6) (hz : ¬ (s.getD 0 0 = 48 ∧ 1 < s.length)) (hd : ∀ j, j < s.length → dgB (s.getD j 0) = true) : nuOk s = true := by
  have h : s.all dgB = true := List.all_eq_true.2 fun x hx => by
    obtain ⟨j, hj, rfl⟩ := List.mem_iff_getElem.1 hx
    have := hd j hj
    rw [List.getD_eq_getElem?_getD, List.getElem?_eq_getElem hj] at this
    exact this
  unfold nuOk
  rw [h, decide_eq_true h1, decide_eq_true h6]
  by_cases h3 : 1 < s.length
  · have : (s.getD 0 0 == 48) = false := beq_eq_false_iff_ne.2 fun e => hz ⟨e, h3⟩
    rw [this]; rfl
  · rw [decide_eq_false h3]; simp
end Go.Proofs.YtmgblbkmbiiofaaGreatDoor

namespace Go.Proofs.YtmgblbkmbiiofaaGreatDoor
open Go.RowKit
attribute [local go_sem ↓] Go.wp_at_zero Go.wp_at_succ
set_option linter.unusedVariables false

set_option maxRecDepth 100000 in
set_option maxHeartbeats 2000000 in
theorem rbelow_any (x y : It) (w : World) :
    Calls Tryz.prog 37 #[.agg #[.string (bsS x.a), .string (bsS x.b)], .agg #[.string (bsS y.a), .string (bsS y.b)]] w (RPost w (lessI x y)) := by
  obtain ⟨xa, xb⟩ := x
  obtain ⟨ya, yb⟩ := y
  have HB0 := Sl.mk (below_al (below_al (Below.refl w.heap.size w) (.cells #[.string (bsS xa), .string (bsS xb)] 67)) (.cells #[.string (bsS ya), .string (bsS yb)] 67))
  have h1 := less_bs xa ya
  have h2 := less_bs xb yb
  have h3 := bs_beq xa ya
  obtain ⟨p, hp⟩ : ∃ p, lessL xa ya = p := ⟨_, rfl⟩
  obtain ⟨q, hq⟩ : ∃ q, lessL xb yb = q := ⟨_, rfl⟩
  obtain ⟨e, he⟩ : ∃ e, decide (xa = ya) = e := ⟨_, rfl⟩
  have HR := Sl.mk (show lessI ⟨xa, xb⟩ ⟨ya, yb⟩ = (p || (e && q)) by
    unfold lessI
    rw [← hp, ← hq, ← he]
    by_cases h : xa = ya
    · subst h; simp
    · have : (xa == ya) = false := beq_eq_false_iff_ne.2 h
      simp [this, h])
  rw [hp] at h1
  rw [hq] at h2
  rw [he] at h3
  clear hp hq he
  cases p <;> cases e
  all_goals
    go_enter Tryz.func37, Tryz.ntmps37
    go_wp2_with fail
    go_ret
    exact ⟨ret_bool (by rw [HR.out]; simp), HB0.out⟩
def isF (l : List Bs) (s : Bs) : Bool := l.contains s
set_option maxRecDepth 100000 in
set_option maxHeartbeats 2000000 in
theorem ris_any (g : Nat) (l : List Bs) (s : Bs) (w : World) (hn : l.length ≤ 1000000) (hB : Blk w g 9 (strsA l).toArray) :
    Calls Tryz.prog 38 #[.string (bsS s), .slice (some ⟨g, 0, none⟩) l.length l.length] w (RPost w (l.contains s)) := by
  obtain ⟨D, hD⟩ : ∃ D, l.contains s = D := ⟨_, rfl⟩
  rw [hD]
  have HD := Sl.mk hD
  have HB := Sl.mk hB
  have H0 := Sl.mk (Below.refl w.heap.size w)
  obtain ⟨n, hnn⟩ : ∃ n, l.length = n := ⟨_, rfl⟩
  have HN := Sl.mk hnn
  rw [hnn] at hn ⊢
  clear hD hB hnn
  go_enter Tryz.func38, Tryz.ntmps38
  go_wp2_with fail
  go_loopg [5] n (fun q v5 wr => ∃ i : Nat, q = n - i ∧ i ≤ n ∧ v5 = .int .i64 i ∧ wr = w ∧ Sl (∀ j y, j < i → l[j]? = some y → y ≠ s))
  case atStart => exact ⟨0, rfl, Nat.zero_le _, rfl, rfl, ⟨fun j y hj => absurd hj (Nat.not_lt_zero _)⟩⟩
  case round =>
    obtain ⟨i, hq, hi, rfl, hw, HI⟩ := hrel
    subst hw
    by_cases hlt : i < n
    · obtain ⟨x, hx⟩ : ∃ x, l[i]? = some x := ⟨_, List.getElem?_eq_getElem (by rw [HN.out]; exact hlt)⟩
      have c0 : wr.cell? ⟨g, i, none⟩ = some (.string (bsS x)) := (HB.out.cell i).trans (by rw [List.getElem?_toArray]; simp [strsA, hx])
      have hlz : (i : Int) < (n : Int) := by omega
      have he := bs_beq x s
      by_cases hxs : x = s
      · have HC := Sl.mk (show D = true by rw [← HD.out, List.contains_iff_mem, ← hxs]; exact List.mem_of_getElem? hx)
        rw [decide_eq_true hxs] at he
        clear hx hxs
        go_wp2_with fail
        go_ret
        exact ⟨by rw [HC.out]; rfl, H0.out⟩
      · have HI2 := Sl.mk (show ∀ j y, j < i + 1 → l[j]? = some y → y ≠ s from fun j y hj hy => by
          rcases Nat.lt_succ_iff_lt_or_eq.1 hj with h | rfl
          · exact HI.out j y h hy
          · have := Option.some.inj (hx.symm.trans hy); subst this; exact hxs)
        rw [decide_eq_false hxs] at he
        clear hx hxs
        go_wp2_with fail
        go_roundg (n - (i + 1))
        case measure => omega
        case rel => exact ⟨i + 1, rfl, by omega, by go_num, rfl, HI2⟩
    · have HC := Sl.mk (show D = false by
        rw [← HD.out]
        by_cases h : l.contains s = true
        · rw [List.contains_iff_mem] at h
          obtain ⟨j, hj⟩ := List.mem_iff_getElem?.1 h
          exact absurd rfl (HI.out j s (by have := (List.getElem?_eq_some_iff.1 hj).1; have := HN.out; omega) hj)
        · simpa using h)
      have hlz : ¬ (i : Int) < (n : Int) := by omega
      go_wp2_with fail
      go_ret
      exact ⟨by rw [HC.out]; rfl, H0.out⟩
end Go.Proofs.YtmgblbkmbiiofaaGreatDoor

namespace Go.Proofs.YtmgblbkmbiiofaaGreatDoor
open Go.RowKit
attribute [local go_sem ↓] Go.wp_at_zero Go.wp_at_succ
set_option linter.unusedVariables false

theorem occ46 {s : Bs} {j : Nat} (hj : j < s.length) : Lib.occAt s [46] j = (s.getD j 0 == 46) := by
  unfold Lib.occAt
  rw [List.drop_eq_getElem_cons hj, List.getD_eq_getElem?_getD, List.getElem?_eq_getElem hj]
  simp only [List.isPrefixOf, Bool.and_true, Option.getD_some]
  exact Bool.eq_iff_iff.2 ⟨fun h => beq_iff_eq.2 (beq_iff_eq.1 h).symm, fun h => beq_iff_eq.2 (beq_iff_eq.1 h).symm⟩
theorem key_at {s : Bs} {i : Nat} (hi : i < s.length) (h : s.getD i 0 = 46) (hb : ∀ j, j < i → s.getD j 0 ≠ 46) : keyM s = (nmL (s.take i) && nmL (s.drop (i + 1))) := by
  have hx : Lib.index s [46] = (i : Nat) := Lib.index_hit (fun j hj => by rw [occ46 (by omega)]; exact beq_eq_false_iff_ne.2 (hb j hj)) (by omega) (by rw [occ46 hi, h]; rfl)
  unfold keyM Lib.cut
  rw [hx, if_pos (by omega)]
  simp
theorem key_none {s : Bs} (hb : ∀ j, j < s.length → s.getD j 0 ≠ 46) : keyM s = false := by
  have hx : Lib.index s [46] = -1 := Lib.index_past (by simp) (i := s.length) (fun j hj => by rw [occ46 hj]; exact beq_eq_false_iff_ne.2 (hb j hj)) (by simp)
  unfold keyM Lib.cut
  rw [hx, if_neg (by decide)]
  rfl
theorem rnm_any (s : Bs) (w : World) (hs : s.length ≤ 1000000) : Calls Tryz.prog 35 #[.string (bsS s)] w fun e w' => e = .returned (.bool (nmL s)) ∧ ∃ k, w' = w.drewN k :=
  rname_any (bsS s) w (by rw [bs_size]; omega)
set_option maxRecDepth 100000 in
set_option maxHeartbeats 4000000 in
theorem rkey_any (s : Bs) (w : World) (hs : s.length ≤ 1000000) : Calls Tryz.prog 67 #[.string (bsS s)] w (RPost w (keyM s)) := by
  have hz := bs_size s
  obtain ⟨D, hD⟩ : ∃ D, keyM s = D := ⟨_, rfl⟩
  rw [hD]
  have HD := Sl.mk hD
  have H0 := Sl.mk (Below.refl w.heap.size w)
  clear hD
  go_enter Tryz.func67, Tryz.ntmps67
  go_wp2_with fail
  go_loopg [3] s.length (fun q v3 wr => ∃ i : Nat, q = s.length - i ∧ i ≤ s.length ∧ v3 = .int .i64 i ∧ wr = w ∧ Sl (∀ j, j < i → s.getD j 0 ≠ 46))
  case atStart => exact ⟨0, rfl, Nat.zero_le _, rfl, rfl, ⟨fun j hj => absurd hj (Nat.not_lt_zero _)⟩⟩
  case round =>
    obtain ⟨i, hq, hi, rfl, hw, HI⟩ := hrel
    subst hw
    by_cases hlt : i < s.length
    · have hlt2 : i < (bsS s).size := by rw [hz]; exact hlt
      have HB := Sl.mk (bs_at hlt2)
      obtain ⟨c, hc⟩ : ∃ c : Nat, ((bsS s)[i]).toNat = c := ⟨_, rfl⟩
      have hx : (s.getD i 0).toNat = c := by rw [← HB.out, hc]
      have HX := Sl.mk hx
      clear hx
      by_cases h46 : c = 46
      · have he : ((c : Int) == 46) = true := by simp; omega
        have HK := Sl.mk (show D = (nmL (s.take i) && nmL (s.drop (i + 1))) by
          rw [← HD.out]
          exact key_at hlt (UInt8.toNat_inj.1 (by rw [HX.out, h46]; rfl)) HI.out)
        have HA := Sl.mk (fun W => rnm_any (s.take i) W (by rw [List.length_take]; omega))
        have HBn := Sl.mk (fun W => rnm_any (s.drop (i + 1)) W (by rw [List.length_drop]; omega))
        obtain ⟨p, hp⟩ : ∃ p, nmL (s.take i) = p := ⟨_, rfl⟩
        obtain ⟨q2, hq2⟩ : ∃ q, nmL (s.drop (i + 1)) = q := ⟨_, rfl⟩
        rw [hp] at HA HK
        rw [hq2] at HBn HK
        have e1 : (bsS s).extract 0 i = bsS (s.take i) := by rw [bs_cut, List.drop_zero, Nat.sub_zero]
        have e2 : (bsS s).extract (i + 1) (bsS s).size = bsS (s.drop (i + 1)) := by
          rw [bs_cut, hz, List.take_of_length_le (by rw [List.length_drop]; omega)]
        have e3 : (bsS s).extract (i + 1) s.length = bsS (s.drop (i + 1)) := by rw [← e2, hz]
        have hwr : IntKind.i64.wrap ((i : Int) + 1) = (i : Int) + 1 := Go.IntWalk.i64_in _ (by omega)
        clear hp hq2 h46
        go_wp2_with fail
        refine (HA.out _).mono ?_
        rintro e w1 ⟨rfl, k1, rfl⟩
        cases p
        · go_wp2_with fail
          go_ret
          exact ⟨by rw [HK.out]; rfl, below_drN H0.out _⟩
        · go_wp2_with fail
          refine (HBn.out _).mono ?_
          rintro e w1 ⟨rfl, k2, rfl⟩
          go_wp2_with fail
          go_ret
          exact ⟨by rw [HK.out]; rfl, below_drN H0.out _⟩
      · have he : ((c : Int) == 46) = false := by simp; omega
        have HI2 := Sl.mk (show ∀ j, j < i + 1 → s.getD j 0 ≠ 46 from fun j hj => by
          rcases Nat.lt_succ_iff_lt_or_eq.1 hj with h | rfl
          · exact HI.out j h
          · intro e
            exact h46 (by rw [← HX.out, e]; rfl))
        clear h46
        go_wp2_with fail
        go_roundg (s.length - (i + 1))
        case measure => omega
        case rel => exact ⟨i + 1, rfl, by omega, by go_num, rfl, HI2⟩
    · obtain rfl : i = s.length := by omega
      have HK := Sl.mk (show D = false by rw [← HD.out]; exact key_none HI.out)
      go_wp2_with fail
      go_ret
      exact ⟨by rw [HK.out]; rfl, H0.out⟩
end Go.Proofs.YtmgblbkmbiiofaaGreatDoor

namespace Go.Proofs.YtmgblbkmbiiofaaGreatDoor
open Go.RowKit
attribute [local go_sem ↓] Go.wp_at_zero Go.wp_at_succ
set_option linter.unusedVariables false

theorem rparse_two (s : Bs) (w : World) (hs : s.length ≤ 1000000) : Calls Tryz.prog 66 #[.string (bsS s)] w fun e w' => Below w.heap.size w w' ∧
    ∃ A n c, e = .returned (.tuple #[.slice A n c, .int .i64 (paE s)]) ∧ (paE s = 0 → n = (parseP (bsS s)).length) :=
  (rparse_any (bsS s) w (by rw [bs_size]; omega)).mono fun e w' ⟨hb, h⟩ => ⟨hb, by
    rcases h with ⟨h0, h⟩ | ⟨h0, A, n, c, h, hn, _⟩
    · exact ⟨none, 0, 0, h, fun e => absurd e h0⟩
    · exact ⟨A, n, c, by rw [show paE s = 0 from h0]; exact h, fun _ => hn⟩⟩
set_option maxRecDepth 100000 in
set_option maxHeartbeats 8000000 in
theorem rright_names (i : Nat) (hi : i < 2) (x : It) (w : World) (ha : x.a.length ≤ 1000000) (hb : x.b.length ≤ 1000000) :
    Calls Tryz.prog 36 #[.int .i64 i, .agg #[.string (bsS x.a), .string (bsS x.b)]] w (RPost w (rightM i x)) := by
  have HB0 := Sl.mk (below_al (Below.refl w.heap.size w) (.cells #[.string (bsS x.a), .string (bsS x.b)] 67))
  have HP := Sl.mk (fun W => rparse_two x.b W hb)
  have HA := Sl.mk (fun W => rnm_any x.a W ha)
  have HBB := Sl.mk (fun W => rnm_any x.b W hb)
  obtain ⟨p, hp⟩ : ∃ p, nmL x.a = p := ⟨_, rfl⟩
  obtain ⟨q, hq⟩ : ∃ q, nmL x.b = q := ⟨_, rfl⟩
  have HR := Sl.mk (show rightM i x = (p && q) by unfold rightM; rw [if_pos hi, hp, hq])
  rw [hp] at HA
  rw [hq] at HBB
  obtain ⟨E, hE⟩ : ∃ E, paE x.b = E := ⟨_, rfl⟩
  rw [hE] at HP
  obtain ⟨a, b⟩ := x
  have g2 : ((i : Int) == 2) = false := by simp; omega
  have g3 : ((i : Int) == 3) = false := by simp; omega
  clear hp hq hE hi
  go_enter Tryz.func36, Tryz.ntmps36
  go_wp2_with fail
  refine (HP.out _).mono ?_
  rintro e w1 ⟨hb1, A, n, c, rfl, _⟩
  have c0 : w1.cell? ⟨w.heap.size, 0, none⟩ = some (.string (bsS a)) := (hb1.cell (p := ⟨w.heap.size, 0, none⟩) (by simp)).trans (by simp)
  have c1 : w1.cell? ⟨w.heap.size, 1, none⟩ = some (.string (bsS b)) := (hb1.cell (p := ⟨w.heap.size, 1, none⟩) (by simp)).trans (by simp)
  have HB1 := Sl.mk (below_tr HB0.out hb1)
  clear hb1
  go_wp2_with fail
  refine (HA.out _).mono ?_
  rintro e w2 ⟨rfl, k1, rfl⟩
  cases p
  · go_wp2_with fail
    go_ret
    exact ⟨by rw [HR.out]; rfl, below_drN HB1.out _⟩
  · go_wp2_with fail
    refine (HBB.out _).mono ?_
    rintro e w2 ⟨rfl, k2, rfl⟩
    go_wp2_with fail
    go_ret
    exact ⟨by rw [HR.out]; rfl, below_drN HB1.out _⟩
set_option maxRecDepth 100000 in
set_option maxHeartbeats 8000000 in
theorem rright_hook (x : It) (w : World) (hb : x.b.length ≤ 1000000) :
    Calls Tryz.prog 36 #[.int .i64 2, .agg #[.string (bsS x.a), .string (bsS x.b)]] w (RPost w (rightM 2 x)) := by
  have HB0 := Sl.mk (below_al (Below.refl w.heap.size w) (.cells #[.string (bsS x.a), .string (bsS x.b)] 67))
  have HP := Sl.mk (fun W => rparse_two x.b W hb)
  have HI := Sl.mk (fun (W : World) g (hB : Blk W g 9 (strsA evL).toArray) => show Calls Tryz.prog 38 #[.string (bsS x.a), .slice (some ⟨g, 0, none⟩) 4 4] W (RPost W (evL.contains x.a)) from ris_any g evL x.a W (by decide) hB)
  obtain ⟨p, hp⟩ : ∃ p, evL.contains x.a = p := ⟨_, rfl⟩
  obtain ⟨E, hE⟩ : ∃ E, paE x.b = E := ⟨_, rfl⟩
  obtain ⟨k, hk⟩ : ∃ k, (parseP (bsS x.b)).length = k := ⟨_, rfl⟩
  have HR := Sl.mk (show rightM 2 x = (p && (E == 0 && !(k == 0))) by
    unfold rightM paN
    rw [if_neg (by decide), if_pos rfl, hp, hE, ← hk]
    cases parseP (bsS x.b) <;> rfl)
  rw [hp] at HI
  rw [hE, hk] at HP
  unfold RPost at HI
  obtain ⟨a, b⟩ := x
  clear hp hE hk
  go_enter Tryz.func36, Tryz.ntmps36
  go_wp2_with fail
  refine (HP.out _).mono ?_
  rintro e w1 ⟨hb1, A, n, c, rfl, hn⟩
  have c0 : w1.cell? ⟨w.heap.size, 0, none⟩ = some (.string (bsS a)) := (hb1.cell (p := ⟨w.heap.size, 0, none⟩) (by simp)).trans (by simp)
  have HB1 := Sl.mk (below_tr HB0.out hb1)
  have HN := Sl.mk hn
  clear hb1 hn
  go_wp2_with fail
  refine (HI.out _ _ ?_).mono ?_
  · exact Blk.new' (by simp)
  rintro e w2 ⟨rfl, hb2⟩
  have HB2 := Sl.mk (below_tr HB1.out (below_tr (below_al (Below.refl w1.heap.size w1) _) hb2))
  clear hb2
  cases p
  · go_wp2_with fail
    go_ret
    exact ⟨by rw [HR.out]; rfl, HB2.out⟩
  · by_cases h0 : E = 0
    · have hn2 := HN.out h0
      subst h0
      subst hn2
      go_wp2_with fail
      go_ret
      refine ⟨ret_bool ?_, HB2.out⟩
      rw [HR.out]
      rcases Nat.eq_zero_or_pos n with h | h
      · subst h; rfl
      · have : ¬ n = 0 := by omega
        simp [this, h]
    · have h0' : (E == 0) = false := beq_eq_false_iff_ne.2 h0
      have HR2 := Sl.mk (show rightM 2 ⟨a, b⟩ = false by rw [HR.out, h0']; rfl)
      clear h0
      go_wp2_with fail
      go_ret
      exact ⟨by rw [HR2.out]; rfl, HB2.out⟩
end Go.Proofs.YtmgblbkmbiiofaaGreatDoor

namespace Go.Proofs.YtmgblbkmbiiofaaGreatDoor
open Go.RowKit
attribute [local go_sem ↓] Go.wp_at_zero Go.wp_at_succ
set_option linter.unusedVariables false

set_option maxRecDepth 100000 in
set_option maxHeartbeats 8000000 in
theorem rright_want (x : It) (w : World) (hb : x.b.length ≤ 1000000) :
    Calls Tryz.prog 36 #[.int .i64 3, .agg #[.string (bsS x.a), .string (bsS x.b)]] w (RPost w (rightM 3 x)) := by
  have HB0 := Sl.mk (below_al (Below.refl w.heap.size w) (.cells #[.string (bsS x.a), .string (bsS x.b)] 67))
  have HP := Sl.mk (fun W => rparse_two x.b W hb)
  have HI := Sl.mk (fun (W : World) g (hB : Blk W g 9 (strsA rwL).toArray) => show Calls Tryz.prog 38 #[.string (bsS x.a), .slice (some ⟨g, 0, none⟩) 3 3] W (RPost W (rwL.contains x.a)) from ris_any g rwL x.a W (by decide) hB)
  have HY := Sl.mk (fun W => rkey_any x.b W hb)
  have h1 := bs_beq x.a wGet
  have h2 := bs_beq x.a wPut
  obtain ⟨p, hp⟩ : ∃ p, rwL.contains x.a = p := ⟨_, rfl⟩
  obtain ⟨y, hy⟩ : ∃ y, keyM x.b = y := ⟨_, rfl⟩
  obtain ⟨E, hE⟩ : ∃ E, paE x.b = E := ⟨_, rfl⟩
  obtain ⟨g, hg⟩ : ∃ g, decide (x.a = wGet) = g := ⟨_, rfl⟩
  obtain ⟨u, hu⟩ : ∃ u, decide (x.a = wPut) = u := ⟨_, rfl⟩
  have HR := Sl.mk (show rightM 3 x = if (g || u) = true then y else p && E == 0 by
    have e : gpL.contains x.a = (g || u) := by rw [← hg, ← hu]; simp [gpL]
    unfold rightM
    rw [if_neg (by decide), if_neg (by decide), hp, hy, hE, e])
  rw [hp] at HI
  rw [hy] at HY
  rw [hE] at HP
  rw [hg] at h1
  rw [hu] at h2
  unfold RPost at HI HY
  have q1 : ((bsS x.a).toList == [103, 101, 116]) = g := by rw [bs_list wGet] at h1; exact h1
  have q2 : ((bsS x.a).toList == [112, 117, 116]) = u := by rw [bs_list wPut] at h2; exact h2
  obtain ⟨a, b⟩ := x
  clear hp hy hE hg hu h1 h2
  go_enter Tryz.func36, Tryz.ntmps36
  go_wp2_with fail
  refine (HP.out _).mono ?_
  rintro e w1 ⟨hb1, A, n, c, rfl, _⟩
  have c0 : w1.cell? ⟨w.heap.size, 0, none⟩ = some (.string (bsS a)) := (hb1.cell (p := ⟨w.heap.size, 0, none⟩) (by simp)).trans (by simp)
  have c1 : w1.cell? ⟨w.heap.size, 1, none⟩ = some (.string (bsS b)) := (hb1.cell (p := ⟨w.heap.size, 1, none⟩) (by simp)).trans (by simp)
  have HB1 := Sl.mk (below_tr HB0.out hb1)
  clear hb1
  cases g
  · cases u
    · go_wp2_with fail
      refine (HI.out _ _ ?_).mono ?_
      · exact Blk.new' (by simp)
      rintro e w2 ⟨rfl, hb2⟩
      have HB2 := Sl.mk (below_tr HB1.out (below_tr (below_al (Below.refl w1.heap.size w1) _) hb2))
      clear hb2
      cases p
      · go_wp2_with fail
        go_ret
        exact ⟨by rw [HR.out]; rfl, HB2.out⟩
      · go_wp2_with fail
        go_ret
        exact ⟨ret_bool (by rw [HR.out]; simp), HB2.out⟩
    · go_wp2_with fail
      refine (HY.out _).mono ?_
      rintro e w2 ⟨rfl, hb2⟩
      have HB2 := Sl.mk (below_tr HB1.out hb2)
      clear hb2
      go_wp2_with fail
      go_ret
      exact ⟨by rw [HR.out]; rfl, HB2.out⟩
  · go_wp2_with fail
    refine (HY.out _).mono ?_
    rintro e w2 ⟨rfl, hb2⟩
    have HB2 := Sl.mk (below_tr HB1.out hb2)
    clear hb2
    go_wp2_with fail
    go_ret
    exact ⟨by rw [HR.out]; rfl, HB2.out⟩
end Go.Proofs.YtmgblbkmbiiofaaGreatDoor

namespace Go.Proofs.YtmgblbkmbiiofaaGreatDoor
open Go.RowKit
attribute [local go_sem ↓] Go.wp_at_zero Go.wp_at_succ
set_option linter.unusedVariables false

theorem info_st : ∃ i, Tryz.prog.info? 9 = some i ∧ i.zero = some (.string ByteArray.empty) ∧ i.size = 1 ∧ i.bytes = 16 := by
  have h := strInfo
  cases hi : Tryz.prog.info? 9 with
  | none => rw [hi] at h; cases h
  | some i =>
    rw [hi] at h
    simp only [Option.map_some, Option.some.injEq, Prod.mk.injEq] at h
    exact ⟨i, rfl, h.1, h.2.1, h.2.2⟩
theorem cut_at {s : Bs} {c : UInt8} {f i : Nat} (hf : f ≤ i) (hi : i < s.length) (h : s.getD i 0 = c) (hn : c ∉ (s.drop f).take (i - f)) : Lib.split (s.drop f) [c] = (s.drop f).take (i - f) :: Lib.split (s.drop (i + 1)) [c] := by
  have e : s.drop f = (s.drop f).take (i - f) ++ c :: s.drop (i + 1) := by
    have h1 : (s.drop f).drop (i - f) = c :: s.drop (i + 1) := by
      rw [List.drop_drop, show f + (i - f) = i by omega, List.drop_eq_getElem_cons hi]
      rw [List.getD_eq_getElem?_getD, List.getElem?_eq_getElem hi] at h
      rw [show s[i] = c from h]
    rw [← h1, List.take_append_drop]
  rw [e, split_app _ _ hn, ← e]
theorem cut_more {s : Bs} {c : UInt8} {f i : Nat} (hf : f ≤ i) (hi : i < s.length) (h : s.getD i 0 ≠ c) (hn : c ∉ (s.drop f).take (i - f)) : c ∉ (s.drop f).take (i + 1 - f) := by
  rw [show i + 1 - f = (i - f) + 1 by omega, List.take_add_one]
  intro hm
  rcases List.mem_append.1 hm with hm | hm
  · exact hn hm
  · rw [List.getElem?_drop, show f + (i - f) = i by omega, List.getElem?_eq_getElem hi] at hm
    simp at hm
    rw [List.getD_eq_getElem?_getD, List.getElem?_eq_getElem hi] at h
    exact h hm.symm
theorem strsA_snoc (D : List Bs) (x : Bs) : strsA (D ++ [x]) = strsA D ++ [.string (bsS x)] := by simp [strsA]
def CutPost (w : World) (L : List Bs) (e : Ending) (w' : World) : Prop :=
  Below w.heap.size w w' ∧ ∃ A c, e = .returned (.slice A L.length c) ∧ w'.ownsRow w.heap.size 9 1 (.slice A L.length c) L.length (strsA L)
set_option maxRecDepth 100000 in
set_option maxHeartbeats 8000000 in
theorem rcut_any (s : Bs) (c : UInt8) (w : World) (hs : s.length ≤ 1000000) :
    Calls Tryz.prog 26 #[.string (bsS s), .int .u8 (c.toNat : Int)] w (CutPost w (Lib.split s [c])) := by
  have hz := bs_size s
  obtain ⟨i0, hi0, hz0, hz1, hz2⟩ := info_st
  obtain ⟨R, hR⟩ : ∃ R, Lib.split s [c] = R := ⟨_, rfl⟩
  rw [hR]
  have HRR := Sl.mk hR
  clear hR
  go_enter Tryz.func26, Tryz.ntmps26
  go_wp2_with fail
  go_loopg [5, 6, 7] s.length (fun q v5 v6 v7 wr => ∃ (i f k : Nat) (A : Option Addr) (c2 : Nat) (D : List Bs), q = s.length - i ∧ i ≤ s.length ∧ f ≤ i ∧ k ≤ i ∧ v7 = .int .i64 i ∧ v6 = .int .i64 f ∧ v5 = .slice A k c2 ∧ Sl (Below w.heap.size w wr) ∧ Sl (wr.ownsRow w.heap.size 9 1 (.slice A k c2) k (strsA D)) ∧ Sl (R = D ++ Lib.split (s.drop f) [c] ∧ D.length = k) ∧ Sl (c ∉ (s.drop f).take (i - f)))
  case atStart => exact ⟨0, 0, 0, none, 0, [], rfl, Nat.zero_le _, Nat.zero_le _, Nat.zero_le _, rfl, rfl, rfl, ⟨Below.refl _ _⟩, ⟨World.ownsRow_nil _ _ _ _⟩, ⟨by rw [← HRR.out]; simp⟩, ⟨by simp⟩⟩
  case round =>
    obtain ⟨i, f, k, A, c2, D, hq, hi, hf, hk, rfl, rfl, rfl, HB, HO, HD, HN⟩ := hrel
    by_cases hlt : i < s.length
    · have hlt2 : i < (bsS s).size := by rw [hz]; exact hlt
      have HBt := Sl.mk (bs_at hlt2)
      obtain ⟨b, hb⟩ : ∃ b : Nat, ((bsS s)[i]).toNat = b := ⟨_, rfl⟩
      have hx : (s.getD i 0).toNat = b := by rw [← HBt.out, hb]
      have HX := Sl.mk hx
      clear hx
      have hil : (i : Int) < (s.length : Int) := by omega
      by_cases hbc : b = c.toNat
      · have he : ((b : Int) == (c.toNat : Int)) = true := by simp; omega
        have HE := Sl.mk (show s.getD i 0 = c from UInt8.toNat_inj.1 (by rw [HX.out, hbc]))
        have ex : (bsS s).extract f i = bsS ((s.drop f).take (i - f)) := by rw [bs_cut]
        obtain ⟨P, hP⟩ : ∃ P, (s.drop f).take (i - f) = P := ⟨_, rfl⟩
        have HDN := Sl.mk (show R = (D ++ [P]) ++ Lib.split (s.drop (i + 1)) [c] ∧ (D ++ [P]).length = k + 1 by
          refine ⟨?_, by rw [List.length_append, HD.out.2]; rfl⟩
          rw [HD.out.1, cut_at hf hlt HE.out HN.out, hP]
          simp)
        rw [hP] at ex
        have hwr : IntKind.i64.wrap ((i : Int) + 1) = (i : Int) + 1 := Go.IntWalk.i64_in _ (by omega)
        clear hP hbc
        go_wp2_with (at_builtin; refine wpList_append_any _ rfl (.tmp 19) (.tmp 24) 50 rfl w.heap.size 9 i0 (.string ByteArray.empty) 1 16 Tryz.underlying50 hi0 hz0 hz1 hz2 rfl (by decide) _ _ _ rfl (World.ownsRow.alloc HO.out _) (wr.heap.size + 1) _ 1 1 [.string (bsS P)] rfl (reads_new1 _ _ _ (Nat.lt_succ_self _)) (by intro u hu; simp at hu; subst hu; rfl) (by unfold maxLen; omega) (by omega) (by have := HB.out.size; simp; omega) ?_)
        intro v9 w9 ho9 hg9 _
        obtain ⟨A9, c9, hv9⟩ := ownForm ho9
        subst hv9
        have HO9 := Sl.mk (show w9.ownsRow w.heap.size 9 1 (.slice A9 (k + 1) c9) (k + 1) (strsA (D ++ [P])) by rw [strsA_snoc]; exact ho9)
        have HB9 := Sl.mk (show Below w.heap.size w w9 from (HB.out.alloc HB.out.size _).trans ((Below.refl _ _).grown hg9 (by have := HB.out.size; simp; omega) (fun g hg => ownGe HO.out hg)))
        clear ho9 hg9
        go_wp2_with fail
        go_roundg (s.length - (i + 1))
        case measure => omega
        case rel => exact ⟨i + 1, i + 1, k + 1, A9, c9, D ++ [P], rfl, by omega, Nat.le_refl _, by omega, by go_num, by go_num, rfl, HB9, HO9, HDN, ⟨by simp⟩⟩
      · have he : ((b : Int) == (c.toNat : Int)) = false := by simp; omega
        have HN2 := Sl.mk (cut_more hf hlt (fun e => hbc (by rw [← HX.out, e])) HN.out)
        clear hbc
        go_wp2_with fail
        go_roundg (s.length - (i + 1))
        case measure => omega
        case rel => exact ⟨i + 1, f, k, A, c2, D, rfl, by omega, by omega, by omega, by go_num, rfl, rfl, HB, HO, HD, HN2⟩
    · obtain rfl : i = s.length := by omega
      have hil : ¬ ((s.length : Nat) : Int) < (s.length : Int) := by omega
      have ex : (bsS s).extract f s.length = bsS (s.drop f) := by rw [bs_cut, List.take_of_length_le (by rw [List.length_drop]; omega)]
      have HRF := Sl.mk (show R = D ++ [s.drop f] ∧ R.length = k + 1 by
        have h1 : Lib.split (s.drop f) [c] = [s.drop f] := split_one _ (by
          have h2 := HN.out
          rw [List.take_of_length_le (by rw [List.length_drop]; omega)] at h2
          exact h2)
        have h3 := HD.out.1
        rw [h1] at h3
        exact ⟨h3, by rw [h3, List.length_append, HD.out.2]; rfl⟩)
      go_wp2_with (at_builtin; refine wpList_append_any _ rfl (.tmp 28) (.tmp 32) 50 rfl w.heap.size 9 i0 (.string ByteArray.empty) 1 16 Tryz.underlying50 hi0 hz0 hz1 hz2 rfl (by decide) _ _ _ rfl (World.ownsRow.alloc HO.out _) (wr.heap.size + 1) _ 1 1 [.string (bsS (s.drop f))] rfl (reads_new1 _ _ _ (Nat.lt_succ_self _)) (by intro u hu; simp at hu; subst hu; rfl) (by unfold maxLen; omega) (by omega) (by have := HB.out.size; simp; omega) ?_)
      intro v9 w9 ho9 hg9 _
      obtain ⟨A9, c9, hv9⟩ := ownForm ho9
      subst hv9
      have HO9 := Sl.mk (show w9.ownsRow w.heap.size 9 1 (.slice A9 (k + 1) c9) (k + 1) (strsA (D ++ [s.drop f])) by rw [strsA_snoc]; exact ho9)
      have HB9 := Sl.mk (show Below w.heap.size w w9 from (HB.out.alloc HB.out.size _).trans ((Below.refl _ _).grown hg9 (by have := HB.out.size; simp; omega) (fun g hg => ownGe HO.out hg)))
      clear ho9 hg9
      go_wp2_with fail
      go_ret
      refine ⟨HB9.out, A9, c9, by rw [HRF.out.2]; rfl, ?_⟩
      rw [HRF.out.2, HRF.out.1]
      exact HO9.out
end Go.Proofs.YtmgblbkmbiiofaaGreatDoor
