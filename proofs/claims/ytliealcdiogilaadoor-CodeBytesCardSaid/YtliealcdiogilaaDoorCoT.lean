/-
  The contracts of code's Verify and States.
-/
import Derived.Test.YtliealcdiogilaaDoorCoS
namespace Go.Proofs.YtliealcdiogilaaDoor
open Go.RowKit
attribute [local go_sem ↓] Go.wp_at_zero Go.wp_at_succ

theorem find_none_all {α : Type} (p : α → Bool) : ∀ (l : List α), l.findIdx? p = none → ∀ x ∈ l, p x = false
  | [], _, x, hx => nomatch hx
  | a :: r, h, x, hx => by
    rw [List.findIdx?_cons] at h
    cases hp : p a
    · rw [hp, if_neg (by simp)] at h
      rcases List.mem_cons.1 hx with rfl | hx
      · exact hp
      · refine find_none_all p r ?_ x hx
        cases e : r.findIdx? p with
        | none => rfl
        | some k => rw [e] at h; cases h
    · rw [hp, if_pos rfl] at h; cases h
theorem chk_zero {l : List Ci} (h : (chkF l).2 = 0) : l.length ≤ 200 ∧ (∀ (j : Nat) (y : Ci), l[j]? = some y → rightI y (l.length : Nat) = true) ∧ chkF l = (((l.length : Nat) : Int), 0) := by
  by_cases h2 : 200 < l.length
  · rw [chk_long h2] at h; cases h
  · refine ⟨by omega, ?_⟩
    have h0 : chkF l = match l.findIdx? fun x => !rightI x l.length with
      | some i => ((i : Nat), 3)
      | none => ((l.length : Nat), 0) := by unfold chkF; rw [if_neg h2]; rfl
    cases e : l.findIdx? fun x => !rightI x l.length with
    | some k => rw [h0, e] at h; cases h
    | none =>
      refine ⟨fun j y hy => ?_, by rw [h0, e]⟩
      have := find_none_all _ _ e y (List.mem_of_getElem? hy)
      simpa using this
theorem vy_ok {w w' : World} {n : Nat} {r1 : List (List UInt8)} {r2 : Nat} {e : Ending} (h : VyPost w n (r1, r2, 0) e w') : Below w.heap.size w w' ∧ ∃ sb, e = .returned (.tuple #[.slice (some ⟨sb, 0, none⟩) (n + 1) (n + 1), .int .i64 (r2 : Nat), .int .i64 0]) ∧ w.heap.size ≤ sb ∧ sb < w'.heap.size ∧ Blk w' sb 9 (strsC r1).toArray ∧ r1.length = n + 1 ∧ ∀ s ∈ r1, s.length ≤ 16 := by
  obtain ⟨h1, h2⟩ := h
  rw [if_pos (show (r1, r2, (0 : Int)).2.2 = 0 from rfl)] at h2
  exact ⟨h1, h2⟩
theorem vy_bad {w w' : World} {n : Nat} {r1 : List (List UInt8)} {r2 : Nat} {r3 : Int} {e : Ending} (h : VyPost w n (r1, r2, r3) e w') (h3 : ¬ r3 = 0) : Below w.heap.size w w' ∧ e = .returned (.tuple #[.slice none 0 0, .int .i64 (r2 : Nat), .int .i64 r3]) := by
  obtain ⟨h1, h2⟩ := h
  rw [if_neg (show ¬ (r1, r2, r3).2.2 = 0 from h3)] at h2
  exact ⟨h1, h2⟩
def StPost (w : World) (l : List Ci) (e : Ending) (w' : World) : Prop :=
  Below w.heap.size w w' ∧ if (chkF l).2 ≠ 0 then e = .returned (.tuple #[.slice none 0 0, .int .i64 (chkF l).2]) else
    if (verF l).2.2 = 0 then ∃ sb, e = .returned (.tuple #[.slice (some ⟨sb, 0, none⟩) (l.length + 1) (l.length + 1), .int .i64 0]) ∧ w.heap.size ≤ sb ∧ sb < w'.heap.size ∧ Blk w' sb 9 (strsC (verF l).1).toArray ∧ (verF l).1.length = l.length + 1 ∧ ∀ s ∈ (verF l).1, s.length ≤ 16
    else e = .returned (.tuple #[.slice none 0 0, .int .i64 (verF l).2.2])
set_option maxHeartbeats 4000000 in
theorem states_any (A : Option Addr) (n c : Nat) (l : List Ci) (w : World) (hn : n ≤ 1000000) (hI : Is w A n l) (hP : Spw w w.heap.size) :
    Calls Tryd.prog 13 #[.slice A n c] w (StPost w l) := by
  have HCK := Sl.mk (check_any A n c l w hn hI hP)
  unfold CkPost at HCK
  have HN := Sl.mk hI.n_
  obtain ⟨ci, ce, hce⟩ : ∃ ci ce, chkF l = (ci, ce) := ⟨_, _, rfl⟩
  have HCE := Sl.mk hce
  rw [hce] at HCK
  by_cases h0 : ce = 0
  · subst h0
    obtain ⟨hc1, hc2, hc3⟩ := chk_zero (l := l) (by rw [hce])
    have HV := Sl.mk (fun (W : World) (hb : Below w.heap.size w W) => verify_any A n c l W (hI.be hb) ((hP.be hb).mono hb.size) (by rw [← HN.out]; exact hc2) (by rw [← HN.out]; exact hc1))
    obtain ⟨r1, r2, r3, hr⟩ : ∃ r1 r2 r3, verF l = (r1, r2, r3) := ⟨_, _, _, rfl⟩
    rw [hr] at HV
    have HR := Sl.mk hr
    clear hI hP hce hc1 hc2 hc3 hr
    by_cases h3 : r3 = 0
    · subst h3
      go_enter Tryd.func13, Tryd.ntmps13
      go_wp2_with (first
        | (go_at_call 28; refine HCK.out.mono ?_; rintro e w1 ⟨rfl, hb1⟩; have HB1 := Sl.mk hb1; clear hb1)
        | (go_at_call 29; refine (HV.out _ HB1.out).mono ?_; rintro e w2 hx; obtain ⟨hb2, sb, rfl, hx2⟩ := vy_ok hx; have HB2 := Sl.mk (below_tr HB1.out hb2); have HX2 := Sl.mk hx2; have HS1 := Sl.mk HB1.out.size; clear hx hb2 hx2))
      go_ret2
      refine ⟨HB2.out, ?_⟩
      rw [HCE.out, if_neg (by simp), HR.out, if_pos rfl, HN.out]
      exact ⟨sb, rfl, Nat.le_trans HS1.out HX2.out.1, HX2.out.2⟩
    · have H3 := Sl.mk h3
      clear h3
      go_enter Tryd.func13, Tryd.ntmps13
      go_wp2_with (first
        | (go_at_call 28; refine HCK.out.mono ?_; rintro e w1 ⟨rfl, hb1⟩; have HB1 := Sl.mk hb1; clear hb1)
        | (go_at_call 29; refine (HV.out _ HB1.out).mono ?_; rintro e w2 hx; obtain ⟨hb2, rfl⟩ := vy_bad hx H3.out; have HB2 := Sl.mk (below_tr HB1.out hb2); clear hx hb2))
      go_ret2
      refine ⟨HB2.out, ?_⟩
      rw [HCE.out, if_neg (by simp), HR.out, if_neg H3.out]
      rfl
  · have hb : (ce != 0) = true := by simpa using h0
    have H0 := Sl.mk h0
    clear hI hP hce h0
    go_enter Tryd.func13, Tryd.ntmps13
    go_wp2_with (go_at_call 28; refine HCK.out.mono ?_; rintro e w1 ⟨rfl, hb1⟩; have HB1 := Sl.mk hb1; clear hb1)
    go_ret2
    refine ⟨HB1.out, ?_⟩
    rw [HCE.out, if_pos H0.out]
    rfl

/-- How high the stack is. -/
def highF (h : Nat) : List (List UInt8) → Nat
  | [] => h
  | s :: r => highF (if s = [45] then h else max h s.length) r
def verR (l : List Ci) : Nat × Int × Int :=
  if (chkF l).2 ≠ 0 then (0, (chkF l).1, (chkF l).2)
  else if (verF l).2.2 = 0 then (highF 0 (verF l).1, ((verF l).2.1 : Nat), 0)
  else (0, ((verF l).2.1 : Nat), (verF l).2.2)
def VfPost (w : World) (r : Nat × Int × Int) (e : Ending) (w' : World) : Prop := e = .returned (.tuple #[.int .i64 (r.1 : Nat), .int .i64 r.2.1, .int .i64 r.2.2]) ∧ Below w.heap.size w w'
set_option maxRecDepth 100000 in
set_option maxHeartbeats 8000000 in
theorem verifyC_any (A : Option Addr) (n c : Nat) (l : List Ci) (w : World) (hn : n ≤ 1000000) (hI : Is w A n l) (hP : Spw w w.heap.size) :
    Calls Tryd.prog 12 #[.slice A n c] w (VfPost w (verR l)) := by
  have HCK := Sl.mk (check_any A n c l w hn hI hP)
  unfold CkPost at HCK
  have HN := Sl.mk hI.n_
  obtain ⟨ci, ce, hce⟩ : ∃ ci ce, chkF l = (ci, ce) := ⟨_, _, rfl⟩
  have HCE := Sl.mk hce
  rw [hce] at HCK
  by_cases h0 : ce = 0
  · subst h0
    obtain ⟨hc1, hc2, hc3⟩ := chk_zero (l := l) (by rw [hce])
    have HV := Sl.mk (fun (W : World) (hb : Below w.heap.size w W) => verify_any A n c l W (hI.be hb) ((hP.be hb).mono hb.size) (by rw [← HN.out]; exact hc2) (by rw [← HN.out]; exact hc1))
    obtain ⟨r1, r2, r3, hr⟩ : ∃ r1 r2 r3, verF l = (r1, r2, r3) := ⟨_, _, _, rfl⟩
    rw [hr] at HV
    have hn2 : n ≤ 200 := by rw [← HN.out]; exact hc1
    by_cases h3 : r3 = 0
    · subst h3
      have HR := Sl.mk (show verR l = (highF 0 r1, ((r2 : Nat) : Int), 0) by unfold verR; rw [hce, hr, if_neg (by simp), if_pos rfl])
      clear hI hP hce hc1 hc2 hc3 hr
      go_enter Tryd.func12, Tryd.ntmps12
      go_wp2_with (first
        | (go_at_call 28; refine HCK.out.mono ?_; rintro e w1 ⟨rfl, hb1⟩; have HB1 := Sl.mk hb1; clear hb1)
        | (go_at_call 29; refine (HV.out _ HB1.out).mono ?_; rintro e w2 hx; obtain ⟨hb2, sb, rfl, -, -, hB, hl, hsl⟩ := vy_ok hx; have HB2 := Sl.mk (below_tr HB1.out hb2); have HX2 := Sl.mk hB; have HLN := Sl.mk hl; have HSL := Sl.mk hsl; clear hx hb2 hB hl hsl))
      go_loopg [10, 34] (n + 1) (fun q v10 v34 wr => ∃ i h : Nat, q = n + 1 - i ∧ i ≤ n + 1 ∧ v34 = .int .i64 i ∧ v10 = .int .i64 h ∧ h ≤ 16 ∧ wr = w2 ∧ Sl (highF 0 r1 = highF h (r1.drop i)))
      case atStart => exact ⟨0, 0, rfl, Nat.zero_le _, rfl, rfl, Nat.zero_le _, rfl, ⟨rfl⟩⟩
      case round =>
        obtain ⟨i, h, hq, hi, rfl, rfl, hh, rfl, HH⟩ := hrel
        by_cases hlt : i < n + 1
        · have hil : i < r1.length := by rw [HLN.out]; exact hlt
          have c1 := (HX2.out.cell i).trans (strsC_get hil)
          obtain ⟨y, hy⟩ : ∃ y, r1.getD i [] = y := ⟨_, rfl⟩
          rw [hy] at c1
          have hyi : r1[i]? = some y := by rw [List.getD_eq_getElem?_getD, List.getElem?_eq_getElem hil] at hy; rw [List.getElem?_eq_getElem hil]; exact congrArg some hy
          have hy16 : y.length ≤ 16 := HSL.out y (List.mem_of_getElem? hyi)
          have hdr : r1.drop i = y :: r1.drop (i + 1) := by
            obtain ⟨h1, h2⟩ := List.getElem?_eq_some_iff.1 hyi
            rw [List.drop_eq_getElem_cons h1, h2]
          have hsq := HH.out
          rw [hdr, highF] at hsq
          have hz := bs_size y
          have e1 : ((bsS y).toList == [45]) = decide (y = [45]) := by have := bs_beq y [45]; rw [bs_list [45]] at this; exact this
          have hin : (i : Int) < (n : Int) + 1 := by omega
          have HQ := Sl.mk (show n + 1 - (i + 1) < gk ∧ i + 1 ≤ n + 1 by omega)
          by_cases hd : y = [45]
          · rw [decide_eq_true hd] at e1
            rw [if_pos hd] at hsq
            have HSQ := Sl.mk hsq
            clear hsq hdr hyi hy hd HH hq
            go_wp2_with fail
            go_roundg (n + 1 - (i + 1))
            case measure => exact HQ.out.1
            case rel => exact ⟨i + 1, h, rfl, HQ.out.2, by go_num, rfl, hh, rfl, HSQ⟩
          · rw [decide_eq_false hd] at e1
            rw [if_neg hd] at hsq
            obtain ⟨mx, hmx⟩ : ∃ mx : Nat, max (h : Int) (y.length : Int) = mx := ⟨max h y.length, by omega⟩
            have hme : max h y.length = mx := by omega
            rw [hme] at hsq
            have HSQ := Sl.mk hsq
            have hm16 : mx ≤ 16 := by omega
            clear hsq hdr hyi hy hd HH hq hme
            go_wp2_with fail
            go_roundg (n + 1 - (i + 1))
            case measure => exact HQ.out.1
            case rel => exact ⟨i + 1, mx, rfl, HQ.out.2, by go_num, rfl, hm16, rfl, HSQ⟩
        · obtain rfl : i = n + 1 := by omega
          have HF := Sl.mk (show highF 0 r1 = h by
            rw [HH.out, List.drop_of_length_le (by rw [HLN.out]; omega), highF])
          clear HH hq hlt hi
          go_wp2_with fail
          go_ret3
          refine ⟨?_, HB2.out⟩
          rw [HR.out, HF.out]
          rfl
    · have H3 := Sl.mk h3
      have HR := Sl.mk (show verR l = (0, ((r2 : Nat) : Int), r3) by unfold verR; rw [hce, hr, if_neg (by simp), if_neg h3])
      have hb : (r3 != 0) = true := by simpa using h3
      clear h3 hI hP hce hc1 hc2 hc3 hr
      go_enter Tryd.func12, Tryd.ntmps12
      go_wp2_with (first
        | (go_at_call 28; refine HCK.out.mono ?_; rintro e w1 ⟨rfl, hb1⟩; have HB1 := Sl.mk hb1; clear hb1)
        | (go_at_call 29; refine (HV.out _ HB1.out).mono ?_; rintro e w2 hx; obtain ⟨hb2, rfl⟩ := vy_bad hx H3.out; have HB2 := Sl.mk (below_tr HB1.out hb2); clear hx hb2))
      go_ret3
      refine ⟨?_, HB2.out⟩
      rw [HR.out]
      rfl
  · have hb : (ce != 0) = true := by simpa using h0
    have HR := Sl.mk (show verR l = (0, ci, ce) by unfold verR; rw [hce, if_pos h0])
    clear hI hP hce h0
    go_enter Tryd.func12, Tryd.ntmps12
    go_wp2_with (go_at_call 28; refine HCK.out.mono ?_; rintro e w1 ⟨rfl, hb1⟩; have HB1 := Sl.mk hb1; clear hb1)
    go_ret3
    refine ⟨?_, HB1.out⟩
    rw [HR.out]
    rfl
end Go.Proofs.YtliealcdiogilaaDoor
