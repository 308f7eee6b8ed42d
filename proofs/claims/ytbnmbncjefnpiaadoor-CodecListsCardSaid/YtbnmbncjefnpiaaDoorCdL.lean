/-
  The contract of the reader's digits.
-/
import Derived.Test.YtbnmbncjefnpiaaDoorCdK
import Derived.Test.YtbnmbncjefnpiaaDoorCdH
namespace Go.Proofs.YtbnmbncjefnpiaaDoor
open Go.RowKit
attribute [local go_sem ↓] Go.wp_at_zero Go.wp_at_succ

def isDg (x : Nat) : Bool := decide (48 ≤ x) && decide (x ≤ 57)
def runD : List Nat → Nat
  | [] => 0
  | x :: r => if isDg x = true then runD r + 1 else 0
theorem runD_le : ∀ l : List Nat, runD l ≤ l.length
  | [] => Nat.le_refl _
  | x :: r => by
    unfold runD
    split
    · have := runD_le r; simp; omega
    · simp
def sgnD (below : Bool) (b : List Nat) (i : Nat) : Nat := if below = true ∧ i < b.length ∧ b.getD i 0 = 45 then 1 else 0

def posR (w : World) (R : Nat) : Nat := match w.cell? ⟨R, 1, none⟩ with
  | some (.int _ i) => i.toNat
  | _ => 0

set_option maxRecDepth 100000 in
set_option maxHeartbeats 1000000 in
/-- The digits from i on (the sign is behind). -/
theorem digits_any (below : Bool) (R : Nat) (A : Option Addr) (n c : Nat) (b : List Nat) (i : Nat) (e : Int) (w : World) (h : Rst w R A n c b i e) :
    Calls Tryd.prog 40 #[.pointer (some ⟨R, 0, none⟩), .bool below] w fun en w' => ∃ j, j = i + sgnD below b i + runD (b.drop (i + sgnD below b i)) ∧ en = .returned (.string (strN ((b.drop i).take (j - i)))) ∧ Rst w' R A n c b j e ∧ w.grownBy w' (some R) := by
  have c1 := h.blk.cell 1
  have HR := Sl.mk h
  have HM := Sl.mk (fun W j hW => more_any R A n c b j e W hW)
  have HI := Sl.mk (fun W hW => is_any 45 R A n c b i e W hW)
  have hn := h.nm
  have hcap := h.cap
  have hlen := Sl.mk h.len
  cases below
  · obtain ⟨J, hJ⟩ : ∃ J, i + sgnD false b i = J := ⟨_, rfl⟩
    rw [hJ]
    have hJe : J = i := by rw [← hJ]; unfold sgnD; rw [if_neg (by simp)]; rfl
    have HJ := Sl.mk (show Rst w R A n c b J e by rw [hJe]; exact h)
    have HJE := Sl.mk (show i ≤ J by omega)
    have hG := only_refl w (some R)
    clear hJ h hJe
    go_enter Tryd.func40, Tryd.ntmps40
    go_wp2_with fail
    go_step3
    go_wp2_with fail
    go_step3
    go_wp2_with fail
    go_loopw [6] (fun _ wr => ∃ j : Nat, J ≤ j ∧ j ≤ n ∧ Rst wr R A n c b j e ∧ Sl (J + runD (b.drop J) = j + runD (b.drop j)) ∧ w.grownBy wr (some R)) (fun _ wr => n - posR wr R)
    case atStart => exact ⟨J, Nat.le_refl _, HJ.out.le, HJ.out, ⟨rfl⟩, hG⟩
    case round =>
      obtain ⟨j, hj1, hj2, hRr, HZ, hGr⟩ := hrel
      have c0 := hRr.blk.cell 0
      have c1 := hRr.blk.cell 1
      have c2 := hRr.blk.cell 2
      have hM := HM.out wr j hRr
      by_cases hjn : j < n
      · rw [decide_eq_true hjn] at hM
        obtain ⟨ad, u, hAe, hadb, hu, hcu⟩ := hRr.row.at_ hjn
        obtain rfl : u = .int .u8 ((b.getD j 0 : Nat) : Int) := by
          unfold u8s at hu
          rw [List.getElem?_map, getD_of (by rw [hlen.out]; exact hjn)] at hu
          simpa using hu.symm
        have hrd : runD (b.drop j) = if isDg (b.getD j 0) = true then runD (b.drop (j + 1)) + 1 else 0 := by
          rw [drop_one (getD_of (by rw [hlen.out]; exact hjn)), runD]
        obtain ⟨x, hx⟩ : ∃ x, b.getD j 0 = x := ⟨_, rfl⟩
        rw [hx] at hcu hrd
        have HRD := Sl.mk hrd
        subst hAe
        clear hx hu hrd
        go_wp2_with fail
        refine hM.mono ?_
        rintro en w2 ⟨rfl, k, hw2⟩
        have hR2 : Rst w2 R (some ad) n c b j e := by rw [hw2]; exact hRr.dr k
        have hG2 : w.grownBy w2 (some R) := by rw [hw2]; exact only_drewN hGr k
        have hcu2 : w2.cell? (ad.add j) = some (.int .u8 (x : Int)) := by rw [hw2]; exact hcu
        clear hw2 hM hcu
        clear c0 c1 c2
        have c0 := hR2.blk.cell 0
        have c1 := hR2.blk.cell 1
        have hjci : (j : Int) < (n : Int) := by omega
        go_wp2_with fail
        go_quiet (fail)
        have hR3 : Rst (w2.drewN nq) R (some ad) n c b j e := hR2.dr nq
        have hG3 : w.grownBy (w2.drewN nq) (some R) := only_drewN hG2 nq
        obtain ⟨w3, hw3⟩ : ∃ w3, w2.drewN nq = w3 := ⟨_, rfl⟩
        rw [hw3] at hR3 hG3 ⊢
        clear hw3 hR2 hG2 hcu2 c0 c1
        by_cases h48 : x < 48
        · have hdg : isDg x = false := by unfold isDg; rw [decide_eq_false (by omega), Bool.false_and]
          have h48i : (x : Int) < 48 := by omega
          have hic : i ≤ n := Nat.le_trans HJE.out HJ.out.le
          have hij : i ≤ j := Nat.le_trans HJE.out hj1
          have hcut := reads_take (k := j - i) (hR3.row.cut (k := i) (cap := c) hic hcap) (by omega)
          have hcv := conv_str (w := w3) (c := c - i) (d := (b.drop i).take (j - i)) (by simpa [u8s] using hcut) (fun x hx => hR3.by_ x (List.mem_of_mem_drop (List.mem_of_mem_take hx)))
          have hcv2 := fun k => conv_str (w := w3.drewN k) (c := c - i) (d := (b.drop i).take (j - i)) (by simpa [u8s] using hcut.drewN k) (fun x hx => hR3.by_ x (List.mem_of_mem_drop (List.mem_of_mem_take hx)))
          simp only [if_neg (show ¬ c = i by omega)] at hcv hcv2
          have hiji : (i : Int) ≤ (j : Int) := by omega
          have hjci : (j : Int) ≤ (c : Int) := by omega
          have c0 := hR3.blk.cell 0
          have c1 := hR3.blk.cell 1
          go_wp2_with fail
          refine wp_region_quiet_tail 12 (by kernel_rfl) (by kernel_rfl) ?_
          simp only [List.take_succ_cons, List.take_zero, List.drop_succ_cons, List.drop_zero]
          repeat (any_goals (first | go_big_quiet_step (fail) | quiet_step (fail)))
          refine wpQuiet_nil ?_
          intro _ hw'
          obtain ⟨nq, hw''⟩ := hw'
          subst hw''
          go_wp2_with fail
          rw [Exit.noGoto_ret]
          go_ret
          have hz : runD (b.drop j) = 0 := by rw [HRD.out, if_neg (by rw [hdg]; simp)]
          have hze := HZ.out
          rw [hz] at hze
          exact ⟨j, by omega, rfl, hR3.dr _, only_drewN hG3 _⟩
        · by_cases h57 : 57 < x
          · have hdg : isDg x = false := by unfold isDg; rw [show decide (x ≤ 57) = false from decide_eq_false (by omega), Bool.and_false]
            have h48i : ¬ (x : Int) < 48 := by omega
            have h57i : (57 : Int) < (x : Int) := by omega
            have hic : i ≤ n := Nat.le_trans HJE.out HJ.out.le
            have hij : i ≤ j := Nat.le_trans HJE.out hj1
            have hcut := reads_take (k := j - i) (hR3.row.cut (k := i) (cap := c) hic hcap) (by omega)
            have hcv := conv_str (w := w3) (c := c - i) (d := (b.drop i).take (j - i)) (by simpa [u8s] using hcut) (fun x hx => hR3.by_ x (List.mem_of_mem_drop (List.mem_of_mem_take hx)))
            have hcv2 := fun k => conv_str (w := w3.drewN k) (c := c - i) (d := (b.drop i).take (j - i)) (by simpa [u8s] using hcut.drewN k) (fun x hx => hR3.by_ x (List.mem_of_mem_drop (List.mem_of_mem_take hx)))
            simp only [if_neg (show ¬ c = i by omega)] at hcv hcv2
            have hiji : (i : Int) ≤ (j : Int) := by omega
            have hjci : (j : Int) ≤ (c : Int) := by omega
            have c0 := hR3.blk.cell 0
            have c1 := hR3.blk.cell 1
            go_wp2_with fail
            refine wp_region_quiet_tail 12 (by kernel_rfl) (by kernel_rfl) ?_
            simp only [List.take_succ_cons, List.take_zero, List.drop_succ_cons, List.drop_zero]
            repeat (any_goals (first | go_big_quiet_step (fail) | quiet_step (fail)))
            refine wpQuiet_nil ?_
            intro _ hw'
            obtain ⟨nq, hw''⟩ := hw'
            subst hw''
            go_wp2_with fail
            rw [Exit.noGoto_ret]
            go_ret
            have hz : runD (b.drop j) = 0 := by rw [HRD.out, if_neg (by rw [hdg]; simp)]
            have hze := HZ.out
            rw [hz] at hze
            exact ⟨j, by omega, rfl, hR3.dr _, only_drewN hG3 _⟩
          · have hdg : isDg x = true := by unfold isDg; rw [decide_eq_true (by omega), decide_eq_true (by omega)]; rfl
            have h48i : ¬ (x : Int) < 48 := by omega
            have h57i : ¬ (57 : Int) < (x : Int) := by omega
            have c1 := hR3.blk.cell 1
            have f1 := hR3.blk.frozen 1
            have hB := blk_set _ _ _ _ 1 (.int .i64 ((j : Int) + 1)) #[.slice (some ad) n c, .int .i64 ((j : Int) + 1), .int .i64 e] hR3.blk rfl
            have hg := only_setCell hG3 1 (.int .i64 ((j : Int) + 1))
            have hg3 := only_setCell (only_refl w3 (some R)) 1 (.int .i64 ((j : Int) + 1))
            have hR4 := hR3.to_ hg3 (j + 1) e (by omega) (by rwa [show ((j + 1 : Nat) : Int) = (j : Int) + 1 by omega])
            have hZ4 := Sl.mk (show J + runD (b.drop J) = (j + 1) + runD (b.drop (j + 1)) by rw [HZ.out, HRD.out, if_pos hdg]; omega)
            have hp : posR (w3.setCell ⟨R, 1, none⟩ (.int .i64 ((j : Int) + 1))) R = j + 1 := by
              unfold posR; rw [hB.cell 1]; first | (simp; done) | (simp; omega)
            have hp0 : posR wr R = j := by unfold posR; rw [hRr.blk.cell 1]; simp
            clear hB hg3 hR3 hG3 hRr hGr HM HI
            go_wp2_with fail
            go_roundw
            case rel => exact ⟨j + 1, by omega, by omega, hR4, hZ4, hg⟩
            case measure => rw [hp, hp0]; omega
      · rw [decide_eq_false hjn] at hM
        go_wp2_with fail
        refine hM.mono ?_
        rintro en w2 ⟨rfl, k, hw2⟩
        have hR2 : Rst w2 R A n c b j e := by rw [hw2]; exact hRr.dr k
        have hG2 : w.grownBy w2 (some R) := by rw [hw2]; exact only_drewN hGr k
        clear hw2
        clear c0 c1 c2
        have hic : i ≤ n := Nat.le_trans HJE.out HJ.out.le
        have hij : i ≤ j := Nat.le_trans HJE.out hj1
        have hcut := reads_take (k := j - i) (hR2.row.cut (k := i) (cap := c) hic hcap) (by omega)
        have hcv := conv_str (w := w2) (c := c - i) (d := (b.drop i).take (j - i)) (by simpa [u8s] using hcut) (fun x hx => hR2.by_ x (List.mem_of_mem_drop (List.mem_of_mem_take hx)))
        have hcv2 := fun k => conv_str (w := w2.drewN k) (c := c - i) (d := (b.drop i).take (j - i)) (by simpa [u8s] using hcut.drewN k) (fun x hx => hR2.by_ x (List.mem_of_mem_drop (List.mem_of_mem_take hx)))
        have hiji : (i : Int) ≤ (j : Int) := by omega
        have hjci : (j : Int) ≤ (c : Int) := by omega
        have c0 := hR2.blk.cell 0
        have c1 := hR2.blk.cell 1
        go_wp2_with fail
        refine wp_region_quiet_tail 12 (by kernel_rfl) (by kernel_rfl) ?_
        simp only [List.take_succ_cons, List.take_zero, List.drop_succ_cons, List.drop_zero]
        repeat (any_goals (first | go_big_quiet_step (fail) | quiet_step (fail)))
        refine wpQuiet_nil ?_
        intro _ hw'
        obtain ⟨nq, hw''⟩ := hw'
        subst hw''
        go_wp2_with fail
        all_goals
          first | rw [Exit.noGoto_ret] | skip
          go_ret
          have hz : runD (b.drop j) = 0 := by rw [List.drop_of_length_le (by rw [hlen.out]; omega)]; rfl
          have hze := HZ.out
          rw [hz] at hze
          exact ⟨j, by omega, rfl, hR2.dr _, only_drewN hG2 _⟩
  · have hI := HI.out w h
    by_cases hsg : i < n ∧ b.getD i 0 = 45
    · obtain ⟨J, hJ⟩ : ∃ J, i + sgnD true b i = J := ⟨_, rfl⟩
      rw [hJ]
      have hJe : J = i + 1 := by rw [← hJ]; unfold sgnD; rw [if_pos ⟨rfl, by rw [hlen.out]; exact hsg.1, hsg.2⟩]
      have HJE := Sl.mk (show i ≤ J by omega)
      have HJE1 := Sl.mk hJe
      have hin := hsg.1
      rw [decide_eq_true hsg.1, decide_eq_true hsg.2] at hI
      clear hJ hJe hsg h
      go_enter Tryd.func40, Tryd.ntmps40
      go_wp2_with fail
      go_step3
      go_wp2_with fail
      refine hI.mono ?_
      rintro en w0 ⟨rfl, k, hw0⟩
      have hR0 : Rst w0 R A n c b i e := by rw [hw0]; exact HR.out.dr k
      have hG0 : w.grownBy w0 (some R) := by rw [hw0]; exact only_drewN (only_refl w _) k
      clear hw0 hI c1
      have c1 := hR0.blk.cell 1
      have f1 := hR0.blk.frozen 1
      have hB := blk_set _ _ _ _ 1 (.int .i64 ((i : Int) + 1)) #[.slice A n c, .int .i64 ((i : Int) + 1), .int .i64 e] hR0.blk rfl
      have hg3 := only_setCell (only_refl w0 (some R)) 1 (.int .i64 ((i : Int) + 1))
      have hG := only_trans hG0 hg3
      have HJ := Sl.mk (show Rst (w0.setCell ⟨R, 1, none⟩ (.int .i64 ((i : Int) + 1))) R A n c b J e by
        rw [HJE1.out]
        exact hR0.to_ hg3 (i + 1) e (by omega) (by rwa [show ((i + 1 : Nat) : Int) = (i : Int) + 1 by omega]))
      clear hB hg3 hR0 hG0
      go_wp2_with fail
      go_step3
      go_wp2_with fail
      go_loopw [6] (fun _ wr => ∃ j : Nat, J ≤ j ∧ j ≤ n ∧ Rst wr R A n c b j e ∧ Sl (J + runD (b.drop J) = j + runD (b.drop j)) ∧ w.grownBy wr (some R)) (fun _ wr => n - posR wr R)
      case atStart => exact ⟨J, Nat.le_refl _, HJ.out.le, HJ.out, ⟨rfl⟩, hG⟩
      case round =>
        obtain ⟨j, hj1, hj2, hRr, HZ, hGr⟩ := hrel
        have c0 := hRr.blk.cell 0
        have c1 := hRr.blk.cell 1
        have c2 := hRr.blk.cell 2
        have hM := HM.out wr j hRr
        by_cases hjn : j < n
        · rw [decide_eq_true hjn] at hM
          obtain ⟨ad, u, hAe, hadb, hu, hcu⟩ := hRr.row.at_ hjn
          obtain rfl : u = .int .u8 ((b.getD j 0 : Nat) : Int) := by
            unfold u8s at hu
            rw [List.getElem?_map, getD_of (by rw [hlen.out]; exact hjn)] at hu
            simpa using hu.symm
          have hrd : runD (b.drop j) = if isDg (b.getD j 0) = true then runD (b.drop (j + 1)) + 1 else 0 := by
            rw [drop_one (getD_of (by rw [hlen.out]; exact hjn)), runD]
          obtain ⟨x, hx⟩ : ∃ x, b.getD j 0 = x := ⟨_, rfl⟩
          rw [hx] at hcu hrd
          have HRD := Sl.mk hrd
          subst hAe
          clear hx hu hrd
          go_wp2_with fail
          refine hM.mono ?_
          rintro en w2 ⟨rfl, k, hw2⟩
          have hR2 : Rst w2 R (some ad) n c b j e := by rw [hw2]; exact hRr.dr k
          have hG2 : w.grownBy w2 (some R) := by rw [hw2]; exact only_drewN hGr k
          have hcu2 : w2.cell? (ad.add j) = some (.int .u8 (x : Int)) := by rw [hw2]; exact hcu
          clear hw2 hM hcu
          clear c0 c1 c2
          have c0 := hR2.blk.cell 0
          have c1 := hR2.blk.cell 1
          have hjci : (j : Int) < (n : Int) := by omega
          go_wp2_with fail
          go_quiet (fail)
          have hR3 : Rst (w2.drewN nq) R (some ad) n c b j e := hR2.dr nq
          have hG3 : w.grownBy (w2.drewN nq) (some R) := only_drewN hG2 nq
          obtain ⟨w3, hw3⟩ : ∃ w3, w2.drewN nq = w3 := ⟨_, rfl⟩
          rw [hw3] at hR3 hG3 ⊢
          clear hw3 hR2 hG2 hcu2 c0 c1
          by_cases h48 : x < 48
          · have hdg : isDg x = false := by unfold isDg; rw [decide_eq_false (by omega), Bool.false_and]
            have h48i : (x : Int) < 48 := by omega
            have hic : i ≤ n := Nat.le_trans HJE.out HJ.out.le
            have hij : i ≤ j := Nat.le_trans HJE.out hj1
            have hcut := reads_take (k := j - i) (hR3.row.cut (k := i) (cap := c) hic hcap) (by omega)
            have hcv := conv_str (w := w3) (c := c - i) (d := (b.drop i).take (j - i)) (by simpa [u8s] using hcut) (fun x hx => hR3.by_ x (List.mem_of_mem_drop (List.mem_of_mem_take hx)))
            have hcv2 := fun k => conv_str (w := w3.drewN k) (c := c - i) (d := (b.drop i).take (j - i)) (by simpa [u8s] using hcut.drewN k) (fun x hx => hR3.by_ x (List.mem_of_mem_drop (List.mem_of_mem_take hx)))
            simp only [if_neg (show ¬ c = i by omega)] at hcv hcv2
            have hiji : (i : Int) ≤ (j : Int) := by omega
            have hjci : (j : Int) ≤ (c : Int) := by omega
            have c0 := hR3.blk.cell 0
            have c1 := hR3.blk.cell 1
            go_wp2_with fail
            refine wp_region_quiet_tail 12 (by kernel_rfl) (by kernel_rfl) ?_
            simp only [List.take_succ_cons, List.take_zero, List.drop_succ_cons, List.drop_zero]
            repeat (any_goals (first | go_big_quiet_step (fail) | quiet_step (fail)))
            refine wpQuiet_nil ?_
            intro _ hw'
            obtain ⟨nq, hw''⟩ := hw'
            subst hw''
            go_wp2_with fail
            rw [Exit.noGoto_ret]
            go_ret
            have hz : runD (b.drop j) = 0 := by rw [HRD.out, if_neg (by rw [hdg]; simp)]
            have hze := HZ.out
            rw [hz] at hze
            exact ⟨j, by omega, rfl, hR3.dr _, only_drewN hG3 _⟩
          · by_cases h57 : 57 < x
            · have hdg : isDg x = false := by unfold isDg; rw [show decide (x ≤ 57) = false from decide_eq_false (by omega), Bool.and_false]
              have h48i : ¬ (x : Int) < 48 := by omega
              have h57i : (57 : Int) < (x : Int) := by omega
              have hic : i ≤ n := Nat.le_trans HJE.out HJ.out.le
              have hij : i ≤ j := Nat.le_trans HJE.out hj1
              have hcut := reads_take (k := j - i) (hR3.row.cut (k := i) (cap := c) hic hcap) (by omega)
              have hcv := conv_str (w := w3) (c := c - i) (d := (b.drop i).take (j - i)) (by simpa [u8s] using hcut) (fun x hx => hR3.by_ x (List.mem_of_mem_drop (List.mem_of_mem_take hx)))
              have hcv2 := fun k => conv_str (w := w3.drewN k) (c := c - i) (d := (b.drop i).take (j - i)) (by simpa [u8s] using hcut.drewN k) (fun x hx => hR3.by_ x (List.mem_of_mem_drop (List.mem_of_mem_take hx)))
              simp only [if_neg (show ¬ c = i by omega)] at hcv hcv2
              have hiji : (i : Int) ≤ (j : Int) := by omega
              have hjci : (j : Int) ≤ (c : Int) := by omega
              have c0 := hR3.blk.cell 0
              have c1 := hR3.blk.cell 1
              go_wp2_with fail
              refine wp_region_quiet_tail 12 (by kernel_rfl) (by kernel_rfl) ?_
              simp only [List.take_succ_cons, List.take_zero, List.drop_succ_cons, List.drop_zero]
              repeat (any_goals (first | go_big_quiet_step (fail) | quiet_step (fail)))
              refine wpQuiet_nil ?_
              intro _ hw'
              obtain ⟨nq, hw''⟩ := hw'
              subst hw''
              go_wp2_with fail
              rw [Exit.noGoto_ret]
              go_ret
              have hz : runD (b.drop j) = 0 := by rw [HRD.out, if_neg (by rw [hdg]; simp)]
              have hze := HZ.out
              rw [hz] at hze
              exact ⟨j, by omega, rfl, hR3.dr _, only_drewN hG3 _⟩
            · have hdg : isDg x = true := by unfold isDg; rw [decide_eq_true (by omega), decide_eq_true (by omega)]; rfl
              have h48i : ¬ (x : Int) < 48 := by omega
              have h57i : ¬ (57 : Int) < (x : Int) := by omega
              have c1 := hR3.blk.cell 1
              have f1 := hR3.blk.frozen 1
              have hB := blk_set _ _ _ _ 1 (.int .i64 ((j : Int) + 1)) #[.slice (some ad) n c, .int .i64 ((j : Int) + 1), .int .i64 e] hR3.blk rfl
              have hg := only_setCell hG3 1 (.int .i64 ((j : Int) + 1))
              have hg3 := only_setCell (only_refl w3 (some R)) 1 (.int .i64 ((j : Int) + 1))
              have hR4 := hR3.to_ hg3 (j + 1) e (by omega) (by rwa [show ((j + 1 : Nat) : Int) = (j : Int) + 1 by omega])
              have hZ4 := Sl.mk (show J + runD (b.drop J) = (j + 1) + runD (b.drop (j + 1)) by rw [HZ.out, HRD.out, if_pos hdg]; omega)
              have hp : posR (w3.setCell ⟨R, 1, none⟩ (.int .i64 ((j : Int) + 1))) R = j + 1 := by
                unfold posR; rw [hB.cell 1]; first | (simp; done) | (simp; omega)
              have hp0 : posR wr R = j := by unfold posR; rw [hRr.blk.cell 1]; simp
              clear hB hg3 hR3 hG3 hRr hGr HM HI
              go_wp2_with fail
              go_roundw
              case rel => exact ⟨j + 1, by omega, by omega, hR4, hZ4, hg⟩
              case measure => rw [hp, hp0]; omega
        · rw [decide_eq_false hjn] at hM
          go_wp2_with fail
          refine hM.mono ?_
          rintro en w2 ⟨rfl, k, hw2⟩
          have hR2 : Rst w2 R A n c b j e := by rw [hw2]; exact hRr.dr k
          have hG2 : w.grownBy w2 (some R) := by rw [hw2]; exact only_drewN hGr k
          clear hw2
          clear c0 c1 c2
          have hic : i ≤ n := Nat.le_trans HJE.out HJ.out.le
          have hij : i ≤ j := Nat.le_trans HJE.out hj1
          have hcut := reads_take (k := j - i) (hR2.row.cut (k := i) (cap := c) hic hcap) (by omega)
          have hcv := conv_str (w := w2) (c := c - i) (d := (b.drop i).take (j - i)) (by simpa [u8s] using hcut) (fun x hx => hR2.by_ x (List.mem_of_mem_drop (List.mem_of_mem_take hx)))
          have hcv2 := fun k => conv_str (w := w2.drewN k) (c := c - i) (d := (b.drop i).take (j - i)) (by simpa [u8s] using hcut.drewN k) (fun x hx => hR2.by_ x (List.mem_of_mem_drop (List.mem_of_mem_take hx)))
          simp only [if_neg (show ¬ c = i by omega)] at hcv hcv2
          have hiji : (i : Int) ≤ (j : Int) := by omega
          have hjci : (j : Int) ≤ (c : Int) := by omega
          have c0 := hR2.blk.cell 0
          have c1 := hR2.blk.cell 1
          go_wp2_with fail
          refine wp_region_quiet_tail 12 (by kernel_rfl) (by kernel_rfl) ?_
          simp only [List.take_succ_cons, List.take_zero, List.drop_succ_cons, List.drop_zero]
          repeat (any_goals (first | go_big_quiet_step (fail) | quiet_step (fail)))
          refine wpQuiet_nil ?_
          intro _ hw'
          obtain ⟨nq, hw''⟩ := hw'
          subst hw''
          go_wp2_with fail
          all_goals
            first | rw [Exit.noGoto_ret] | skip
            go_ret
            have hz : runD (b.drop j) = 0 := by rw [List.drop_of_length_le (by rw [hlen.out]; omega)]; rfl
            have hze := HZ.out
            rw [hz] at hze
            exact ⟨j, by omega, rfl, hR2.dr _, only_drewN hG2 _⟩
    · obtain ⟨J, hJ⟩ : ∃ J, i + sgnD true b i = J := ⟨_, rfl⟩
      rw [hJ]
      have hJe : J = i := by rw [← hJ]; unfold sgnD; rw [if_neg (fun h => hsg ⟨by rw [← hlen.out]; exact h.2.1, h.2.2⟩)]; rfl
      have HJE := Sl.mk (show i ≤ J by omega)
      have HJE1 := Sl.mk hJe
      rw [show (decide (i < n) && decide (b.getD i 0 = 45)) = false by rw [← Bool.decide_and]; exact decide_eq_false hsg] at hI
      clear hJ hJe hsg h
      go_enter Tryd.func40, Tryd.ntmps40
      go_wp2_with fail
      go_step3
      go_wp2_with fail
      refine hI.mono ?_
      rintro en w0 ⟨rfl, k, hw0⟩
      have HJ := Sl.mk (show Rst w0 R A n c b J e by rw [hw0, HJE1.out]; exact HR.out.dr k)
      have hG : w.grownBy w0 (some R) := by rw [hw0]; exact only_drewN (only_refl w _) k
      clear hw0 hI c1
      go_wp2_with fail
      go_step3
      go_wp2_with fail
      go_loopw [6] (fun _ wr => ∃ j : Nat, J ≤ j ∧ j ≤ n ∧ Rst wr R A n c b j e ∧ Sl (J + runD (b.drop J) = j + runD (b.drop j)) ∧ w.grownBy wr (some R)) (fun _ wr => n - posR wr R)
      case atStart => exact ⟨J, Nat.le_refl _, HJ.out.le, HJ.out, ⟨rfl⟩, hG⟩
      case round =>
        obtain ⟨j, hj1, hj2, hRr, HZ, hGr⟩ := hrel
        have c0 := hRr.blk.cell 0
        have c1 := hRr.blk.cell 1
        have c2 := hRr.blk.cell 2
        have hM := HM.out wr j hRr
        by_cases hjn : j < n
        · rw [decide_eq_true hjn] at hM
          obtain ⟨ad, u, hAe, hadb, hu, hcu⟩ := hRr.row.at_ hjn
          obtain rfl : u = .int .u8 ((b.getD j 0 : Nat) : Int) := by
            unfold u8s at hu
            rw [List.getElem?_map, getD_of (by rw [hlen.out]; exact hjn)] at hu
            simpa using hu.symm
          have hrd : runD (b.drop j) = if isDg (b.getD j 0) = true then runD (b.drop (j + 1)) + 1 else 0 := by
            rw [drop_one (getD_of (by rw [hlen.out]; exact hjn)), runD]
          obtain ⟨x, hx⟩ : ∃ x, b.getD j 0 = x := ⟨_, rfl⟩
          rw [hx] at hcu hrd
          have HRD := Sl.mk hrd
          subst hAe
          clear hx hu hrd
          go_wp2_with fail
          refine hM.mono ?_
          rintro en w2 ⟨rfl, k, hw2⟩
          have hR2 : Rst w2 R (some ad) n c b j e := by rw [hw2]; exact hRr.dr k
          have hG2 : w.grownBy w2 (some R) := by rw [hw2]; exact only_drewN hGr k
          have hcu2 : w2.cell? (ad.add j) = some (.int .u8 (x : Int)) := by rw [hw2]; exact hcu
          clear hw2 hM hcu
          clear c0 c1 c2
          have c0 := hR2.blk.cell 0
          have c1 := hR2.blk.cell 1
          have hjci : (j : Int) < (n : Int) := by omega
          go_wp2_with fail
          go_quiet (fail)
          have hR3 : Rst (w2.drewN nq) R (some ad) n c b j e := hR2.dr nq
          have hG3 : w.grownBy (w2.drewN nq) (some R) := only_drewN hG2 nq
          obtain ⟨w3, hw3⟩ : ∃ w3, w2.drewN nq = w3 := ⟨_, rfl⟩
          rw [hw3] at hR3 hG3 ⊢
          clear hw3 hR2 hG2 hcu2 c0 c1
          by_cases h48 : x < 48
          · have hdg : isDg x = false := by unfold isDg; rw [decide_eq_false (by omega), Bool.false_and]
            have h48i : (x : Int) < 48 := by omega
            have hic : i ≤ n := Nat.le_trans HJE.out HJ.out.le
            have hij : i ≤ j := Nat.le_trans HJE.out hj1
            have hcut := reads_take (k := j - i) (hR3.row.cut (k := i) (cap := c) hic hcap) (by omega)
            have hcv := conv_str (w := w3) (c := c - i) (d := (b.drop i).take (j - i)) (by simpa [u8s] using hcut) (fun x hx => hR3.by_ x (List.mem_of_mem_drop (List.mem_of_mem_take hx)))
            have hcv2 := fun k => conv_str (w := w3.drewN k) (c := c - i) (d := (b.drop i).take (j - i)) (by simpa [u8s] using hcut.drewN k) (fun x hx => hR3.by_ x (List.mem_of_mem_drop (List.mem_of_mem_take hx)))
            simp only [if_neg (show ¬ c = i by omega)] at hcv hcv2
            have hiji : (i : Int) ≤ (j : Int) := by omega
            have hjci : (j : Int) ≤ (c : Int) := by omega
            have c0 := hR3.blk.cell 0
            have c1 := hR3.blk.cell 1
            go_wp2_with fail
            refine wp_region_quiet_tail 12 (by kernel_rfl) (by kernel_rfl) ?_
            simp only [List.take_succ_cons, List.take_zero, List.drop_succ_cons, List.drop_zero]
            repeat (any_goals (first | go_big_quiet_step (fail) | quiet_step (fail)))
            refine wpQuiet_nil ?_
            intro _ hw'
            obtain ⟨nq, hw''⟩ := hw'
            subst hw''
            go_wp2_with fail
            rw [Exit.noGoto_ret]
            go_ret
            have hz : runD (b.drop j) = 0 := by rw [HRD.out, if_neg (by rw [hdg]; simp)]
            have hze := HZ.out
            rw [hz] at hze
            exact ⟨j, by omega, rfl, hR3.dr _, only_drewN hG3 _⟩
          · by_cases h57 : 57 < x
            · have hdg : isDg x = false := by unfold isDg; rw [show decide (x ≤ 57) = false from decide_eq_false (by omega), Bool.and_false]
              have h48i : ¬ (x : Int) < 48 := by omega
              have h57i : (57 : Int) < (x : Int) := by omega
              have hic : i ≤ n := Nat.le_trans HJE.out HJ.out.le
              have hij : i ≤ j := Nat.le_trans HJE.out hj1
              have hcut := reads_take (k := j - i) (hR3.row.cut (k := i) (cap := c) hic hcap) (by omega)
              have hcv := conv_str (w := w3) (c := c - i) (d := (b.drop i).take (j - i)) (by simpa [u8s] using hcut) (fun x hx => hR3.by_ x (List.mem_of_mem_drop (List.mem_of_mem_take hx)))
              have hcv2 := fun k => conv_str (w := w3.drewN k) (c := c - i) (d := (b.drop i).take (j - i)) (by simpa [u8s] using hcut.drewN k) (fun x hx => hR3.by_ x (List.mem_of_mem_drop (List.mem_of_mem_take hx)))
              simp only [if_neg (show ¬ c = i by omega)] at hcv hcv2
              have hiji : (i : Int) ≤ (j : Int) := by omega
              have hjci : (j : Int) ≤ (c : Int) := by omega
              have c0 := hR3.blk.cell 0
              have c1 := hR3.blk.cell 1
              go_wp2_with fail
              refine wp_region_quiet_tail 12 (by kernel_rfl) (by kernel_rfl) ?_
              simp only [List.take_succ_cons, List.take_zero, List.drop_succ_cons, List.drop_zero]
              repeat (any_goals (first | go_big_quiet_step (fail) | quiet_step (fail)))
              refine wpQuiet_nil ?_
              intro _ hw'
              obtain ⟨nq, hw''⟩ := hw'
              subst hw''
              go_wp2_with fail
              rw [Exit.noGoto_ret]
              go_ret
              have hz : runD (b.drop j) = 0 := by rw [HRD.out, if_neg (by rw [hdg]; simp)]
              have hze := HZ.out
              rw [hz] at hze
              exact ⟨j, by omega, rfl, hR3.dr _, only_drewN hG3 _⟩
            · have hdg : isDg x = true := by unfold isDg; rw [decide_eq_true (by omega), decide_eq_true (by omega)]; rfl
              have h48i : ¬ (x : Int) < 48 := by omega
              have h57i : ¬ (57 : Int) < (x : Int) := by omega
              have c1 := hR3.blk.cell 1
              have f1 := hR3.blk.frozen 1
              have hB := blk_set _ _ _ _ 1 (.int .i64 ((j : Int) + 1)) #[.slice (some ad) n c, .int .i64 ((j : Int) + 1), .int .i64 e] hR3.blk rfl
              have hg := only_setCell hG3 1 (.int .i64 ((j : Int) + 1))
              have hg3 := only_setCell (only_refl w3 (some R)) 1 (.int .i64 ((j : Int) + 1))
              have hR4 := hR3.to_ hg3 (j + 1) e (by omega) (by rwa [show ((j + 1 : Nat) : Int) = (j : Int) + 1 by omega])
              have hZ4 := Sl.mk (show J + runD (b.drop J) = (j + 1) + runD (b.drop (j + 1)) by rw [HZ.out, HRD.out, if_pos hdg]; omega)
              have hp : posR (w3.setCell ⟨R, 1, none⟩ (.int .i64 ((j : Int) + 1))) R = j + 1 := by
                unfold posR; rw [hB.cell 1]; first | (simp; done) | (simp; omega)
              have hp0 : posR wr R = j := by unfold posR; rw [hRr.blk.cell 1]; simp
              clear hB hg3 hR3 hG3 hRr hGr HM HI
              go_wp2_with fail
              go_roundw
              case rel => exact ⟨j + 1, by omega, by omega, hR4, hZ4, hg⟩
              case measure => rw [hp, hp0]; omega
        · rw [decide_eq_false hjn] at hM
          go_wp2_with fail
          refine hM.mono ?_
          rintro en w2 ⟨rfl, k, hw2⟩
          have hR2 : Rst w2 R A n c b j e := by rw [hw2]; exact hRr.dr k
          have hG2 : w.grownBy w2 (some R) := by rw [hw2]; exact only_drewN hGr k
          clear hw2
          clear c0 c1 c2
          have hic : i ≤ n := Nat.le_trans HJE.out HJ.out.le
          have hij : i ≤ j := Nat.le_trans HJE.out hj1
          have hcut := reads_take (k := j - i) (hR2.row.cut (k := i) (cap := c) hic hcap) (by omega)
          have hcv := conv_str (w := w2) (c := c - i) (d := (b.drop i).take (j - i)) (by simpa [u8s] using hcut) (fun x hx => hR2.by_ x (List.mem_of_mem_drop (List.mem_of_mem_take hx)))
          have hcv2 := fun k => conv_str (w := w2.drewN k) (c := c - i) (d := (b.drop i).take (j - i)) (by simpa [u8s] using hcut.drewN k) (fun x hx => hR2.by_ x (List.mem_of_mem_drop (List.mem_of_mem_take hx)))
          have hiji : (i : Int) ≤ (j : Int) := by omega
          have hjci : (j : Int) ≤ (c : Int) := by omega
          have c0 := hR2.blk.cell 0
          have c1 := hR2.blk.cell 1
          go_wp2_with fail
          refine wp_region_quiet_tail 12 (by kernel_rfl) (by kernel_rfl) ?_
          simp only [List.take_succ_cons, List.take_zero, List.drop_succ_cons, List.drop_zero]
          repeat (any_goals (first | go_big_quiet_step (fail) | quiet_step (fail)))
          refine wpQuiet_nil ?_
          intro _ hw'
          obtain ⟨nq, hw''⟩ := hw'
          subst hw''
          go_wp2_with fail
          all_goals
            first | rw [Exit.noGoto_ret] | skip
            go_ret
            have hz : runD (b.drop j) = 0 := by rw [List.drop_of_length_le (by rw [hlen.out]; omega)]; rfl
            have hze := HZ.out
            rw [hz] at hze
            exact ⟨j, by omega, rfl, hR2.dr _, only_drewN hG2 _⟩

end Go.Proofs.YtbnmbncjefnpiaaDoor
