/-
  The contract of the reference's Verify: the walk.
-/
import Derived.Test.YtliealcdiogilaaDoorCoR
namespace Go.Proofs.YtliealcdiogilaaDoor
open Go.RowKit
attribute [local go_sem ↓] Go.wp_at_zero Go.wp_at_succ

theorem boolInfo : (Tryd.prog.info? 4).map (fun i => (i.zero, i.size, i.bytes)) = some (some (.bool false), 1, 1) := by kernel_rfl
theorem intInfo : (Tryd.prog.info? 3).map (fun i => (i.zero, i.size, i.bytes)) = some (some (.int .i64 0), 1, 8) := by kernel_rfl
theorem wr_new {w w1 w2 : World} {n : Nat} (h1 : Blk w1 w.heap.size 9 (List.replicate (n + 1) (Value.string ⟨#[]⟩)).toArray) (h2 : Blk w2 w1.heap.size 4 (List.replicate (n + 1) (Value.bool false)).toArray) (hE1 : Below w.heap.size w w1) (hE2 : Below w1.heap.size w1 w2) :
    Wr w2 w.heap.size w.heap.size w1.heap.size n (stL n 1, List.replicate (n + 1) false) :=
  ⟨by
    have e : (strsC (stL n 1)) = List.replicate (n + 1) (Value.string ⟨#[]⟩) := by rw [stL_one]; simp [strsC, bsS]
    show Blk _ _ _ (strsC (stL n 1)).toArray
    rw [e]; exact h1.be hE2, by
    have e : (boolsC (List.replicate (n + 1) false)) = List.replicate (n + 1) (Value.bool false) := by simp [boolsC]
    show Blk _ _ _ (boolsC (List.replicate (n + 1) false)).toArray
    rw [e]; exact h2, stL_len n 1, by simp, ⟨Nat.le_refl _, hE1.size⟩, fun s hs => by
    obtain ⟨j, _, rfl⟩ := List.mem_map.1 hs
    split <;> decide⟩
set_option maxRecDepth 100000 in
set_option maxHeartbeats 16000000 in
theorem rverify_any (A : Option Addr) (n c : Nat) (l : List Ci) (w : World) (hI : Is w A n l) (hr : ∀ (j : Nat) (y : Ci), l[j]? = some y → rightI y (n : Nat) = true) (hn : n ≤ 200) :
    Calls Tryd.prog 15 #[.slice A n c] w (VyPost w n (verF l)) := by
  obtain ⟨i0, hi0, hx0, hx1, hx2⟩ := info_parts strInfoZ
  obtain ⟨j0, hj0, hy0, hy1, hy2⟩ := info_parts boolInfo
  obtain ⟨k0, hk0, hz0, hz1, hz2⟩ := info_parts intInfo
  have HL := Sl.mk hI.n_
  have HI : Sl (Ib w w.heap.size A n l) := Sl.mk ⟨hI.row, hI.len⟩
  have HRR := Sl.mk hr
  clear hI hr
  go_enter Tryd.func15, Tryd.ntmps15
  go_wp2_with (first
    | (refine wpList_make_blk rfl (.tmp 18) (.tmp 18) 35 rfl 9 i0 (.string ⟨#[]⟩) Tryd.underlying35 hi0 hx0 hx1 rfl (by rw [hx2]; omega) (n + 1) rfl rfl (by omega) ?_; intro w1 hB1 hE1 hS1)
    | (refine wpList_make_blk rfl (.tmp 22) (.tmp 22) 43 rfl 4 j0 (.bool false) Tryd.underlying43 hj0 hy0 hy1 rfl (by rw [hy2]; omega) (n + 1) rfl rfl (by omega) ?_; intro w2 hB2 hE2 hS2))
  have HW := Sl.mk (wr_new hB1 hB2 hE1 hE2)
  have HE := Sl.mk (below_tr hE1 hE2)
  rw [hS1] at HW
  clear hB1 hB2 hE1 hE2 hS1 hS2
  go_loopg [7] n (fun q v7 wr => ∃ i : Nat, q = n + 1 - i ∧ 1 ≤ i ∧ i ≤ n + 1 ∧ v7 = .int .i64 i ∧ Wr wr w.heap.size w.heap.size (w.heap.size + 1) n (stL n i, List.replicate (n + 1) false) ∧ Below w.heap.size w wr)
  case atStart => exact ⟨1, by omega, Nat.le_refl _, by omega, rfl, HW.out, HE.out⟩
  case round =>
    obtain ⟨i, hq, hi1, hi, rfl, hW, hE⟩ := hrel
    by_cases hlt : i ≤ n
    · have c1 := hW.gets hlt
      have f1 := hW.sts.frozen i
      have HW2 := Sl.mk (show Wr (wr.setCell ⟨w.heap.size, i, none⟩ (.string (bsS [45]))) w.heap.size w.heap.size (w.heap.size + 1) n (stL n (i + 1), List.replicate (n + 1) false) by
        have := hW.state (k := i) (s := [45]) (by decide)
        rw [stL_set n i hi1] at this
        exact this)
      have HE2 := Sl.mk (hE.setCell (p := ⟨w.heap.size, i, none⟩) hW.bb.1 (.string (bsS [45])))
      have hin : (i : Int) < (n : Int) + 1 := by omega
      clear hW hE HW HE
      go_wp2_with fail
      go_roundg (n - i)
      case measure => omega
      case rel => exact ⟨i + 1, by omega, by omega, by omega, by go_num, HW2.out, HE2.out⟩
    · obtain rfl : i = n + 1 := by omega
      have c1 := hW.gett (Nat.zero_le n)
      have f1 := hW.tod.frozen 0
      have HW2 := Sl.mk (show Wr (wr.setCell ⟨w.heap.size + 1, 0, none⟩ (.bool true)) w.heap.size w.heap.size (w.heap.size + 1) n (v0 n) by
        rw [v0_eq]
        exact hW.todo (k := 0) true)
      have HE2 := Sl.mk (hE.setCell (p := ⟨w.heap.size + 1, 0, none⟩) hW.bb.2 (.bool true))
      clear hW hE HW HE hlt hi hi1
      go_wp2_with fail
      go_loopg [8] ((3 * n + 3) * (n + 3) + (n + 2)) (fun q v8 wx => ∃ (v : Vs) (f at_ : Nat), q = f * (n + 3) + (n + 2 - at_) ∧ at_ ≤ n + 1 ∧ v8 = .int .i64 at_ ∧ leftV v ≤ f ∧ Sl (verF l = verV l f v ∧ ∀ j, j < at_ → v.2.getD j false = false) ∧ Wr wx w.heap.size w.heap.size (w.heap.size + 1) n v ∧ Below w.heap.size w wx)
      case atStart => exact ⟨v0 n, 3 * n + 3, 0, rfl, by omega, rfl, left_v0 n, ⟨by unfold verF; rw [HL.out], fun j hj => absurd hj (Nat.not_lt_zero _)⟩, HW2.out, HE2.out⟩
      case round =>
        clear HW2 HE2 c1 f1
        obtain ⟨v, f, at_, hq, ha, rfl, hlv, HF, hW, hE⟩ := hrel
        have hvl := hW.l2
        by_cases hlt : at_ ≤ n
        · have c1 := hW.gett hlt
          have f1 := hW.tod.frozen at_
          have HW1 := Sl.mk (hW.todo (k := at_) false)
          have HE1 := Sl.mk (hE.setCell (p := ⟨w.heap.size + 1, at_, none⟩) hW.bb.2 (.bool false))
          have hin : (at_ : Int) < (n : Int) + 1 := by omega
          have hav : at_ < v.2.length := by omega
          cases hb : v.2.getD at_ false
          · rw [hb] at c1
            rw [set_same _ _ _ (getD_some hav hb)] at HW1
            have HF1 := Sl.mk (show verF l = verV l f v ∧ ∀ j, j < at_ + 1 → v.2.getD j false = false from ⟨HF.out.1, fun j hj => by
              rcases Nat.lt_succ_iff_lt_or_eq.1 hj with h | rfl
              · exact HF.out.2 j h
              · exact hb⟩)
            have HQ := Sl.mk (show f * (n + 3) + (n + 2 - (at_ + 1)) < gk by omega)
            have HLV := Sl.mk hlv
            clear hb HF hq hW hE hlv hav
            go_wp2_with fail
            go_roundg (f * (n + 3) + (n + 2 - (at_ + 1)))
            case measure => exact HQ.out
            case rel => exact ⟨v, f, at_ + 1, rfl, by omega, by go_num, HLV.out, HF1, HW1.out, HE1.out⟩
          · rw [hb] at c1
            have hfi := first_todo hav hb HF.out.2
            have hdl := left_del (getD_some hav hb)
            obtain ⟨f', rfl⟩ : ∃ f', f = f' + 1 := ⟨f - 1, by omega⟩
            by_cases han : at_ = n
            · subst han
              have HF1 := Sl.mk (show verF l = verV l f' (v.1, v.2.set at_ false) ∧ ∀ j, j < at_ + 1 → (v.2.set at_ false).getD j false = false from ⟨by
                rw [HF.out.1]
                have := ver_end (l := l) (f := f') (by rw [hfi, HL.out])
                rw [HL.out] at this
                exact this, fun j hj => by
                rw [getD_set_b _ _ _ _ hav]
                by_cases e : j = at_
                · rw [if_pos e]
                · rw [if_neg e]; exact HF.out.2 j (by omega)⟩)
              have HQ := Sl.mk (show f' * (at_ + 3) + (at_ + 2 - (at_ + 1)) < gk by rw [hq, Nat.succ_mul]; omega)
              have HLV := Sl.mk (show leftV (v.1, v.2.set at_ false) ≤ f' by omega)
              clear hb HF hq hW hE hlv hav hfi hdl
              go_wp2_with fail
              go_roundg (f' * (at_ + 3) + (at_ + 2 - (at_ + 1)))
              case measure => exact HQ.out
              case rel => exact ⟨_, f', at_ + 1, rfl, by omega, by go_num, HLV.out, HF1, HW1.out, HE1.out⟩
            · have han' : at_ < n := by omega
              obtain ⟨⟨op, m, sx⟩, hx⟩ : ∃ x, l[at_]? = some x := ⟨_, List.getElem?_eq_getElem (by rw [HL.out]; exact han')⟩
              have HX := Sl.mk hx
              obtain ⟨W1, hW1⟩ : ∃ W1, wr.setCell ⟨w.heap.size + 1, at_, none⟩ (.bool false) = W1 := ⟨_, rfl⟩
              rw [hW1] at HW1 HE1
              have HWQ := Sl.mk hW1
              obtain ⟨ab, ao, rfl, hbl, hld, hql⟩ := (HI.out.be HE1.out).lit hx
              have hl0 := hld 0 _ rfl
              have hl1 := hld 1 _ rfl
              rw [Addr.add_lit] at hl0 hl1
              rw [Nat.add_zero] at hl0
              have HL1 := Sl.mk hl1
              obtain ⟨vA, hvA⟩ : ∃ vA : Vs, (v.1, v.2.set at_ false) = vA := ⟨_, rfl⟩
              have hA1 : vA.1 = v.1 := by rw [← hvA]
              have hA2 : vA.2 = v.2.set at_ false := by rw [← hvA]
              rw [hvA] at HW1 hdl
              have HF0 := Sl.mk (show verF l = verV l (f' + 1) v from HF.out.1)
              have HFI := Sl.mk hfi
              have HVA := Sl.mk hvA
              have HAN := Sl.mk (show at_ ≠ l.length by rw [HL.out]; exact han)
              have HLV := Sl.mk (show leftV vA ≤ f' by omega)
              have HTA := Sl.mk (show ∀ j, j ≤ at_ → vA.2.getD j false = false from fun j hj => by
                rw [hA2, getD_set_b _ _ _ _ hav]
                by_cases e : j = at_
                · rw [if_pos e]
                · rw [if_neg e]; exact HF.out.2 j (by omega))
              have HQ : Sl (∀ lo, f' * (n + 3) + (n + 2 - lo) < gk) := Sl.mk (fun lo => by rw [hq, Nat.succ_mul]; omega)
              have c2 := HW1.out.gets hlt
              obtain ⟨x, hvx⟩ : ∃ x, vA.1.getD at_ [] = x := ⟨_, rfl⟩
              have HVX := Sl.mk hvx
              rw [hvx] at c2
              have hx16 : x.length ≤ 16 := by
                have hk1 : at_ < vA.1.length := by have := HW1.out.l1; omega
                rw [← hvx, List.getD_eq_getElem?_getD, List.getElem?_eq_getElem hk1]
                exact HW1.out.slen _ (List.getElem_mem hk1)
              have han'i : (at_ : Int) < (n : Int) := by omega
              have hanb : ((at_ : Int) == n) = false := by simp; omega
              clear hb HF hq hW hE hlv hav hfi hdl hx hW1 hld hql hvA hA1 hA2 hvx han hl1 hvl
              go_upto_region 14 with fail
              rw [HWQ.out]
              refine wp_region_quiet_line 9 (by kernel_rfl) (by kernel_rfl) ?_
              simp only [List.take_succ_cons, List.take_zero, List.drop_succ_cons, List.drop_zero]
              repeat (any_goals (first | go_big_quiet_step (fail) | quiet_step (fail)))
              refine wpQuiet_nil ?_
              intro _ hw'
              obtain ⟨nq, hw''⟩ := hw'
              subst hw''
              obtain ⟨wd, hwd⟩ : ∃ wd, W1.drewN nq = wd := ⟨_, rfl⟩
              have HWd := Sl.mk (show Wr wd w.heap.size w.heap.size (w.heap.size + 1) n vA ∧ Below w.heap.size w wd by
                rw [← hwd]; exact ⟨HW1.out.be (below_drN (Below.refl _ _) nq), below_drN HE1.out nq⟩)
              rw [hwd]
              have HBE := Sl.mk (rbeh_any x op wd (by omega))
              obtain ⟨s, er, hbeh⟩ : ∃ s er, behF x op = (s, er) := ⟨_, _, rfl⟩
              rw [hbeh] at HBE
              have HBH := Sl.mk (show behF (vA.1.getD at_ []) op = (s, er) by rw [HVX.out]; exact hbeh)
              clear hbeh hwd c1 c2 f1 hl0 HW1 HE1 HWQ
              go_wp2_with fail
              refine HBE.out.mono ?_
              rintro e w3 ⟨rfl, kq, hw3⟩
              have HW3 := Sl.mk (show Wr w3 w.heap.size w.heap.size (w.heap.size + 1) n vA by rw [hw3]; exact HWd.out.1.be (below_drN (Below.refl _ _) kq))
              have HE3 := Sl.mk (show Below w.heap.size w w3 by rw [hw3]; exact below_drN HWd.out.2 kq)
              have HC3 : Sl (∀ W, Below w.heap.size w W → W.cell? ⟨ab, ao + at_ * 3, none⟩ = some (.int .i64 op) ∧ W.cell? ⟨ab, ao + at_ * 3 + 1, none⟩ = some (.int .i64 m)) := Sl.mk (fun W hW => by
                obtain ⟨b', o', e', hbl', hld', _⟩ := (HI.out.be hW).lit HX.out
                injection e' with e'
                injection e' with e1 e2
                subst e1 e2
                have h0 := hld' 0 _ rfl
                have h1 := hld' 1 _ rfl
                rw [Addr.add_lit] at h0 h1
                exact ⟨h0, h1⟩)
              have h0 := (HC3.out w3 HE3.out).1
              clear hw3 HBE HWd
              go_wp2_with fail
              refine NoPanic.normal ?_
              by_cases he : er = 0
              · subst he
                obtain ⟨hs16, hsn⟩ := beh_right HBH.out
                have hs45 := nt_ne hsn
                have HSK := Sl.mk (look_seq HX.out HBH.out)
                have HAL := Sl.mk (nextA_le op at_)
                have HBL := Sl.mk (nextB_le op m.toNat)
                obtain ⟨LA, hLA⟩ : ∃ LA, nextA op at_ = LA := ⟨_, rfl⟩
                obtain ⟨LB, hLB⟩ : ∃ LB, nextB op m.toNat = LB := ⟨_, rfl⟩
                rw [hLA] at HSK HAL
                rw [hLB] at HSK HBL
                have HLA := Sl.mk hLA
                have HLB := Sl.mk hLB
                have HR := Sl.mk (HRR.out at_ _ HX.out)
                clear hsn hLA hLB
                obtain ⟨bA, hbA⟩ : ∃ bA : Bool, bA = decide (op ≠ 0 ∧ op ≠ 11 ∧ op ≠ 21) := ⟨_, rfl⟩
                have HBA := Sl.mk hbA
                clear hbA
                go_upto_region 19 with fail
                go_cut [89] (fun v89 wx => v89 = .bool bA ∧ wx = w3)
                case first =>
                  by_cases hc : op ≠ 0 ∧ op ≠ 11 ∧ op ≠ 21
                  · have hb := Sl.mk (show bA = true by rw [HBA.out]; exact decide_eq_true hc)
                    have q0 : (op != 0) = true := by simpa using hc.1
                    have q1 : (op != 11) = true := by simpa using hc.2.1
                    have q2 : (op != 21) = true := by simpa using hc.2.2
                    clear hc
                    go_wp2_with fail
                    go_meet
                    exact ⟨by rw [hb.out], rfl⟩
                  · have hb := Sl.mk (show bA = false by rw [HBA.out]; exact decide_eq_false hc)
                    have hc2 : op = 0 ∨ op = 11 ∨ op = 21 := by omega
                    clear hc
                    rcases hc2 with rfl | rfl | rfl
                    all_goals
                      go_wp2_with fail
                      go_meet
                      exact ⟨by rw [hb.out], rfl⟩
                case rest =>
                obtain ⟨rfl, hwc⟩ := hcut
                have hwc' := hwc.symm
                subst hwc'
                clear hwc
                go_upto_if 89 with fail
                go_cut [12] (fun v12 wx => ∃ A12 c12, v12 = .slice A12 LA.length c12 ∧ wx.ownsRow w3.heap.size 3 1 (.slice A12 LA.length c12) LA.length (natsC LA) ∧ Below w3.heap.size w3 wx)
                case first =>
                  cases hbA : bA
                  · have hla : LA = [] := by
                      rw [← HLA.out]; unfold nextA; rw [if_neg]
                      exact of_decide_eq_false (by rw [← HBA.out, hbA])
                    have HLA2 := Sl.mk hla
                    clear hla
                    go_wp2_with fail
                    go_meet
                    rw [HLA2.out]
                    exact ⟨none, 0, rfl, World.ownsRow_nil _ _ _ _, Below.refl _ _⟩
                  · have hla : LA = [at_ + 1] := by
                      rw [← HLA.out]; unfold nextA; rw [if_pos]
                      exact of_decide_eq_true (by rw [← HBA.out, hbA])
                    have HLA2 := Sl.mk hla
                    clear hla
                    go_wp2_with (refine wpList_append_any _ rfl (.tmp 90) (.tmp 93) 74 rfl w3.heap.size 3 k0 (.int .i64 0) 1 8 Tryd.underlying74 hk0 hz0 hz1 hz2 rfl (by decide) (.slice none 0 0) 0 [] rfl (World.ownsRow_nil _ _ _ _) (w3.heap.size + 1) _ 1 1 [.int .i64 ((at_ : Int) + 1)] rfl (reads_new1 w3 _ _ (Nat.lt_succ_self _)) (by intro u hu; simp at hu; subst hu; rfl) (by unfold maxLen; omega) (by omega) ?_ ?_; exact (below_al (Below.refl w3.heap.size w3) _).size; (intro v6 w6 hown6 hg6 _; have HO6 := Sl.mk hown6; have HE6 := Sl.mk ((below_al (Below.refl w3.heap.size w3) (.cells #[.int .i64 ((at_ : Int) + 1)] 3)).grown hg6 (below_al (Below.refl w3.heap.size w3) _).size (fun q hq => by simp [Value.ownBlock] at hq)); clear hown6 hg6))
                    go_meet
                    have h6 := HO6.out
                    obtain ⟨A6, c6, rfl⟩ := ownForm h6
                    rw [HLA2.out]
                    exact ⟨A6, c6, rfl, h6, HE6.out⟩
                case rest =>
                obtain ⟨A12, c12, rfl, hown, hE12⟩ := hcut
                obtain ⟨w4, hw4⟩ : ∃ w4, w4 = wc := ⟨_, rfl⟩
                subst hw4
                have HW4 := Sl.mk (HW3.out.be hE12)
                have HE4 := Sl.mk (below_tr HE3.out hE12)
                have HB4 := Sl.mk hE12
                have HO4 := Sl.mk hown
                have h0 := (HC3.out w4 HE4.out).1
                clear hown hE12 HBA
                obtain ⟨bB, hbB⟩ : ∃ bB : Bool, bB = decide (op = 11 ∨ op = 12) := ⟨_, rfl⟩
                have HBB := Sl.mk hbB
                clear hbB
                go_upto_region 21 with fail
                go_cut [100] (fun v100 wx => v100 = .bool bB ∧ wx = w4)
                case first =>
                  by_cases h11 : op = 11
                  · subst h11
                    have hb := Sl.mk (show bB = true by rw [HBB.out]; rfl)
                    go_wp2_with fail
                    go_meet
                    exact ⟨by rw [hb.out], rfl⟩
                  · by_cases h12 : op = 12
                    · subst h12
                      have hb := Sl.mk (show bB = true by rw [HBB.out]; rfl)
                      go_wp2_with fail
                      go_meet
                      exact ⟨by rw [hb.out], rfl⟩
                    · have hb := Sl.mk (show bB = false by rw [HBB.out]; exact decide_eq_false (fun c => c.elim h11 h12))
                      have q1 : (op == 11) = false := beq_eq_false_iff_ne.2 h11
                      have q2 : (op == 12) = false := beq_eq_false_iff_ne.2 h12
                      clear h11 h12
                      go_wp2_with fail
                      go_meet
                      exact ⟨by rw [hb.out], rfl⟩
                case rest =>
                obtain ⟨rfl, hwc⟩ := hcut
                have hwc' := hwc.symm
                subst hwc'
                clear hwc
                have h1 := (HC3.out w4 HE4.out).2
                go_upto_if 100 with fail
                go_cut [12] (fun v12 wx => ∃ A12 c12, v12 = .slice A12 (LA ++ LB).length c12 ∧ wx.ownsRow w3.heap.size 3 1 (.slice A12 (LA ++ LB).length c12) (LA ++ LB).length (natsC (LA ++ LB)) ∧ Below w3.heap.size w3 wx)
                case first =>
                  cases hbB : bB
                  · have hla : LB = [] := by
                      rw [← HLB.out]; unfold nextB; rw [if_neg]
                      exact of_decide_eq_false (by rw [← HBB.out, hbB])
                    have HLA2 := Sl.mk hla
                    clear hla
                    go_wp2_with fail
                    go_meet
                    rw [HLA2.out, List.append_nil]
                    exact ⟨A12, c12, rfl, HO4.out, HB4.out⟩
                  · have hop : op = 11 ∨ op = 12 := of_decide_eq_true (by rw [← HBB.out, hbB])
                    have hm := right_in HR.out hop
                    have hla : LB = [m.toNat] := by
                      rw [← HLB.out]; unfold nextB; rw [if_pos hop]
                    have HLA2 := Sl.mk hla
                    have HMT := Sl.mk (show ((m.toNat : Nat) : Int) = m from Int.toNat_of_nonneg hm.1)
                    have hla1 := HAL.out.1
                    clear hla hop hm
                    go_wp2_with (refine wpList_append_any _ rfl (.tmp 101) (.tmp 107) 74 rfl w3.heap.size 3 k0 (.int .i64 0) 1 8 Tryd.underlying74 hk0 hz0 hz1 hz2 rfl (by decide) (.slice A12 LA.length c12) LA.length (natsC LA) rfl (HO4.out.alloc _) (w4.heap.size + 1) _ 1 1 [.int .i64 m] rfl (reads_new1 w4 _ _ (Nat.lt_succ_self _)) (by intro u hu; simp at hu; subst hu; rfl) (by unfold maxLen; omega) (by omega) (by have := HB4.out.size; simp; omega) ?_; intro v6 w6 hown6 hg6 _; have HO6 := Sl.mk hown6; have HE6 := Sl.mk ((HB4.out.alloc HB4.out.size _).grown hg6 (by have := HB4.out.size; simp; omega) (fun q hq => ownGe HO4.out hq)); clear hown6 hg6)
                    go_meet
                    have h6 := HO6.out
                    obtain ⟨A6, c6, rfl⟩ := ownForm h6
                    rw [HLA2.out, List.length_append]
                    refine ⟨A6, c6, rfl, ?_, HE6.out⟩
                    have e : natsC (LA ++ [m.toNat]) = natsC LA ++ [.int .i64 m] := by simp only [natsC, List.map_append, List.map_cons, List.map_nil]; rw [HMT.out]
                    rw [e]
                    exact h6
                case rest =>
                obtain ⟨A5, c5, rfl, hown, hE5⟩ := hcut
                obtain ⟨w5, hw5⟩ : ∃ w5, w5 = wc := ⟨_, rfl⟩
                subst hw5
                have HKL := Sl.mk (show ∀ k ∈ LA ++ LB, k ≤ n from fun k hk => by
                  rcases List.mem_append.1 hk with h | h
                  · have := HAL.out.2 k h; omega
                  · obtain ⟨h2, h3⟩ := HBL.out.2 k h
                    have := right_in HR.out h3; omega)
                have hll : (LA ++ LB).length ≤ 2 := by rw [List.length_append]; have := HAL.out.1; have := HBL.out.1; omega
                obtain ⟨L, hLL⟩ : ∃ L, LA ++ LB = L := ⟨_, rfl⟩
                rw [hLL] at HKL hll hown HSK ⊢
                have HW5 := Sl.mk (HW3.out.be hE5)
                have HE5 := Sl.mk (below_tr HE3.out hE5)
                have HSZ3 := Sl.mk (show w.heap.size < w3.heap.size ∧ w.heap.size + 1 < w3.heap.size from ⟨HW3.out.sts.lt, HW3.out.tod.lt⟩)
                have HCL := Sl.mk (show ∀ j, j < L.length → ∃ g, A5 = some ⟨g, 0, none⟩ ∧ w3.heap.size ≤ g ∧ w5.cell? ⟨g, j, none⟩ = some (.int .i64 ((L.getD j 0 : Nat) : Int)) from fun j hj => by
                  obtain ⟨g, c', hv, hg1, _, hc⟩ := ownCells hown (by omega)
                  injection hv with e1
                  exact ⟨g, e1, hg1, hc j _ (by unfold natsC; rw [List.getElem?_map, List.getElem?_eq_getElem hj, List.getD_eq_getElem?_getD, List.getElem?_eq_getElem hj]; rfl)⟩)
                have HS45 := Sl.mk hs45
                clear hown hE5 hLL h1 h0 HBB HLA HLB HO4 HB4 HE4 HW4 HAL HBL hs45
                go_wp2_with fail
                go_loopg [13, 14] L.length (fun q v13 v14 wy => ∃ (v' : Vs) (i lo : Nat), q = L.length - i ∧ i ≤ L.length ∧ v14 = .int .i64 i ∧ v13 = .int .i64 lo ∧ lo ≤ at_ + 1 ∧ Sl (seqV s vA L = seqV s v' (L.drop i) ∧ ∀ j, j < lo → v'.2.getD j false = false) ∧ Wr wy w.heap.size w.heap.size (w.heap.size + 1) n v' ∧ Below w.heap.size w wy ∧ Sl (∀ j, j < L.length → ∃ g, A5 = some ⟨g, 0, none⟩ ∧ w3.heap.size ≤ g ∧ wy.cell? ⟨g, j, none⟩ = some (.int .i64 ((L.getD j 0 : Nat) : Int))))
                case atStart => exact ⟨vA, 0, at_ + 1, rfl, Nat.zero_le _, rfl, rfl, Nat.le_refl _, ⟨rfl, fun j hj => HTA.out j (by omega)⟩, HW5.out, HE5.out, HCL⟩
                case round =>
                  clear HW5 HE5 HCL
                  obtain ⟨v', i, lo, hq', hi, rfl, rfl, hlo, HS, hW, hE, HCC⟩ := hrel
                  by_cases hil : i < L.length
                  · obtain ⟨g, rfl, hg3, hck⟩ := HCC.out i hil
                    obtain ⟨k, hk⟩ : ∃ k, L.getD i 0 = k := ⟨_, rfl⟩
                    rw [hk] at hck
                    have hLi : L[i]? = some k := by rw [List.getD_eq_getElem?_getD, List.getElem?_eq_getElem hil] at hk; rw [List.getElem?_eq_getElem hil]; exact congrArg some hk
                    have hkn : k ≤ n := HKL.out k (List.mem_of_getElem? hLi)
                    have hkN : (k : Int) < (n : Int) + 1 := by omega
                    have hdr : L.drop i = k :: L.drop (i + 1) := by
                      obtain ⟨h1, h2⟩ := List.getElem?_eq_some_iff.1 hLi
                      rw [List.drop_eq_getElem_cons h1, h2]
                    have hsq := HS.out.1
                    rw [hdr, seqV] at hsq
                    have d1 := hW.gets hkn
                    have f1 := hW.sts.frozen k
                    obtain ⟨y, hy⟩ : ∃ y, v'.1.getD k [] = y := ⟨_, rfl⟩
                    rw [hy] at d1
                    have e1 : ((bsS y).toList == [45]) = decide (y = [45]) := by have := bs_beq y [45]; rw [bs_list [45]] at this; exact this
                    have hk1 : k < v'.1.length := by have := hW.l1; omega
                    have hk2 : k < v'.2.length := by have := hW.l2; omega
                    have HQI := Sl.mk (show L.length - (i + 1) < gk ∧ i + 1 ≤ L.length by omega)
                    have hiw : (i : Int) < L.length := by omega
                    by_cases hd : y = [45]
                    · subst hd
                      rw [decide_eq_true rfl] at e1
                      have hre : reachV v' k s = (v'.1.set k s, v'.2.set k true) := by unfold reachV; rw [hy, if_pos rfl]
                      rw [hre, if_pos (by simp only; rw [List.getD_eq_getElem?_getD, List.getElem?_set_self hk1]; rfl)] at hsq
                      have hW1 := hW.state (k := k) hs16
                      have d2 := hW1.gett hkn
                      have f2 := hW1.tod.frozen k
                      have hW2 := hW1.todo (k := k) true
                      have d3 := hW2.gets hkn
                      rw [show ((v'.1.set k s, v'.2.set k true) : Vs).1.getD k [] = s by simp only; rw [List.getD_eq_getElem?_getD, List.getElem?_set_self hk1]; rfl] at d3
                      simp only at d2
                      have HW2 := Sl.mk hW2
                      have HE2 := Sl.mk ((hE.setCell (p := ⟨w.heap.size, k, none⟩) hW.bb.1 (.string (bsS s))).setCell (p := ⟨w.heap.size + 1, k, none⟩) hW.bb.2 (.bool true))
                      have HCC2 := Sl.mk (show ∀ j, j < L.length → ∃ g', (some ⟨g, 0, none⟩ : Option Addr) = some ⟨g', 0, none⟩ ∧ w3.heap.size ≤ g' ∧ ((wr.setCell ⟨w.heap.size, k, none⟩ (.string (bsS s))).setCell ⟨w.heap.size + 1, k, none⟩ (.bool true)).cell? ⟨g', j, none⟩ = some (.int .i64 ((L.getD j 0 : Nat) : Int)) from fun j hj => by
                        obtain ⟨g', e', hg', hc'⟩ := HCC.out j hj
                        have hz := HSZ3.out
                        refine ⟨g', e', hg', ?_⟩
                        rw [World.cell?_setCell_other _ _ _ _ (fun e => by have := congrArg Addr.block e; simp at this; omega), World.cell?_setCell_other _ _ _ _ (fun e => by have := congrArg Addr.block e; simp at this; omega)]
                        exact hc')
                      obtain ⟨mn, hmn⟩ : ∃ mn : Nat, min (lo : Int) (k : Int) = mn := ⟨min lo k, by omega⟩
                      have HSQ := Sl.mk (show seqV s vA L = seqV s (v'.1.set k s, v'.2.set k true) (L.drop (i + 1)) ∧ ∀ j, j < mn → (v'.2.set k true).getD j false = false from ⟨hsq, fun j hj => by
                        rw [getD_set_b _ _ _ _ hk2, if_neg (by omega)]
                        exact HS.out.2 j (by omega)⟩)
                      have hml : mn ≤ at_ + 1 := by omega
                      clear hsq hre hW1 hW2 hW hE HCC HS hdr hLi hk hy hq'
                      go_wp2_with fail
                      go_roundg (L.length - (i + 1))
                      case measure => exact HQI.out.1
                      case rel => exact ⟨_, i + 1, mn, rfl, HQI.out.2, by go_num, rfl, hml, HSQ, HW2.out, HE2.out, HCC2⟩
                    · rw [decide_eq_false hd] at e1
                      have hre : reachV v' k s = v' := by unfold reachV; rw [hy, if_neg hd]
                      rw [hre, hy] at hsq
                      by_cases hys : y = s
                      · subst hys
                        rw [if_pos rfl] at hsq
                        have HSQ := Sl.mk (show seqV y vA L = seqV y v' (L.drop (i + 1)) ∧ ∀ j, j < lo → v'.2.getD j false = false from ⟨hsq, HS.out.2⟩)
                        have HW2 := Sl.mk hW
                        have HE2 := Sl.mk hE
                        clear hsq hre hW hE HS hdr hLi hk hy hd hq'
                        go_wp2_with fail
                        go_roundg (L.length - (i + 1))
                        case measure => exact HQI.out.1
                        case rel => exact ⟨v', i + 1, lo, rfl, HQI.out.2, by go_num, rfl, hlo, HSQ, HW2.out, HE2.out, HCC⟩
                      · rw [if_neg hys] at hsq
                        have e2 : ((bsS y).toList == (bsS s).toList) = false := by
                          have := bs_beq y s
                          rw [decide_eq_false hys] at this
                          exact this
                        have HL2 := Sl.mk (show verF l = ([], k, 17) by
                          rw [HF0.out]
                          refine ver_bad (v2 := v') HFI.out HAN.out ?_
                          rw [HVA.out, HSK.out]
                          exact hsq)
                        have HE2 := Sl.mk hE
                        clear hsq hre hW hE HS hdr hLi hk hy hd hys hq'
                        go_wp2_with fail
                        go_ret3
                        refine ⟨HE2.out, ?_⟩
                        rw [HL2.out, if_neg (show ¬ (17 : Int) = 0 by decide)]
                        rfl
                  · obtain rfl : i = L.length := by omega
                    have hsq := HS.out.1
                    rw [List.drop_length, seqV] at hsq
                    have hlk : lookV l vA at_ = (v', none) := by rw [HSK.out]; exact hsq
                    have HS2 := Sl.mk (show verF l = verV l f' v' ∧ ∀ j, j < lo → v'.2.getD j false = false from ⟨by
                      rw [HF0.out]
                      exact ver_go HFI.out HAN.out (by rw [HVA.out]; exact hlk), HS.out.2⟩)
                    have HLV2 := Sl.mk (show leftV v' ≤ f' from Nat.le_trans (left_look HX.out hlk) HLV.out)
                    have HW2 := Sl.mk hW
                    have HE2 := Sl.mk hE
                    have hlo2 : lo ≤ n + 1 := by omega
                    clear hsq hlk hW hE HS hq'
                    go_wp2_with fail
                    go_roundg (f' * (n + 3) + (n + 2 - lo))
                    case measure => exact HQ.out lo
                    case rel => exact ⟨v', f', lo, rfl, hlo2, rfl, HLV2.out, HS2, HW2.out, HE2.out⟩
              · have hen : (er != 0) = true := by simpa using he
                have HL2 := Sl.mk (show verF l = ([], at_, er) by
                  rw [HF0.out]
                  refine ver_bad (v2 := vA) HFI.out HAN.out ?_
                  rw [HVA.out]
                  exact look_err HX.out HBH.out he)
                have HEN := Sl.mk he
                clear he
                go_wp2_with fail
                go_ret3
                refine ⟨HE3.out, ?_⟩
                rw [HL2.out, if_neg HEN.out]
                rfl
        · obtain rfl : at_ = n + 1 := by omega
          have HVN := Sl.mk (show verF l = (v.1, n, 0) by rw [HF.out.1, ver_none (no_todo fun j hj => HF.out.2 j (by omega)), HL.out])
          have HW := Sl.mk hW
          have HE := Sl.mk hE
          clear hW hE hlt hlv HF hq hvl
          go_wp2_with fail
          go_ret3
          refine ⟨HE.out, ?_⟩
          rw [HVN.out, if_pos rfl]
          exact ⟨_, rfl, Nat.le_refl _, HW.out.sts.lt, HW.out.sts, HW.out.l1, HW.out.slen⟩
end Go.Proofs.YtliealcdiogilaaDoor
