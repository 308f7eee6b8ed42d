/-
  The walk of the verifier's look.
-/
import Derived.Test.YtliealcdiogilaaDoorCoN
namespace Go.Proofs.YtliealcdiogilaaDoor
open Go.RowKit
attribute [local go_sem ↓] Go.wp_at_zero Go.wp_at_succ

/-- A program that lies below a base. -/
structure Ib (w : World) (base : Nat) (A : Option Addr) (n : Nat) (l : List Ci) : Prop where
  row : Reads w base 3 A n (isC l)
  len : ∀ x ∈ l, x.s.length ≤ 1000000
theorem Ib.be {w w' : World} {base n : Nat} {A : Option Addr} {l : List Ci} (h : Ib w base A n l) (hb : Below base w w') : Ib w' base A n l := ⟨h.row.below hb, h.len⟩
theorem Ib.is {w : World} {base n : Nat} {A : Option Addr} {l : List Ci} (h : Ib w base A n l) (hb : base ≤ w.heap.size) : Is w A n l := ⟨h.row.more hb, h.len⟩
theorem Ib.lit {w : World} {base n : Nat} {A : Option Addr} {l : List Ci} (h : Ib w base A n l) {i : Nat} {x : Ci} (hi : l[i]? = some x) :
    ∃ b o, A = some ⟨b, o, none⟩ ∧ b < base ∧ (∀ j v, (iC x)[j]? = some v → w.cell? ((⟨b, o + i * 3, none⟩ : Addr).add j) = some v) ∧ x.s.length ≤ 1000000 := by
  have hil : i < l.length := (List.getElem?_eq_some_iff.1 hi).1
  have hl := h.row.1
  rw [isC_len] at hl
  obtain ⟨ad, e', hb, hcc⟩ := h.row.2 (by omega)
  have hlen : 0 < (isC l).length := by rw [isC_len]; omega
  have e := addr_lit (hcc 0 _ (List.getElem?_eq_getElem hlen))
  refine ⟨ad.block, ad.off, by rw [← e]; exact e', hb, fun j v hv => ?_, h.len x (List.mem_of_getElem? hi)⟩
  have h1 := hcc _ v (isC_at l i x hi j v hv)
  rw [e, Addr.add_lit] at h1
  rw [Addr.add_lit, Nat.add_assoc]
  exact h1
theorem right_in {op m n : Int} {q : List UInt8} (h : rightI ⟨op, m, q⟩ n = true) (ho : op = 11 ∨ op = 12) : 0 ≤ m ∧ m ≤ n := by
  unfold rightI at h
  rcases ho with rfl | rfl <;> simp at h <;> exact ⟨h.1.2, h.2⟩

set_option maxRecDepth 100000 in
set_option maxHeartbeats 16000000 in
theorem look_any (base vb sb mb : Nat) (A : Option Addr) (n c k : Nat) (v : Vs) (l : List Ci) (w : World) (hV : Vr w base vb sb mb A n c v) (hI : Ib w base A n l) (hP : Spw w base) (hr : ∀ (j : Nat) (y : Ci), l[j]? = some y → rightI y (n : Nat) = true) (hk : k < n) (hn : n ≤ 200) (hbw : base ≤ w.heap.size) :
    Calls Tryd.prog 48 #[.pointer (some ⟨vb, 0, none⟩), .int .i64 k] w (LkPost w base vb sb mb A n c (lookV l v k)) := by
  have hl := hI.row.1
  rw [isC_len] at hl
  obtain ⟨⟨op, m, q⟩, hx⟩ : ∃ x, l[k]? = some x := ⟨_, List.getElem?_eq_getElem (by omega)⟩
  obtain ⟨ab, ao, rfl, hbl, hld, hql⟩ := hI.lit hx
  have HR := Sl.mk (hr k _ hx)
  have HX := Sl.mk hx
  have HV := Sl.mk hV
  have hk1 : k < v.1.length := by have := hV.l1; omega
  obtain ⟨x, hvx⟩ : ∃ x, v.1.getD k [] = x := ⟨_, rfl⟩
  have hx16 : x.length ≤ 16 := by
    rw [← hvx, List.getD_eq_getElem?_getD, List.getElem?_eq_getElem hk1]
    exact hV.slen _ (List.getElem_mem hk1)
  have d0 := hV.blk.cell 0
  have d1 := hV.blk.cell 1
  have d2 := (hV.sts.cell k).trans (strsC_get hk1)
  rw [hvx] at d2
  have hkN : (k : Int) < (n : Int) + 1 := by omega
  have hkn : (k : Int) < (n : Int) := by omega
  obtain ⟨w1, hw1⟩ : ∃ w1, w.alloc (.cells #[.int .i64 op, .int .i64 m, .string (bsS q)] 45) = w1 := ⟨_, rfl⟩
  have hB1 := Blk.new w 45 #[.int .i64 op, .int .i64 m, .string (bsS q)]
  have hE1 := below_al (Below.refl w.heap.size w) (.cells #[.int .i64 op, .int .i64 m, .string (bsS q)] 45)
  rw [hw1] at hB1 hE1
  have HW1 := Sl.mk hw1
  have HB1 := Sl.mk hB1
  have HE1 := Sl.mk hE1
  have HI := Sl.mk hI
  have HP := Sl.mk hP
  have HVX := Sl.mk hvx
  clear hl hx hql hV hvx hw1 hB1 hE1 hI hP hr
  go_enter Tryd.func48, Tryd.ntmps48
  go_upto_region 2 with (refine ld_i hld rfl (.tmp 14) rfl rfl ?_)
  rw [HW1.out]
  have g0 := HB1.out.cell 0
  have HV0 := Sl.mk (HV.out.be HE1.out)
  have t1 := HV0.out.blk.cell 1
  have t2 := (HV0.out.sts.cell k).trans (strsC_get hk1)
  rw [HVX.out] at t2
  clear d0 d1 d2 hld
  refine wp_region_quiet_line 9 (by kernel_rfl) (by kernel_rfl) ?_
  simp only [List.take_succ_cons, List.take_zero, List.drop_succ_cons, List.drop_zero]
  repeat (any_goals (first | go_big_quiet_step (fail) | quiet_step (fail)))
  refine wpQuiet_nil ?_
  intro _ hw'
  obtain ⟨nq, hw''⟩ := hw'
  subst hw''
  obtain ⟨wd, hwd⟩ : ∃ wd, w1.drewN nq = wd := ⟨_, rfl⟩
  have HD : Sl (Blk wd w.heap.size 45 #[.int .i64 op, .int .i64 m, .string (bsS q)] ∧ Below w.heap.size w wd) := Sl.mk (by rw [← hwd]; exact ⟨HB1.out.drewN nq, below_drN HE1.out nq⟩)
  have HVd := Sl.mk (HV.out.be HD.out.2)
  rw [hwd]
  clear hwd
  have hbd : base ≤ wd.heap.size := Nat.le_trans hbw HD.out.2.size
  have HBW := Sl.mk (Below.mono HD.out.2 hbw)
  have HBE := Sl.mk (behind_any x op wd (by omega) (HP.out.be HBW.out |>.mono hbd))
  unfold BehPost at HBE
  obtain ⟨s, er, hbeh⟩ : ∃ s er, behF x op = (s, er) := ⟨_, _, rfl⟩
  rw [hbeh] at HBE
  have HBH := Sl.mk (show behF (v.1.getD k []) op = (s, er) by rw [HVX.out]; exact hbeh)
  clear hbeh t1 t2 g0
  go_wp2_with fail
  refine HBE.out.mono ?_
  rintro e w2 ⟨rfl, hb2⟩
  have HX2 := Sl.mk (HD.out.1.be hb2)
  have HV2 := Sl.mk (HVd.out.be hb2)
  have HE2 := Sl.mk (show Below base w w2 from HBW.out.trans (hb2.mono hbd))
  have HS2 := Sl.mk (show base ≤ w2.heap.size from Nat.le_trans hbd hb2.size)
  have g0 := HX2.out.cell 0
  have g1 := HX2.out.cell 1
  clear hb2 HBE HVd
  go_wp2_with fail
  refine NoPanic.normal ?_
  by_cases he : er = 0
  · subst he
    obtain ⟨hs16, hsn⟩ := beh_right HBH.out
    have hs45 := nt_ne hsn
    clear hsn
    by_cases h0 : op = 0
    · subst h0
      have HL := Sl.mk (look_stop (l := l) HX.out HBH.out (by decide))
      go_wp2_with fail
      go_ret2
      exact ⟨HE2.out, by rw [HL.out]; exact ⟨rfl, HV2.out⟩⟩
    by_cases h21 : op = 21
    · subst h21
      have HL := Sl.mk (look_stop (l := l) HX.out HBH.out (by decide))
      go_wp2_with fail
      go_ret2
      exact ⟨HE2.out, by rw [HL.out]; exact ⟨rfl, HV2.out⟩⟩
    by_cases h11 : op = 11
    · subst h11
      obtain ⟨hm0, hmn⟩ := right_in HR.out (Or.inl rfl)
      obtain ⟨j, rfl⟩ : ∃ j : Nat, m = j := ⟨m.toNat, by omega⟩
      have hj : j ≤ n := by omega
      have HL := look_jump (l := l) HX.out HBH.out
      rw [Int.toNat_natCast] at HL
      have RC1 := Sl.mk (reach_any base vb sb mb (some ⟨ab, ao, none⟩) n c j v s w2 HV2.out hj (by omega) hs45 hs16 HS2.out)
      unfold RcPost at RC1
      obtain ⟨V1, hV1⟩ : ∃ V1, reachV v j s = V1 := ⟨_, rfl⟩
      rw [hV1] at HL RC1
      by_cases hg : V1.1.getD j [] = s
      · rw [decide_eq_true hg] at RC1
        rw [if_pos hg] at HL
        have HL := Sl.mk HL
        clear hg hV1
        go_wp2_with (go_at_call 44; refine RC1.out.mono ?_; rintro e w3 ⟨rfl, hv3, hb3, hkp3⟩; have HV3 := Sl.mk hv3; have HE3 := Sl.mk (show Below base w w3 from HE2.out.trans hb3); have HX3 := Sl.mk (hkp3 _ _ HX2.out); have p0 := HX3.out.cell 0; have p1 := HX3.out.cell 1; clear hv3 hb3 hkp3)
        go_ret2
        exact ⟨HE3.out, by rw [HL.out]; exact ⟨rfl, HV3.out⟩⟩
      · rw [decide_eq_false hg] at RC1
        rw [if_neg hg] at HL
        have HL := Sl.mk HL
        clear hg hV1
        go_wp2_with (go_at_call 44; refine RC1.out.mono ?_; rintro e w3 ⟨rfl, hv3, hb3, hkp3⟩; have HV3 := Sl.mk hv3; have HE3 := Sl.mk (show Below base w w3 from HE2.out.trans hb3); have HX3 := Sl.mk (hkp3 _ _ HX2.out); have p0 := HX3.out.cell 0; have p1 := HX3.out.cell 1; clear hv3 hb3 hkp3)
        go_ret2
        exact ⟨HE3.out, by rw [HL.out]; rfl⟩
    by_cases h12 : op = 12
    · subst h12
      obtain ⟨hm0, hmn⟩ := right_in HR.out (Or.inr rfl)
      obtain ⟨j, rfl⟩ : ∃ j : Nat, m = j := ⟨m.toNat, by omega⟩
      have hj : j ≤ n := by omega
      have HL := look_none (l := l) HX.out HBH.out
      rw [Int.toNat_natCast] at HL
      obtain ⟨K, hK⟩ : ∃ K, k + 1 = K := ⟨_, rfl⟩
      have hKn : K ≤ n := by omega
      have hKi : (k : Int) + 1 = K := by omega
      have hKw : IntKind.i64.wrap (K : Int) = K := IntWalk.i64_in _ (by omega)
      rw [hK] at HL
      have RC1 := Sl.mk (reach_any base vb sb mb (some ⟨ab, ao, none⟩) n c K v s w2 HV2.out hKn (by omega) hs45 hs16 HS2.out)
      unfold RcPost at RC1
      obtain ⟨V1, hV1⟩ : ∃ V1, reachV v K s = V1 := ⟨_, rfl⟩
      rw [hV1] at HL RC1
      clear hK
      by_cases hg : V1.1.getD K [] = s
      · rw [decide_eq_true hg] at RC1
        rw [if_pos hg] at HL
        have RC2 := Sl.mk (fun W (hW : Vr W base vb sb mb (some ⟨ab, ao, none⟩) n c V1) (hs : base ≤ W.heap.size) => reach_any base vb sb mb (some ⟨ab, ao, none⟩) n c j V1 s W hW hj (by omega) hs45 hs16 hs)
        unfold RcPost at RC2
        obtain ⟨V2, hV2⟩ : ∃ V2, reachV V1 j s = V2 := ⟨_, rfl⟩
        rw [hV2] at HL RC2
        by_cases hg2 : V2.1.getD j [] = s
        · rw [decide_eq_true hg2] at RC2
          rw [if_pos hg2] at HL
          have HL := Sl.mk HL
          clear hg hV1 hg2 hV2
          go_wp2_with fail
          refine RC1.out.mono ?_
          rintro e w3 ⟨rfl, hv3, hb3, hkp3⟩
          have HV3 := Sl.mk hv3
          have HE3 := Sl.mk (show Below base w w3 from HE2.out.trans hb3)
          have HX3 := Sl.mk (hkp3 _ _ HX2.out)
          have p0 := HX3.out.cell 0
          have p1 := HX3.out.cell 1
          have HSZ3 := Sl.mk hb3.size
          clear hv3 hb3 hkp3
          go_wp2_with fail
          refine (RC2.out _ HV3.out (Nat.le_trans HS2.out HSZ3.out)).mono ?_
          rintro e w4 ⟨rfl, hv4, hb4, hkp4⟩
          have HV4 := Sl.mk hv4
          have HE4 := Sl.mk (show Below base w w4 from HE3.out.trans hb4)
          have HX4 := Sl.mk (hkp4 _ _ HX3.out)
          have q1 := HX4.out.cell 1
          clear hv4 hb4 hkp4
          go_wp2_with fail
          go_ret2
          exact ⟨HE4.out, by rw [HL.out]; exact ⟨rfl, HV4.out⟩⟩
        · rw [decide_eq_false hg2] at RC2
          rw [if_neg hg2] at HL
          have HL := Sl.mk HL
          clear hg hV1 hg2 hV2
          go_wp2_with fail
          refine RC1.out.mono ?_
          rintro e w3 ⟨rfl, hv3, hb3, hkp3⟩
          have HV3 := Sl.mk hv3
          have HE3 := Sl.mk (show Below base w w3 from HE2.out.trans hb3)
          have HX3 := Sl.mk (hkp3 _ _ HX2.out)
          have p0 := HX3.out.cell 0
          have p1 := HX3.out.cell 1
          have HSZ3 := Sl.mk hb3.size
          clear hv3 hb3 hkp3
          go_wp2_with fail
          refine (RC2.out _ HV3.out (Nat.le_trans HS2.out HSZ3.out)).mono ?_
          rintro e w4 ⟨rfl, hv4, hb4, hkp4⟩
          have HV4 := Sl.mk hv4
          have HE4 := Sl.mk (show Below base w w4 from HE3.out.trans hb4)
          have HX4 := Sl.mk (hkp4 _ _ HX3.out)
          have q1 := HX4.out.cell 1
          clear hv4 hb4 hkp4
          go_wp2_with fail
          go_ret2
          exact ⟨HE4.out, by rw [HL.out]; rfl⟩
      · rw [decide_eq_false hg] at RC1
        rw [if_neg hg] at HL
        have HL := Sl.mk HL
        clear hg hV1
        go_wp2_with (go_at_call 44; refine RC1.out.mono ?_; rintro e w3 ⟨rfl, hv3, hb3, hkp3⟩; have HV3 := Sl.mk hv3; have HE3 := Sl.mk (show Below base w w3 from HE2.out.trans hb3); have HX3 := Sl.mk (hkp3 _ _ HX2.out); have p0 := HX3.out.cell 0; have p1 := HX3.out.cell 1; clear hv3 hb3 hkp3)
        go_ret2
        exact ⟨HE3.out, by rw [HL.out]; rfl⟩
    have HL := look_next (l := l) HX.out HBH.out h0 h11 h12 h21
    obtain ⟨K, hK⟩ : ∃ K, k + 1 = K := ⟨_, rfl⟩
    have hKn : K ≤ n := by omega
    have hKi : (k : Int) + 1 = K := by omega
    have hKw : IntKind.i64.wrap (K : Int) = K := IntWalk.i64_in _ (by omega)
    rw [hK] at HL
    have RC1 := Sl.mk (reach_any base vb sb mb (some ⟨ab, ao, none⟩) n c K v s w2 HV2.out hKn (by omega) hs45 hs16 HS2.out)
    unfold RcPost at RC1
    obtain ⟨V1, hV1⟩ : ∃ V1, reachV v K s = V1 := ⟨_, rfl⟩
    rw [hV1] at HL RC1
    have n0 : (op != 0) = true := by simpa using h0
    have n11 : (op != 11) = true := by simpa using h11
    have n21 : (op != 21) = true := by simpa using h21
    have b11 : (op == 11) = false := beq_eq_false_iff_ne.2 h11
    have b12 : (op == 12) = false := beq_eq_false_iff_ne.2 h12
    clear hK h0 h11 h12 h21
    by_cases hg : V1.1.getD K [] = s
    · rw [decide_eq_true hg] at RC1
      rw [if_pos hg] at HL
      have HL := Sl.mk HL
      clear hg hV1
      go_wp2_with (go_at_call 44; refine RC1.out.mono ?_; rintro e w3 ⟨rfl, hv3, hb3, hkp3⟩; have HV3 := Sl.mk hv3; have HE3 := Sl.mk (show Below base w w3 from HE2.out.trans hb3); have HX3 := Sl.mk (hkp3 _ _ HX2.out); have p0 := HX3.out.cell 0; have p1 := HX3.out.cell 1; clear hv3 hb3 hkp3)
      go_ret2
      exact ⟨HE3.out, by rw [HL.out]; exact ⟨rfl, HV3.out⟩⟩
    · rw [decide_eq_false hg] at RC1
      rw [if_neg hg] at HL
      have HL := Sl.mk HL
      clear hg hV1
      go_wp2_with (go_at_call 44; refine RC1.out.mono ?_; rintro e w3 ⟨rfl, hv3, hb3, hkp3⟩; have HV3 := Sl.mk hv3; have HE3 := Sl.mk (show Below base w w3 from HE2.out.trans hb3); have HX3 := Sl.mk (hkp3 _ _ HX2.out); have p0 := HX3.out.cell 0; have p1 := HX3.out.cell 1; clear hv3 hb3 hkp3)
      go_ret2
      exact ⟨HE3.out, by rw [HL.out]; rfl⟩
  · have HL := Sl.mk (look_err (l := l) HX.out HBH.out he)
    have hen : (er != 0) = true := by simpa using he
    clear he
    go_wp2_with fail
    go_ret2
    exact ⟨HE2.out, by rw [HL.out]; rfl⟩
end Go.Proofs.YtliealcdiogilaaDoor
