/-
  AsmPrints at any input.
-/
import Derived.Test.YtigdfkpkogompaaDoorAsR
import Derived.Test.YtigdfkpkogompaaDoorCoIn
import Derived.Test.YtigdfkpkogompaaDoorAsTabs
namespace Go.Proofs.YtigdfkpkogompaaDoor
open Go.ChangeShapes Go.WideShapes Go.ChangeAt Go.RowKit Go.ChangeMaps
attribute [local go_sem ↓] Go.wp_at_zero Go.wp_at_succ

theorem tf_is {w w' : World} {T : TypeId} {l : List Ci} {e : Ending} (h : TfPost w T l e w') (hl : ∀ x ∈ l, x.s.length ≤ 1000000) : ∃ A n c, e = .returned (.slice A n c) ∧ Is w' A n l ∧ n ≤ 1000000 ∧ Below w.heap.size w w' := by
  obtain ⟨A, n, c, rfl, ho, hn, hb⟩ := h
  exact ⟨A, n, c, rfl, ⟨Reads.of_own ho, hl⟩, hn, hb⟩
theorem cut_len (l : List Ci) : ∀ x ∈ (l.take 201).map cutI, x.s.length ≤ 1000000 := fun x hx => by
  obtain ⟨y, _, rfl⟩ := List.mem_map.1 hx
  show (y.s.take 70).length ≤ 1000000
  rw [List.length_take]; omega
set_option maxRecDepth 100000 in
set_option maxHeartbeats 16000000 in
theorem lawPrints (A : Option Addr) (n c : Nat) (op : Int) (l : List Ci) (w : World) (hn : n ≤ 9223372036854775807) (hI : Rs w A n l) (hE : Eg w w.heap.size) :
    Calls Tryd.prog 3 #[.slice A n c, .int .i64 op] w (RPost w true) := by
  have HT := Sl.mk (to_any A n c l w hn hI)
  have HXL := Sl.mk (cut_len l)
  obtain ⟨X, hX⟩ : ∃ X, (l.take 201).map cutI = X := ⟨_, rfl⟩
  rw [hX] at HT HXL
  have hE0 := Sl.mk hE
  have HK := Sl.mk (fun (W : World) (hb : Below w.heap.size w W) => known_any W (hE.all hb))
  unfold RPost at HK
  clear hX hI hE hn
  go_enter Tryd.func3, Tryd.ntmps3
  go_wp2_with fail
  refine HT.out.mono ?_
  intro e w1 hx
  obtain ⟨A1, n1, c1, rfl, hI1, hn1, hb1⟩ := tf_is hx HXL.out
  have HO := Sl.mk (of_any A1 n1 c1 X w1 hn1 hI1)
  have HI1 := Sl.mk hI1
  have HN1 := Sl.mk hI1.n_
  have HB1 := Sl.mk hb1
  clear hx hI1 hb1 HT
  go_wp2_with fail
  refine HO.out.mono ?_
  intro e w2 hx
  obtain ⟨A2, n2, c2, rfl, hI2, hn2, hb2⟩ := tf_is hx HXL.out
  obtain rfl : n2 = n1 := by rw [← hI2.n_, HN1.out]
  have HI2 := Sl.mk hI2
  have HX2 := Sl.mk (HI1.out.be hb2)
  have HB2 := Sl.mk (below_tr HB1.out hb2)
  have HC := Sl.mk (check_any A1 n2 c1 X w2 hn1 HX2.out (hE0.out.all HB2.out).sp)
  unfold CkPost at HC
  obtain ⟨ci, ce, hce⟩ : ∃ ci ce, chkF X = (ci, ce) := ⟨_, _, rfl⟩
  rw [hce] at HC
  have HCE := Sl.mk hce
  clear hx hI2 hb2 HO hn2 HI1 hce
  go_wp2_with fail
  refine HC.out.mono ?_
  rintro e w3 ⟨rfl, hb3⟩
  have HB3 := Sl.mk (below_tr HB2.out hb3)
  have HX3 := Sl.mk (HX2.out.be hb3)
  have HY3 := Sl.mk (HI2.out.be hb3)
  have HRC := Sl.mk (rcheck_any A2 n2 c2 X w3 hn1 HY3.out)
  unfold CkPost at HRC
  rw [HCE.out] at HRC
  clear hb3 HC HX2 HI2 HB2
  go_wp2_with fail
  refine HRC.out.mono ?_
  rintro e w4 ⟨rfl, hb4⟩
  have HB4 := Sl.mk (below_tr HB3.out hb4)
  have HX4 := Sl.mk (HX3.out.be hb4)
  have HY4 := Sl.mk (HY3.out.be hb4)
  have HPR := Sl.mk (print_any A1 n2 c1 X w4 hn1 HX4.out (hE0.out.all HB4.out))
  unfold PrPost at HPR
  rw [HCE.out] at HPR
  obtain ⟨T, hT⟩ : ∃ T, (if ce = 0 then prF X else []) = T := ⟨_, rfl⟩
  have HPR2 : Sl (Calls Tryd.prog 9 #[.slice A1 n2 c1] w4 fun e w' => e = .returned (.tuple #[.string (bsS T), .int .i64 ce]) ∧ Below w4.heap.size w4 w') := Sl.mk (by
    have h := HPR.out
    rw [← hT]; exact h)
  have HTT := Sl.mk hT
  clear hb4 HRC HX3 HY3 HB3 HPR hT
  go_wp2_with fail
  refine HPR2.out.mono ?_
  rintro e w5 ⟨rfl, hb5⟩
  have HB5 := Sl.mk (below_tr HB4.out hb5)
  have HX5 := Sl.mk (HX4.out.be hb5)
  have HY5 := Sl.mk (HY4.out.be hb5)
  have HWD := Sl.mk (word_any op w5 (hE0.out.all HB5.out).sp)
  have hq1 : (ce != ce) = false := by simp
  have hq2 : (ci != ci) = false := by simp
  clear hb5 HPR2 HX4 HY4 HB4
  go_wp2_with fail
  refine HWD.out.mono ?_
  rintro e w6 ⟨rfl, hb6⟩
  have HB6 := Sl.mk (below_tr HB5.out hb6)
  have HX6 := Sl.mk (HX5.out.be hb6)
  have HY6 := Sl.mk (HY5.out.be hb6)
  have HRW := Sl.mk (rword_any op w6)
  unfold WPost at HRW
  clear hb6 HWD HX5 HY5 HB5
  go_wp2_with fail
  refine HRW.out.mono ?_
  rintro e w7 ⟨rfl, hb7⟩
  have HB7 := Sl.mk (below_tr HB6.out hb7)
  have HX7 := Sl.mk (HX6.out.be hb7)
  have HY7 := Sl.mk (HY6.out.be hb7)
  have HAL := Sl.mk (alike_any A1 A1 n2 n2 c1 c1 X X w7 hn1 hn1 HX7.out.row HX7.out.row)
  rw [decide_eq_true rfl] at HAL
  have hq3 : ((bsS (wordF op)).toList != (bsS (wordF op)).toList) = false := by simp
  clear hb7 HRW HX6 HY6 HB6
  go_wp2_with fail
  refine HAL.out.mono ?_
  rintro e w8 ⟨rfl, q8, hw8⟩
  have hb8 : Below w7.heap.size w7 w8 := by rw [hw8]; exact below_drN (Below.refl _ _) q8
  have HB8 := Sl.mk (below_tr HB7.out hb8)
  have HX8 := Sl.mk (HX7.out.be hb8)
  have HY8 := Sl.mk (HY7.out.be hb8)
  clear hb8 hw8 HAL HX7 HY7 HB7
  by_cases h0 : ce = 0
  · subst h0
    obtain ⟨hl200, hri, hchk⟩ := chk_zeroA (l := X) (by rw [HCE.out])
    have hRI : ∀ x ∈ X, rightI x (X.length : Nat) = true := fun x hx => by
      obtain ⟨j, hj⟩ := List.mem_iff_getElem?.1 hx
      exact hri j x hj
    have hTT : T = prF X := by rw [← HTT.out, if_pos rfl]
    have hTl : T.length ≤ 1000000 := by
      rw [hTT]
      unfold prF
      have := prN_len hRI hl200 (X.length + 1) (by omega)
      omega
    have hz := bs_size T
    by_cases h8 : 8192 < T.length
    · clear hRI hri hchk hTT
      go_wp2_with fail
      refine (HK.out _ HB8.out).mono ?_
      rintro e w9 ⟨rfl, hb9⟩
      have HB9 := Sl.mk (below_tr HB8.out hb9)
      clear hb9
      go_wp2_with fail
      go_ret
      exact ⟨rfl, HB9.out⟩
    · have hAS := asm_any T w8 hTl (hE0.out.all HB8.out)
      rw [show asmF T = (X, 0, 0) by rw [hTT]; exact print_back hl200 hRI (by rw [← hTT]; omega)] at hAS
      unfold AsPost at hAS
      have HAS := Sl.mk hAS
      clear hAS hRI hri hchk hTT
      go_wp2_with fail
      refine HAS.out.mono ?_
      rintro e w9 ⟨A9, c9, rfl, ho9, hb9⟩
      have HB9 := Sl.mk (below_tr HB8.out hb9)
      have HX9 := Sl.mk (HX8.out.be hb9)
      have HY9 := Sl.mk (HY8.out.be hb9)
      have HZ9 := Sl.mk (show Is w9 A9 X.length X from ⟨Reads.of_own ho9, HXL.out⟩)
      clear hb9 ho9 HAS HX8 HY8 HB8
      go_wp2_with fail
      refine (HK.out _ HB9.out).mono ?_
      rintro e w10 ⟨rfl, hb10⟩
      have HB10 := Sl.mk (below_tr HB9.out hb10)
      have HX10 := Sl.mk (HX9.out.be hb10)
      have HY10 := Sl.mk (HY9.out.be hb10)
      have HZ10 := Sl.mk (HZ9.out.be hb10)
      have HA2 := Sl.mk (alike_any A9 A1 X.length n2 c9 c1 X X w10 (by omega) hn1 HZ10.out.row HX10.out.row)
      rw [decide_eq_true rfl] at HA2
      clear hb10 HX9 HY9 HB9 HZ9
      go_wp2_with fail
      refine HA2.out.mono ?_
      rintro e w11 ⟨rfl, q11, hw11⟩
      have hb11 : Below w10.heap.size w10 w11 := by rw [hw11]; exact below_drN (Below.refl _ _) q11
      have HB11 := Sl.mk (below_tr HB10.out hb11)
      have HY11 := Sl.mk (HY10.out.be hb11)
      have HO2 := Sl.mk (of_any A9 X.length c9 X w11 (by omega) (HZ10.out.be hb11))
      clear hb11 hw11 HA2 HX10 HY10 HB10 HZ10
      go_wp2_with fail
      refine HO2.out.mono ?_
      intro e w12 hx
      obtain ⟨A12, n12, c12, rfl, hI12, hn12, hb12⟩ := tf_is hx HXL.out
      have HB12 := Sl.mk (below_tr HB11.out hb12)
      have HSM := Sl.mk (rsameI_any A12 A2 n12 n2 c12 c2 X X w12 hn12 hn1 hI12.row (HY11.out.be hb12).row)
      rw [decide_eq_true rfl] at HSM
      clear hx hI12 hb12 HO2 HY11 HB11
      go_wp2_with fail
      refine HSM.out.mono ?_
      rintro e w13 ⟨rfl, q13, hw13⟩
      have HB13 := Sl.mk (show Below w.heap.size w w13 by rw [hw13]; exact below_drN HB12.out q13)
      clear hw13 HSM HB12
      go_wp2_with fail
      go_ret
      exact ⟨rfl, HB13.out⟩
  · have hTT : T = [] := by rw [← HTT.out, if_neg h0]
    subst hTT
    have hb0 : (ce != 0) = true := by simpa using h0
    have hem : ((bsS []).toList == ([] : List UInt8)) = true := by rw [bs_list]; rfl
    clear h0
    go_wp2_with fail
    refine (HK.out _ HB8.out).mono ?_
    rintro e w9 ⟨rfl, hb9⟩
    have HB9 := Sl.mk (below_tr HB8.out hb9)
    clear hb9
    go_wp2_with fail
    go_ret
    exact ⟨ret_bool (by simp), HB9.out⟩
set_option maxRecDepth 100000 in
theorem asmprints_any {H : Type} {enc : TypeId × Value → H} (W : World) (base : Nat) {v0 v1 : Value} {d0 d1 : DataW H} {p0 p1 : List MemPlace}
    (h0 : DataW.Trod enc Tryd.prog W 0 (fun _ => true) true 22 v0 d0 p0) (h1 : DataW.Trod enc Tryd.prog W 0 (fun _ => true) true 3 v1 d1 p1)
    (o0 : Value.okWide Tryd.prog W .any base 22 v0) (o1 : Value.okWide Tryd.prog W .any base 3 v1) (hT : Tb W) (hsh : W.ShapedOpen Tryd.prog) :
    Calls Tryd.prog 3 #[v0, v1] W fun e w' => e = .returned (.bool true) ∧ Below W.heap.size W w' := by
  obtain ⟨A, n, c, l, rfl, hn1, hn2, hI⟩ := open_instrs h0 o0
  obtain ⟨k, rfl, -⟩ := open_int Tryd.underlying3 o1 h1
  exact lawPrints A n c k l W (Nat.le_trans hn1 hn2) hI (eg_of hT hsh)
end Go.Proofs.YtigdfkpkogompaaDoor
