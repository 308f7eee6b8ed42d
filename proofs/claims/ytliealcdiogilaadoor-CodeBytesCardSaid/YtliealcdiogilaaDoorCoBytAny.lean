/-
  CodeBytes at any input.
-/
import Derived.Test.YtliealcdiogilaaDoorCoIn
import Derived.Test.YtliealcdiogilaaDoorCoZf
import Derived.Test.YtliealcdiogilaaDoorCoEq
namespace Go.Proofs.YtliealcdiogilaaDoor
open Go.ChangeShapes Go.WideShapes Go.ChangeAt Go.RowKit Go.ChangeMaps
attribute [local go_sem ↓] Go.wp_at_zero Go.wp_at_succ

theorem tf_is {w w' : World} {T : TypeId} {l : List Ci} {e : Ending} (h : TfPost w T l e w') (hl : ∀ x ∈ l, x.s.length ≤ 1000000) : ∃ A n c, e = .returned (.slice A n c) ∧ Is w' A n l ∧ n ≤ 1000000 ∧ Below w.heap.size w w' := by
  obtain ⟨A, n, c, rfl, ho, hn, hb⟩ := h
  exact ⟨A, n, c, rfl, ⟨Reads.of_own ho, hl⟩, hn, hb⟩
theorem cut_len (l : List Ci) : ∀ x ∈ (l.take 201).map cutI, x.s.length ≤ 1000000 := fun x hx => by
  obtain ⟨y, _, rfl⟩ := List.mem_map.1 hx
  show (y.s.take 70).length ≤ 1000000
  rw [List.length_take]; omega
theorem own_cap {w : World} {base N s : Nat} {t : TypeId} {A : Option Addr} {c : Nat} {xs : List Value} (h : w.ownsRow base t s (.slice A N c) N xs) : N ≤ c ∧ c ≤ 9223372036854775807 := by
  rcases h.2 with ⟨h1, h2⟩ | ⟨g, cap, cur, h1, _, _, h4, h5, _⟩
  · injection h1 with _ _ h3
    subst h2; subst h3
    exact ⟨Nat.le_refl _, by omega⟩
  · injection h1 with _ _ h3
    subst h3
    unfold maxLen at h5
    exact ⟨h4, by omega⟩
theorem en_bad {w w' : World} {l : List Ci} {e : Ending} (h : EnPost w l e w') (h0 : ¬ (chkF l).2 = 0) : Below w.heap.size w w' ∧ e = .returned (.tuple #[.slice none 0 0, .int .i64 (chkF l).2]) := by
  obtain ⟨h1, h2⟩ := h
  rw [if_pos h0] at h2
  exact ⟨h1, h2⟩
theorem en_ok {w w' : World} {l : List Ci} {e : Ending} (h : EnPost w l e w') (h0 : (chkF l).2 = 0) : Below w.heap.size w w' ∧ ∃ A c, e = .returned (.tuple #[.slice A (encB l).length c, .int .i64 0]) ∧ w'.ownsRow w.heap.size 5 1 (.slice A (encB l).length c) (encB l).length (u8s (encB l)) := by
  obtain ⟨h1, h2⟩ := h
  rw [if_neg (fun c => c h0)] at h2
  exact ⟨h1, h2⟩
theorem eqB_self (l : List Nat) : eqB l l = true := decide_eq_true rfl
set_option maxRecDepth 100000 in
set_option maxHeartbeats 16000000 in
theorem lawBytes (A : Option Addr) (n c : Nat) (op : Int) (l : List Ci) (w : World) (hn : n ≤ 9223372036854775807) (hI : Rs w A n l) (hP : Spw w w.heap.size) :
    Calls Tryd.prog 6 #[.slice A n c, .int .i64 op] w (RPost w true) := by
  have HT := Sl.mk (to_any A n c l w hn hI)
  have HXL := Sl.mk (cut_len l)
  obtain ⟨X, hX⟩ : ∃ X, (l.take 201).map cutI = X := ⟨_, rfl⟩
  rw [hX] at HT HXL
  have HP := Sl.mk hP
  have HK := Sl.mk (fun (W : World) (hb : Below w.heap.size w W) => known_any W ((hP.be hb).mono hb.size))
  have HNU := Sl.mk (fun W => number_any op W)
  have HNR := Sl.mk (fun W => rnumber_any op W)
  obtain ⟨nb, hnb⟩ : ∃ nb, numB op = nb := ⟨_, rfl⟩
  rw [hnb] at HNU HNR
  unfold RPost at HK
  clear hX hI hP hn hnb
  go_enter Tryd.func6, Tryd.ntmps6
  go_wp2_with fail
  refine HT.out.mono ?_
  intro e w1 hx
  obtain ⟨A1, n1, c1, rfl, hI1, hn1, hb1⟩ := tf_is hx HXL.out
  have HO := Sl.mk (of_any A1 n1 c1 X w1 hn1 hI1)
  have HI1 := Sl.mk hI1
  have HN1 := Sl.mk hI1.n_
  have HB1 := Sl.mk hb1
  clear hx hI1 hb1 HT
  go_wp2_with fail
  refine HO.out.mono ?_
  intro e w2 hx
  obtain ⟨A2, n2, c2, rfl, hI2, hn2, hb2⟩ := tf_is hx HXL.out
  obtain rfl : n2 = n1 := by rw [← hI2.n_, HN1.out]
  have HI2 := Sl.mk hI2
  have HX2 := Sl.mk (HI1.out.be hb2)
  have HB2 := Sl.mk (below_tr HB1.out hb2)
  have HV := Sl.mk (encode_any A1 n2 c1 X w2 hn1 HX2.out (HP.out.all HB2.out))
  obtain ⟨ci, ce, hce⟩ : ∃ ci ce, chkF X = (ci, ce) := ⟨_, _, rfl⟩
  have HCE := Sl.mk hce
  clear hx hI2 hb2 HO hn2 HI1 hce
  go_wp2_with fail
  refine HV.out.mono ?_
  intro e w3 hx
  by_cases h0 : ce = 0
  · subst h0
    obtain ⟨hb3, A3, c3, rfl, ho3⟩ := en_ok hx (by rw [HCE.out])
    have HB3 := Sl.mk (below_tr HB2.out hb3)
    have HX3 := Sl.mk (HX2.out.be hb3)
    have HY3 := Sl.mk (HI2.out.be hb3)
    have HO3 := Sl.mk ho3
    have HC := Sl.mk (rcheck_any A2 n2 c2 X w3 hn1 HY3.out)
    unfold CkPost at HC
    rw [HCE.out] at HC
    obtain ⟨hc1, hc2, hc3⟩ := chk_zero (l := X) (by rw [HCE.out])
    have HC1 := Sl.mk hc1
    have HC2 := Sl.mk (show ∀ x ∈ X, rightI x (n2 : Nat) = true from fun x hx => by
      obtain ⟨j, hj⟩ := List.mem_iff_getElem?.1 hx
      rw [← HN1.out]
      exact hc2 j x hj)
    have hE5 : (encB X).length ≤ 20000 := by
      have h := encP_len HC2.out n2
      have e : encP X n2 = encB X := by unfold encP encB; rw [← HN1.out, List.take_length]
      rw [e] at h
      have := HN1.out
      omega
    obtain ⟨N, hN⟩ : ∃ N, (encB X).length = N := ⟨_, rfl⟩
    rw [hN] at HO3 hE5 ⊢
    have HNN := Sl.mk hN
    clear hx hb3 ho3 HV HX2 HI2 HB2 hN hc1 hc2 hc3
    go_wp2_with fail
    refine HC.out.mono ?_
    rintro e w4 ⟨rfl, hb4⟩
    have HB4 := Sl.mk (below_tr HB3.out hb4)
    have HX4 := Sl.mk (HX3.out.be hb4)
    have HY4 := Sl.mk (HY3.out.be hb4)
    have HO4 := Sl.mk (own_below HO3.out hb4)
    clear hb4 HC HX3 HY3 HB3 HO3
    go_wp2_with fail
    refine (HNU.out w4).mono ?_
    rintro e w5 ⟨rfl, rfl⟩
    go_wp2_with fail
    refine (HNR.out w5).mono ?_
    rintro e w5 ⟨rfl, rfl⟩
    have hnn : (nb != nb) = false := by cases nb <;> rfl
    clear HNU HNR
    go_wp2_with fail
    have HD := Sl.mk (decode_ok A3 N c3 X w5 (by rw [HCE.out]) (own_cap HO4.out).1 (own_cap HO4.out).2 (Reads.of_own HO4.out) (HP.out.all HB4.out))
    unfold DecPost at HD
    rw [HN1.out] at HD
    refine HD.out.mono ?_
    rintro e w6 ⟨A6, c6, rfl, ho6, hb6⟩
    have HB6 := Sl.mk (below_tr HB4.out hb6)
    have HX6 := Sl.mk (HX4.out.be hb6)
    have HY6 := Sl.mk (HY4.out.be hb6)
    have HO6 := Sl.mk (own_below HO4.out hb6)
    have HZ6 := Sl.mk ho6
    clear ho6 hb6 HD HX4 HY4 HO4 HB4
    go_wp2_with fail
    refine (HK.out _ HB6.out).mono ?_
    rintro e w7 ⟨rfl, hb7⟩
    have HB7 := Sl.mk (below_tr HB6.out hb7)
    have HX7 := Sl.mk (HX6.out.be hb7)
    have HR := Sl.mk (rencode_any A2 n2 c2 X w7 (by rw [← HN1.out]; exact HC1.out) (HY6.out.be hb7) HC2.out)
    rw [HNN.out] at HR
    have HO7 := Sl.mk (own_below HO6.out hb7)
    have HZ7 := Sl.mk (own_below HZ6.out hb7)
    clear hb7 HX6 HY6 HO6 HB6 HZ6
    go_wp2_with fail
    refine HR.out.mono ?_
    rintro e w8 ⟨A8, c8, rfl, ho8, hb8⟩
    have HB8 := Sl.mk (below_tr HB7.out hb8)
    have HX8 := Sl.mk (HX7.out.be hb8)
    have HZ8 := Sl.mk (own_below HZ7.out hb8)
    have HS := Sl.mk (bsame_any A3 A8 N c3 N c8 (encB X) (encB X) w8 (by omega) (by omega) (Reads.of_own (own_below HO7.out hb8)) (Reads.of_own ho8))
    rw [eqB_self] at HS
    clear ho8 hb8 HR HX7 HO7 HB7 HZ7
    go_wp2_with fail
    refine HS.out.mono ?_
    rintro e w9 ⟨rfl, q, hw9⟩
    have hb9 : Below w8.heap.size w8 w9 := by rw [hw9]; exact below_drN (Below.refl _ _) q
    have HB9 := Sl.mk (below_tr HB8.out hb9)
    have HAL := Sl.mk (alike_any A6 A1 n2 n2 c6 c1 X X w9 hn1 hn1 (Reads.of_own (own_below HZ8.out hb9)) (HX8.out.be hb9).row)
    rw [decide_eq_true rfl] at HAL
    clear hw9 hb9 HS HX8 HZ8 HB8
    go_wp2_with fail
    refine HAL.out.mono ?_
    rintro e w10 ⟨rfl, q2, hw10⟩
    have HB10 := Sl.mk (show Below w.heap.size w w10 by rw [hw10]; exact below_drN HB9.out q2)
    clear hw10 HAL HB9
    go_wp2_with fail
    go_ret
    exact ⟨rfl, HB10.out⟩
  · obtain ⟨hb3, rfl⟩ := en_bad hx (by rw [HCE.out]; exact h0)
    rw [HCE.out]
    have HB3 := Sl.mk (below_tr HB2.out hb3)
    have HC := Sl.mk (rcheck_any A2 n2 c2 X w3 hn1 (HI2.out.be hb3))
    unfold CkPost at HC
    rw [HCE.out] at HC
    have hb0 : (ce != 0) = true := by simpa using h0
    clear hx hb3 HV HX2 HI2 HB2 h0
    go_wp2_with fail
    refine HC.out.mono ?_
    rintro e w4 ⟨rfl, hb4⟩
    have HB4 := Sl.mk (below_tr HB3.out hb4)
    clear hb4 HC HB3
    go_wp2_with fail
    refine (HNU.out w4).mono ?_
    rintro e w5 ⟨rfl, rfl⟩
    go_wp2_with fail
    refine (HNR.out w5).mono ?_
    rintro e w5 ⟨rfl, rfl⟩
    have hnn : (nb != nb) = false := by cases nb <;> rfl
    clear HNU HNR
    go_wp2_with fail
    refine (HK.out _ HB4.out).mono ?_
    rintro e w7 ⟨rfl, hb7⟩
    have HB7 := Sl.mk (below_tr HB4.out hb7)
    clear hb7 HB4
    go_wp2_with fail
    go_ret
    exact ⟨rfl, HB7.out⟩
set_option maxRecDepth 100000 in
theorem codebytes_any {H : Type} {enc : TypeId × Value → H} (W : World) (base : Nat) {v0 v1 : Value} {d0 d1 : DataW H} {p0 p1 : List MemPlace}
    (h0 : DataW.Trod enc Tryd.prog W 0 (fun _ => true) true 29 v0 d0 p0) (h1 : DataW.Trod enc Tryd.prog W 0 (fun _ => true) true 3 v1 d1 p1)
    (o0 : Value.okWide Tryd.prog W .any base 29 v0) (o1 : Value.okWide Tryd.prog W .any base 3 v1) (hT : Spw W W.heap.size) :
    Calls Tryd.prog 6 #[v0, v1] W fun e w' => e = .returned (.bool true) ∧ Below W.heap.size W w' := by
  obtain ⟨A, n, c, l, rfl, hn1, hn2, hI⟩ := open_instrs h0 o0
  obtain ⟨k, rfl, -⟩ := open_int Tryd.underlying3 o1 h1
  exact lawBytes A n c k l W (Nat.le_trans hn1 hn2) hI hT
end Go.Proofs.YtliealcdiogilaaDoor
