/-
  CodeVerifies at any input.
-/
import Derived.Test.YtliealcdiogilaaDoorCoIn
namespace Go.Proofs.YtliealcdiogilaaDoor
open Go.ChangeShapes Go.WideShapes Go.ChangeAt Go.RowKit Go.ChangeMaps
attribute [local go_sem ↓] Go.wp_at_zero Go.wp_at_succ

theorem tf_is {w w' : World} {T : TypeId} {l : List Ci} {e : Ending} (h : TfPost w T l e w') (hl : ∀ x ∈ l, x.s.length ≤ 1000000) : ∃ A n c, e = .returned (.slice A n c) ∧ Is w' A n l ∧ n ≤ 1000000 ∧ Below w.heap.size w w' := by
  obtain ⟨A, n, c, rfl, ho, hn, hb⟩ := h
  exact ⟨A, n, c, rfl, ⟨Reads.of_own ho, hl⟩, hn, hb⟩
theorem cut_len (l : List Ci) : ∀ x ∈ (l.take 201).map cutI, x.s.length ≤ 1000000 := fun x hx => by
  obtain ⟨y, _, rfl⟩ := List.mem_map.1 hx
  show (y.s.take 70).length ≤ 1000000
  rw [List.length_take]; omega
theorem st_bad0 {w w' : World} {l : List Ci} {e : Ending} (h : StPost w l e w') (h0 : ¬ (chkF l).2 = 0) : Below w.heap.size w w' ∧ e = .returned (.tuple #[.slice none 0 0, .int .i64 (chkF l).2]) := by
  obtain ⟨h1, h2⟩ := h
  rw [if_pos h0] at h2
  exact ⟨h1, h2⟩
theorem st_bad {w w' : World} {l : List Ci} {e : Ending} (h : StPost w l e w') (h0 : (chkF l).2 = 0) (h3 : ¬ (verF l).2.2 = 0) : Below w.heap.size w w' ∧ e = .returned (.tuple #[.slice none 0 0, .int .i64 (verF l).2.2]) := by
  obtain ⟨h1, h2⟩ := h
  rw [if_neg (fun c => c h0), if_neg h3] at h2
  exact ⟨h1, h2⟩
theorem st_ok {w w' : World} {l : List Ci} {e : Ending} (h : StPost w l e w') (h0 : (chkF l).2 = 0) (h3 : (verF l).2.2 = 0) : Below w.heap.size w w' ∧ ∃ sb, e = .returned (.tuple #[.slice (some ⟨sb, 0, none⟩) (l.length + 1) (l.length + 1), .int .i64 0]) ∧ w.heap.size ≤ sb ∧ sb < w'.heap.size ∧ Blk w' sb 9 (strsC (verF l).1).toArray ∧ (verF l).1.length = l.length + 1 ∧ ∀ s ∈ (verF l).1, s.length ≤ 16 := by
  obtain ⟨h1, h2⟩ := h
  rw [if_neg (fun c => c h0), if_pos h3] at h2
  exact ⟨h1, h2⟩
set_option maxRecDepth 100000 in
set_option maxHeartbeats 16000000 in
theorem lawVerifies (A : Option Addr) (n c : Nat) (l : List Ci) (w : World) (hn : n ≤ 9223372036854775807) (hI : Rs w A n l) (hP : Spw w w.heap.size) :
    Calls Tryd.prog 4 #[.slice A n c] w (RPost w true) := by
  have HT := Sl.mk (to_any A n c l w hn hI)
  have HXL := Sl.mk (cut_len l)
  obtain ⟨X, hX⟩ : ∃ X, (l.take 201).map cutI = X := ⟨_, rfl⟩
  rw [hX] at HT HXL
  have HP := Sl.mk hP
  have HK := Sl.mk (fun (W : World) (hb : Below w.heap.size w W) => known_any W ((hP.be hb).mono hb.size))
  unfold RPost at HK
  clear hX hI hP hn
  go_enter Tryd.func4, Tryd.ntmps4
  go_wp2_with fail
  refine HT.out.mono ?_
  intro e w1 hx
  obtain ⟨A1, n1, c1, rfl, hI1, hn1, hb1⟩ := tf_is hx HXL.out
  have HO := Sl.mk (of_any A1 n1 c1 X w1 hn1 hI1)
  have HI1 := Sl.mk hI1
  have HN1 := Sl.mk hI1.n_
  have HB1 := Sl.mk hb1
  clear hx hI1 hb1 HT
  go_wp2_with fail
  refine HO.out.mono ?_
  intro e w2 hx
  obtain ⟨A2, n2, c2, rfl, hI2, hn2, hb2⟩ := tf_is hx HXL.out
  obtain rfl : n2 = n1 := by rw [← hI2.n_, HN1.out]
  have HI2 := Sl.mk hI2
  have HX2 := Sl.mk (HI1.out.be hb2)
  have HB2 := Sl.mk (below_tr HB1.out hb2)
  have HV := Sl.mk (verifyC_any A1 n2 c1 X w2 hn1 HX2.out (HP.out.all HB2.out))
  unfold VfPost at HV
  obtain ⟨vh, vi, ve, hv⟩ : ∃ vh vi ve, verR X = (vh, vi, ve) := ⟨_, _, _, rfl⟩
  rw [hv] at HV
  have HVR := Sl.mk hv
  clear hx hI2 hb2 HO hv hn2 HI1
  go_wp2_with fail
  refine HV.out.mono ?_
  rintro e w3 ⟨rfl, hb3⟩
  have HB3 := Sl.mk (below_tr HB2.out hb3)
  have HX3 := Sl.mk (HX2.out.be hb3)
  have HY3 := Sl.mk (HI2.out.be hb3)
  have HS := Sl.mk (states_any A1 n2 c1 X w3 hn1 HX3.out (HP.out.all HB3.out))
  clear hb3 HV HX2 HI2 HB2
  obtain ⟨ci, ce, hce⟩ : ∃ ci ce, chkF X = (ci, ce) := ⟨_, _, rfl⟩
  have HCE := Sl.mk hce
  by_cases h0 : ce = 0
  · subst h0
    obtain ⟨hc1, hc2, hc3⟩ := chk_zero (l := X) (by rw [hce])
    obtain ⟨r1, r2, r3, hr⟩ : ∃ r1 r2 r3, verF X = (r1, r2, r3) := ⟨_, _, _, rfl⟩
    have HRV := Sl.mk (fun (W : World) (hy : Is W A2 n2 X) => rverify_any A2 n2 c2 X W hy (by rw [← HN1.out]; exact hc2) (by rw [← HN1.out]; exact hc1))
    rw [hr] at HRV
    have hn200 : n2 ≤ 200 := by rw [← HN1.out]; exact hc1
    by_cases h3 : r3 = 0
    · subst h3
      have hvr : verR X = (highF 0 r1, ((r2 : Nat) : Int), 0) := by unfold verR; rw [hce, hr, if_neg (by simp), if_pos rfl]
      rw [hvr] at HVR
      obtain ⟨rfl, rfl, rfl⟩ : vh = highF 0 r1 ∧ vi = ((r2 : Nat) : Int) ∧ ve = 0 := by
        have h := HVR.out
        simp only [Prod.mk.injEq] at h
        exact ⟨h.1.symm, h.2.1.symm, h.2.2.symm⟩
      go_wp2_with fail
      refine HS.out.mono ?_
      intro e w4 hx
      obtain ⟨hb4, sb, rfl, -, -, hBs, hl1, hls⟩ := st_ok hx (by rw [hce]) (by rw [hr])
      rw [hr] at hBs hl1 hls
      rw [HN1.out] at hl1 ⊢
      have HB4 := Sl.mk (below_tr HB3.out hb4)
      have HY4 := Sl.mk (HY3.out.be hb4)
      have HBS4 := Sl.mk hBs
      have HL1 := Sl.mk (show r1.length = n2 + 1 from hl1)
      have HLS := Sl.mk (show ∀ s ∈ r1, s.length ≤ 16 from hls)
      have HC := Sl.mk (rcheck_any A2 n2 c2 X w4 hn1 HY4.out)
      unfold CkPost at HC
      rw [hce] at HC
      clear hx hb4 hBs hl1 hls hc1 hc2 hc3 hr hce HS HX3 HY3 HB3 HVR hvr
      go_wp2_with fail
      refine HC.out.mono ?_
      rintro e w5 ⟨rfl, hb5⟩
      have HB5 := Sl.mk (below_tr HB4.out hb5)
      have HY5 := Sl.mk (HY4.out.be hb5)
      have HBS5 := Sl.mk (HBS4.out.be hb5)
      have HR5 := Sl.mk (HRV.out w5 HY5.out)
      clear hb5 HC HBS4 HY4 HB4
      go_wp2_with fail
      refine HR5.out.mono ?_
      intro e w6 hx
      obtain ⟨hb6, tb, rfl, -, -, hBt, -, -⟩ := vy_ok hx
      have HB6 := Sl.mk (below_tr HB5.out hb6)
      have HBS6 := Sl.mk (HBS5.out.be hb6)
      have HBT6 := Sl.mk hBt
      clear hx hb6 hBt HR5 HBS5 HY5 HB5 HRV
      go_wp2_with fail
      go_loopg [15, 16] (n2 + 1) (fun q v15 v16 wr => ∃ i h j : Nat, q = n2 + 1 - i ∧ i ≤ n2 + 1 ∧ v16 = .int .i64 i ∧ v15 = .int .i64 h ∧ h ≤ 16 ∧ wr = w6.drewN j ∧ Sl (highF 0 r1 = highF h (r1.drop i)))
      case atStart => exact ⟨0, 0, 0, rfl, Nat.zero_le _, rfl, rfl, Nat.zero_le _, rfl, ⟨rfl⟩⟩
      case round =>
        obtain ⟨i, h, j, hq, hi, rfl, rfl, hh, rfl, HH⟩ := hrel
        by_cases hlt : i < n2 + 1
        · have hil : i < r1.length := by rw [HL1.out]; exact hlt
          have d1 := (HBS6.out.cell i).trans (strsC_get hil)
          have d2 := (HBT6.out.cell i).trans (strsC_get hil)
          obtain ⟨y, hy⟩ : ∃ y, r1.getD i [] = y := ⟨_, rfl⟩
          rw [hy] at d1 d2
          have hyi : r1[i]? = some y := by rw [List.getD_eq_getElem?_getD, List.getElem?_eq_getElem hil] at hy; rw [List.getElem?_eq_getElem hil]; exact congrArg some hy
          have hy16 : y.length ≤ 16 := HLS.out y (List.mem_of_getElem? hyi)
          have hdr : r1.drop i = y :: r1.drop (i + 1) := by
            obtain ⟨h1, h2⟩ := List.getElem?_eq_some_iff.1 hyi
            rw [List.drop_eq_getElem_cons h1, h2]
          have hsq := HH.out
          rw [hdr, highF] at hsq
          have hz := bs_size y
          have e1 : ((bsS y).toList == [45]) = decide (y = [45]) := by have := bs_beq y [45]; rw [bs_list [45]] at this; exact this
          have hin : (i : Int) < (n2 : Int) + 1 := by omega
          have HQ := Sl.mk (show n2 + 1 - (i + 1) < gk ∧ i + 1 ≤ n2 + 1 by omega)
          by_cases hd : y = [45]
          · rw [decide_eq_true hd] at e1
            rw [if_pos hd] at hsq
            have HSQ := Sl.mk hsq
            clear hsq hdr hyi hy hd HH hq
            go_wp2_with fail
            go_quiet (fail)
            go_wp2_with fail
            go_roundg (n2 + 1 - (i + 1))
            case measure => exact HQ.out.1
            case rel => exact ⟨i + 1, h, _, rfl, HQ.out.2, by go_num, rfl, hh, rfl, HSQ⟩
          · rw [decide_eq_false hd] at e1
            rw [if_neg hd] at hsq
            obtain ⟨mx, hmx⟩ : ∃ mx : Nat, max (h : Int) (y.length : Int) = mx := ⟨max h y.length, by omega⟩
            have hme : max h y.length = mx := by omega
            rw [hme] at hsq
            have HSQ := Sl.mk hsq
            have hm16 : mx ≤ 16 := by omega
            clear hsq hdr hyi hy hd HH hq hme
            go_wp2_with fail
            go_quiet (fail)
            go_wp2_with fail
            go_roundg (n2 + 1 - (i + 1))
            case measure => exact HQ.out.1
            case rel => exact ⟨i + 1, mx, _, rfl, HQ.out.2, by go_num, rfl, hm16, rfl, HSQ⟩
        · obtain rfl : i = n2 + 1 := by omega
          have HF := Sl.mk (show highF 0 r1 = h by
            rw [HH.out, List.drop_of_length_le (by rw [HL1.out]; omega), highF])
          have HBJ := Sl.mk (below_drN HB6.out j)
          clear HH hq hlt hi
          go_wp2_with fail
          refine (HK.out _ HBJ.out).mono ?_
          rintro e w8 ⟨rfl, hb8⟩
          have HB8 := Sl.mk (below_tr HBJ.out hb8)
          clear hb8
          go_wp2_with fail
          go_ret
          exact ⟨ret_bool (by rw [HF.out]; simp), HB8.out⟩
    · have hvr : verR X = (0, ((r2 : Nat) : Int), r3) := by unfold verR; rw [hce, hr, if_neg (by simp), if_neg h3]
      rw [hvr] at HVR
      obtain ⟨rfl, rfl, rfl⟩ : vh = 0 ∧ vi = ((r2 : Nat) : Int) ∧ ve = r3 := by
        have h := HVR.out
        simp only [Prod.mk.injEq] at h
        exact ⟨h.1.symm, h.2.1.symm, h.2.2.symm⟩
      have H3 := Sl.mk h3
      have hb3 : (ve != 0) = true := by simpa using h3
      go_wp2_with fail
      refine HS.out.mono ?_
      intro e w4 hx
      obtain ⟨hb4, rfl⟩ := st_bad hx (by rw [hce]) (by rw [hr]; exact h3)
      rw [hr]
      have HB4 := Sl.mk (below_tr HB3.out hb4)
      have HY4 := Sl.mk (HY3.out.be hb4)
      have HC := Sl.mk (rcheck_any A2 n2 c2 X w4 hn1 HY4.out)
      unfold CkPost at HC
      rw [hce] at HC
      clear hx hb4 hc1 hc2 hc3 hr hce HS HX3 HY3 HB3 HVR hvr h3
      go_wp2_with fail
      refine HC.out.mono ?_
      rintro e w5 ⟨rfl, hb5⟩
      have HB5 := Sl.mk (below_tr HB4.out hb5)
      have HR5 := Sl.mk (HRV.out w5 (HY4.out.be hb5))
      clear hb5 HC HY4 HB4
      go_wp2_with fail
      refine HR5.out.mono ?_
      intro e w6 hx
      obtain ⟨hb6, rfl⟩ := vy_bad hx H3.out
      have HB6 := Sl.mk (below_tr HB5.out hb6)
      clear hx hb6 HR5 HB5 HRV
      go_wp2_with fail
      go_loopg [15, 16] 1 (fun q v15 v16 wr => q = 1 ∧ v16 = .int .i64 0 ∧ v15 = .int .i64 0 ∧ wr = w6)
      case atStart => exact ⟨rfl, rfl, rfl, rfl⟩
      case round =>
        obtain ⟨-, rfl, rfl, rfl⟩ := hrel
        go_wp2_with fail
        refine (HK.out _ HB6.out).mono ?_
        rintro e w8 ⟨rfl, hb8⟩
        have HB8 := Sl.mk (below_tr HB6.out hb8)
        clear hb8
        go_wp2_with fail
        go_ret
        exact ⟨rfl, HB8.out⟩
  · have hvr : verR X = (0, ci, ce) := by unfold verR; rw [hce, if_pos h0]
    rw [hvr] at HVR
    obtain ⟨rfl, rfl, rfl⟩ : vh = 0 ∧ vi = ci ∧ ve = ce := by
      have h := HVR.out
      simp only [Prod.mk.injEq] at h
      exact ⟨h.1.symm, h.2.1.symm, h.2.2.symm⟩
    have hb0 : (ve != 0) = true := by simpa using h0
    go_wp2_with fail
    refine HS.out.mono ?_
    intro e w4 hx
    obtain ⟨hb4, rfl⟩ := st_bad0 hx (by rw [hce]; exact h0)
    rw [hce]
    have HB4 := Sl.mk (below_tr HB3.out hb4)
    have HC := Sl.mk (rcheck_any A2 n2 c2 X w4 hn1 (HY3.out.be hb4))
    unfold CkPost at HC
    rw [hce] at HC
    clear hx hb4 hce HS HX3 HY3 HB3 HVR hvr h0
    go_wp2_with fail
    refine HC.out.mono ?_
    rintro e w5 ⟨rfl, hb5⟩
    have HB5 := Sl.mk (below_tr HB4.out hb5)
    clear hb5 HC HB4
    go_wp2_with fail
    refine (HK.out _ HB5.out).mono ?_
    rintro e w8 ⟨rfl, hb8⟩
    have HB8 := Sl.mk (below_tr HB5.out hb8)
    clear hb8
    go_wp2_with fail
    go_ret
    exact ⟨ret_bool (by simp), HB8.out⟩
set_option maxRecDepth 100000 in
theorem codeverifies_any {H : Type} {enc : TypeId × Value → H} (W : World) (base : Nat) {v0 : Value} {d0 : DataW H} {p0 : List MemPlace}
    (h0 : DataW.Trod enc Tryd.prog W 0 (fun _ => true) true 29 v0 d0 p0)
    (o0 : Value.okWide Tryd.prog W .any base 29 v0) (hT : Spw W W.heap.size) :
    Calls Tryd.prog 4 #[v0] W fun e w' => e = .returned (.bool true) ∧ Below W.heap.size W w' := by
  obtain ⟨A, n, c, l, rfl, hn1, hn2, hI⟩ := open_instrs h0 o0
  exact lawVerifies A n c l W (Nat.le_trans hn1 hn2) hI hT
end Go.Proofs.YtliealcdiogilaaDoor
