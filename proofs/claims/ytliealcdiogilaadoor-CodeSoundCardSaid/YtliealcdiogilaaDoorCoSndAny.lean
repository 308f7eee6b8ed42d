/-
  CodeSound at any input.
-/
import Derived.Test.YtliealcdiogilaaDoorCoVerAny
import Derived.Test.YtliealcdiogilaaDoorCoSnd
import Derived.Deep.Grids
namespace Go.Proofs.YtliealcdiogilaaDoor
open Go.ChangeShapes Go.WideShapes Go.ChangeAt Go.RowKit Go.ChangeMaps Go.Deep
attribute [local go_sem ↓] Go.wp_at_zero Go.wp_at_succ

/-- The ways that come in. -/
def Ways (w : World) (A : Option Addr) (n : Nat) : Prop := ∀ i, i < n → ∃ b o x, A = some ⟨b, o, none⟩ ∧ b < w.heap.size ∧ w.cell? ⟨b, o + i, none⟩ = some (.bool x)
set_option maxRecDepth 100000 in
set_option maxHeartbeats 16000000 in
theorem lawSound (A Aw : Option Addr) (n c nw cw : Nat) (l : List Ci) (w : World) (hn : n ≤ 9223372036854775807) (hI : Rs w A n l) (hW : Ways w Aw nw) (hP : Spw w w.heap.size) :
    Calls Tryd.prog 5 #[.slice A n c, .slice Aw nw cw] w (RPost w true) := by
  have HT := Sl.mk (to_any A n c l w hn hI)
  have HXL := Sl.mk (cut_len l)
  obtain ⟨X, hX⟩ : ∃ X, (l.take 201).map cutI = X := ⟨_, rfl⟩
  rw [hX] at HT HXL
  have HP := Sl.mk hP
  have HWY := Sl.mk hW
  have HK := Sl.mk (fun (W : World) (hb : Below w.heap.size w W) => known_any W ((hP.be hb).mono hb.size))
  unfold RPost at HK
  clear hX hI hP hn hW
  go_enter Tryd.func5, Tryd.ntmps5
  go_wp2_with fail
  refine HT.out.mono ?_
  intro e w1 hx
  obtain ⟨A1, n1, c1, rfl, hI1, hn1, hb1⟩ := tf_is hx HXL.out
  have HI1 := Sl.mk hI1
  have HN1 := Sl.mk hI1.n_
  have HB1 := Sl.mk hb1
  have HS := Sl.mk (states_any A1 n1 c1 X w1 hn1 hI1 (HP.out.all hb1))
  clear hx hI1 hb1 HT
  obtain ⟨ci, ce, hce⟩ : ∃ ci ce, chkF X = (ci, ce) := ⟨_, _, rfl⟩
  obtain ⟨r1, r2, r3, hr⟩ : ∃ r1 r2 r3, verF X = (r1, r2, r3) := ⟨_, _, _, rfl⟩
  by_cases h0 : ce = 0
  · subst h0
    by_cases h3 : r3 = 0
    · subst h3
      obtain ⟨hc1, hc2, hc3⟩ := chk_zero (l := X) (by rw [hce])
      have HRR := Sl.mk (show ∀ (j : Nat) (y : Ci), X[j]? = some y → rightI y (n1 : Nat) = true by rw [← HN1.out]; exact hc2)
      have hn200 : n1 ≤ 200 := by rw [← HN1.out]; exact hc1
      obtain ⟨hsd, hs0⟩ := verF_sound hr
      have HSD := Sl.mk hsd
      have HS0 := Sl.mk hs0
      go_wp2_with fail
      refine HS.out.mono ?_
      intro e w2 hx
      obtain ⟨hb2, sb, rfl, -, -, hBs, hl1, hls⟩ := st_ok hx (by rw [hce]) (by rw [hr])
      rw [hr] at hBs hl1 hls
      rw [HN1.out] at hl1 ⊢
      have HB2 := Sl.mk (below_tr HB1.out hb2)
      have HX2 := Sl.mk (HI1.out.be hb2)
      have HBS := Sl.mk hBs
      have HL1 := Sl.mk (show r1.length = n1 + 1 from hl1)
      have HLS := Sl.mk (show ∀ s ∈ r1, s.length ≤ 16 from hls)
      clear hx hb2 hBs hl1 hls hc1 hc2 hc3 hr hce HS HI1 hsd hs0
      go_wp2_with fail
      go_loopg [8, 9, 10] 200 (fun q v8 v9 v10 wr => ∃ (i at_ : Nat) (st : List UInt8), q = 200 - i ∧ i ≤ 200 ∧ at_ ≤ n1 ∧ v10 = .int .i64 i ∧ v8 = .int .i64 at_ ∧ v9 = .string (bsS st) ∧ Sl (r1.getD at_ [] = st ∧ st ≠ [45]) ∧ Below w2.heap.size w2 wr)
      case atStart => exact ⟨0, 0, [], rfl, by omega, Nat.zero_le _, rfl, rfl, rfl, ⟨HS0.out, by decide⟩, Below.refl _ _⟩
      case round =>
        obtain ⟨i, at_, st, hq, hi, hat, rfl, rfl, rfl, HST, hE⟩ := hrel
        have hal : at_ < r1.length := by rw [HL1.out]; omega
        have d1 := ((HBS.out.be hE).cell at_).trans (strsC_get hal)
        rw [HST.out.1] at d1
        have hst16 : st.length ≤ 16 := by
          have := HST.out.1
          rw [List.getD_eq_getElem?_getD, List.getElem?_eq_getElem hal] at this
          rw [← this]
          exact HLS.out _ (List.getElem_mem hal)
        have hatN : (at_ : Int) < (n1 : Int) + 1 := by omega
        have HE := Sl.mk (below_tr HB2.out hE)
        have HE2 := Sl.mk hE
        have e0 : ((bsS st).toList == (bsS st).toList) = true := by simp
        by_cases hend : i < 200 ∧ at_ < n1
        · obtain ⟨hi2, ha2⟩ := hend
          have hii : (i : Int) < 200 := by omega
          have hai : (at_ : Int) < n1 := by omega
          obtain ⟨⟨op, m, sx⟩, hx⟩ : ∃ x, X[at_]? = some x := ⟨_, List.getElem?_eq_getElem (by rw [HN1.out]; exact ha2)⟩
          have hxg : X.getD at_ default = ⟨op, m, sx⟩ := by rw [List.getD_eq_getElem?_getD, hx]; rfl
          have hcl := HSD.out at_ (by rw [HN1.out]; exact ha2)
          rw [hxg, HST.out.1] at hcl
          obtain ⟨s, hbh, hnx⟩ := hcl.resolve_left HST.out.2
          have hsn := nt_ne (beh_right hbh).2
          have HNX := Sl.mk hnx
          have HR := Sl.mk (HRR.out at_ _ hx)
          have HX3 : Sl (∀ W, Below wr.heap.size wr W → ∃ ab ao, A1 = some ⟨ab, ao, none⟩ ∧ W.cell? ⟨ab, ao + at_ * 3, none⟩ = some (.int .i64 op) ∧ W.cell? ⟨ab, ao + at_ * 3 + 1, none⟩ = some (.int .i64 m)) := Sl.mk (fun W hW => by
            obtain ⟨b', o', e', hbl', hld', _⟩ := ((HX2.out.be hE).be hW).lit hx
            have h0 := hld' 0 _ rfl
            have h1 := hld' 1 _ rfl
            rw [Addr.add_lit] at h0 h1
            exact ⟨b', o', e', h0, h1⟩)
          obtain ⟨ab, ao, hA1, g0, g1⟩ := HX3.out wr (Below.refl _ _)
          subst hA1
          have HBE := Sl.mk (behind_any st op wr (by omega) (HP.out.all HE.out))
          unfold BehPost at HBE
          rw [hbh] at HBE
          have HQ := Sl.mk (show 200 - (i + 1) < gk ∧ i + 1 ≤ 200 by omega)
          clear hx hxg hcl hbh hnx hq hE hal
          go_wp2_with fail
          refine HBE.out.mono ?_
          rintro e w4 ⟨rfl, hb4⟩
          have HE4 := Sl.mk (below_tr HE.out hb4)
          have HE42 := Sl.mk (below_tr HE2.out hb4)
          obtain ⟨b', o', e', k0, k1⟩ := HX3.out w4 hb4
          injection e' with e'
          injection e' with e1 e2
          subst e1 e2
          clear hb4 HBE g0 g1
          by_cases hs1 : op = 0 ∨ op = 21
          · rcases hs1 with rfl | rfl
            all_goals
              go_wp2_with (go_at_call 9; refine (HK.out _ HE4.out).mono ?_; rintro e w5 ⟨rfl, hb5⟩; have HE5 := Sl.mk (below_tr HE4.out hb5); clear hb5)
              go_ret
              exact ⟨rfl, HE5.out⟩
          · by_cases h11 : op = 11
            · subst h11
              obtain ⟨hm0, hmn⟩ := right_in HR.out (Or.inl rfl)
              obtain ⟨j, rfl⟩ : ∃ j : Nat, m = j := ⟨m.toNat, by omega⟩
              have HS2 := Sl.mk (show r1.getD j [] = s ∧ s ≠ [45] from ⟨HNX.out j (by simp [nextI, nextB]), hsn⟩)
              have hjn : j ≤ n1 := by omega
              clear hs1
              go_wp2_with fail
              go_roundg (200 - (i + 1))
              case measure => exact HQ.out.1
              case rel => exact ⟨i + 1, j, s, rfl, HQ.out.2, hjn, by go_num, rfl, rfl, HS2, HE42.out⟩
            · by_cases h12 : op = 12
              · subst h12
                obtain ⟨hm0, hmn⟩ := right_in HR.out (Or.inr rfl)
                obtain ⟨j, rfl⟩ : ∃ j : Nat, m = j := ⟨m.toNat, by omega⟩
                have HS2 := Sl.mk (show r1.getD j [] = s ∧ s ≠ [45] from ⟨HNX.out j (by simp [nextI, nextB]), hsn⟩)
                have HS3 := Sl.mk (show r1.getD (at_ + 1) [] = s ∧ s ≠ [45] from ⟨HNX.out (at_ + 1) (by simp [nextI, nextA]), hsn⟩)
                have hjn : j ≤ n1 := by omega
                clear hs1 h11
                by_cases hwi : i < nw
                · obtain ⟨wb, wo, x, rfl, hwb, hwc⟩ := HWY.out i hwi
                  have hw4 : w4.cell? ⟨wb, wo + i, none⟩ = some (.bool x) := by rw [HE4.out.cell (p := ⟨wb, wo + i, none⟩) hwb]; exact hwc
                  have hiw : (i : Int) < nw := by omega
                  clear hwc
                  cases x
                  · go_wp2_with fail
                    go_roundg (200 - (i + 1))
                    case measure => exact HQ.out.1
                    case rel => exact ⟨i + 1, at_ + 1, s, rfl, HQ.out.2, by omega, by go_num, by go_num, rfl, HS3, HE42.out⟩
                  · go_wp2_with fail
                    go_roundg (200 - (i + 1))
                    case measure => exact HQ.out.1
                    case rel => exact ⟨i + 1, j, s, rfl, HQ.out.2, hjn, by go_num, rfl, rfl, HS2, HE42.out⟩
                · have hiw : ¬ (i : Int) < nw := by omega
                  go_wp2_with fail
                  go_roundg (200 - (i + 1))
                  case measure => exact HQ.out.1
                  case rel => exact ⟨i + 1, at_ + 1, s, rfl, HQ.out.2, by omega, by go_num, by go_num, rfl, HS3, HE42.out⟩
              · have HS3 := Sl.mk (show r1.getD (at_ + 1) [] = s ∧ s ≠ [45] from ⟨HNX.out (at_ + 1) (by
                  show at_ + 1 ∈ nextA op at_ ++ nextB op m.toNat
                  unfold nextA
                  rw [if_pos ⟨fun e => hs1 (.inl e), h11, fun e => hs1 (.inr e)⟩]
                  simp), hsn⟩)
                have b0 : (op == 0) = false := beq_eq_false_iff_ne.2 (fun e => hs1 (.inl e))
                have b21 : (op == 21) = false := beq_eq_false_iff_ne.2 (fun e => hs1 (.inr e))
                have b11 : (op == 11) = false := beq_eq_false_iff_ne.2 h11
                have b12 : (op == 12) = false := beq_eq_false_iff_ne.2 h12
                clear hs1 h11 h12
                go_wp2_with fail
                go_roundg (200 - (i + 1))
                case measure => exact HQ.out.1
                case rel => exact ⟨i + 1, at_ + 1, s, rfl, HQ.out.2, by omega, by go_num, by go_num, rfl, HS3, HE42.out⟩
        · have hfin : ∀ W, Below wr.heap.size wr W → W.cell? ⟨sb, at_, none⟩ = some (.string (bsS st)) := fun W hW => by
            have := (((HBS.out.be hE).be hW).cell at_).trans (strsC_get hal)
            rw [HST.out.1] at this
            exact this
          have HFIN := Sl.mk hfin
          clear hfin hq hE hal
          by_cases hi2 : i < 200
          · have hii : (i : Int) < 200 := by omega
            have hai : ¬ (at_ : Int) < n1 := by omega
            clear hend
            go_wp2_with fail
            refine (HK.out _ HE.out).mono ?_
            rintro e w5 ⟨rfl, hb5⟩
            have HE5 := Sl.mk (below_tr HE.out hb5)
            have d5 := HFIN.out w5 hb5
            clear hb5
            go_wp2_with fail
            go_ret
            exact ⟨ret_bool (by simp), HE5.out⟩
          · have hii : ¬ (i : Int) < 200 := by omega
            clear hend
            go_wp2_with fail
            refine (HK.out _ HE.out).mono ?_
            rintro e w5 ⟨rfl, hb5⟩
            have HE5 := Sl.mk (below_tr HE.out hb5)
            have d5 := HFIN.out w5 hb5
            clear hb5
            go_wp2_with fail
            go_ret
            exact ⟨ret_bool (by simp), HE5.out⟩
    · have hb3 : (r3 != 0) = true := by simpa using h3
      go_wp2_with fail
      refine HS.out.mono ?_
      intro e w2 hx
      obtain ⟨hb2, rfl⟩ := st_bad hx (by rw [hce]) (by rw [hr]; exact h3)
      rw [hr]
      have HB2 := Sl.mk (below_tr HB1.out hb2)
      clear hx hb2 hr hce HS h3
      go_wp2_with (go_at_call 9; refine (HK.out _ HB2.out).mono ?_; rintro e w5 ⟨rfl, hb5⟩; have HE5 := Sl.mk (below_tr HB2.out hb5); clear hb5)
      go_ret
      exact ⟨rfl, HE5.out⟩
  · have hb0 : (ce != 0) = true := by simpa using h0
    go_wp2_with fail
    refine HS.out.mono ?_
    intro e w2 hx
    obtain ⟨hb2, rfl⟩ := st_bad0 hx (by rw [hce]; exact h0)
    rw [hce]
    have HB2 := Sl.mk (below_tr HB1.out hb2)
    clear hx hb2 hr hce HS h0
    go_wp2_with (go_at_call 9; refine (HK.out _ HB2.out).mono ?_; rintro e w5 ⟨rfl, hb5⟩; have HE5 := Sl.mk (below_tr HB2.out hb5); clear hb5)
    go_ret
    exact ⟨rfl, HE5.out⟩
set_option maxRecDepth 100000 in
theorem open_ways {H : Type} {enc : TypeId × Value → H} {W : World} {v : Value} {d : DataW H} {p : List MemPlace} (h0 : DataW.Trod enc Tryd.prog W 0 (fun _ => true) true 43 v d p) {base : Nat} (o : Value.okWide Tryd.prog W .any base 43 v) :
    ∃ (A : Option Addr) (n c : Nat), v = .slice A n c ∧ Ways W A n := by
  obtain ⟨A0, n0, c0, rfl⟩ := okWide_slice Tryd.underlying43 o
  obtain ⟨fuel, h⟩ := h0
  rcases open_bools Tryd.underlying43 Tryd.underlying4 (by kernel_rfl) h with ⟨hcs, -⟩ | ⟨a, len, cap, B, hcs, -, hl, -, -, hc⟩
  · simp [Value.cells] at hcs
    obtain ⟨rfl, rfl, rfl⟩ := hcs
    exact ⟨none, 0, 0, rfl, fun i hi => absurd hi (Nat.not_lt_zero _)⟩
  · simp [Value.cells] at hcs
    obtain ⟨rfl, rfl, rfl⟩ := hcs
    refine ⟨some a, n0, c0, rfl, fun i hi => ?_⟩
    have e := addr_lit (hc 0 (by omega))
    have h1 := hc i (by omega)
    have h2 := cell_lt' h1
    rw [block_of_add] at h2
    rw [e, Addr.add_lit] at h1
    exact ⟨a.block, a.off, B i, by rw [← e], h2, h1⟩
set_option maxRecDepth 100000 in
theorem codesound_any {H : Type} {enc : TypeId × Value → H} (W : World) (base : Nat) {v0 v1 : Value} {d0 d1 : DataW H} {p0 p1 : List MemPlace}
    (h0 : DataW.Trod enc Tryd.prog W 0 (fun _ => true) true 29 v0 d0 p0) (h1 : DataW.Trod enc Tryd.prog W 0 (fun _ => true) true 43 v1 d1 p1)
    (o0 : Value.okWide Tryd.prog W .any base 29 v0) (o1 : Value.okWide Tryd.prog W .any base 43 v1) (hT : Spw W W.heap.size) :
    Calls Tryd.prog 5 #[v0, v1] W fun e w' => e = .returned (.bool true) ∧ Below W.heap.size W w' := by
  obtain ⟨A, n, c, l, rfl, hn1, hn2, hI⟩ := open_instrs h0 o0
  obtain ⟨A2, n2, c2, rfl, hW⟩ := open_ways h1 o1
  exact lawSound A A2 n c n2 c2 l W (Nat.le_trans hn1 hn2) hI hW hT
end Go.Proofs.YtliealcdiogilaaDoor
