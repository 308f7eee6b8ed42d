/-
  The walk of CodecPlaces.
-/
import Derived.Test.YtbnmbncjefnpiaaDoorCd7
namespace Go.Proofs.YtbnmbncjefnpiaaDoor
open Go.RowKit
attribute [local go_sem ↓] Go.wp_at_zero Go.wp_at_succ

theorem atV_sub : ∀ (p : List Int) (v y : Vc) (m : Nat), allV v = true → depV v ≤ m → atV v p = some y → allV y = true ∧ depV y ≤ m
  | [], v, y, m, ha, hd, h => by
    injection h with h
    rw [← h]; exact ⟨ha, hd⟩
  | i :: p, v, y, m, ha, hd, h => by
    obtain ⟨k, n, b, l⟩ := v
    by_cases hc : (Vc.mk k n b l).k = 2 ∧ 0 ≤ i ∧ i < ((Vc.mk k n b l).l.length : Nat)
    · rw [atV, if_pos hc] at h
      cases hx : (Vc.mk k n b l).l[i.toNat]? with
      | none => rw [hx] at h; cases h
      | some x =>
        rw [hx] at h
        have hxm : x ∈ l := List.mem_of_getElem? hx
        simp only [allV, Bool.and_eq_true] at ha
        have hk : k = 2 := hc.1
        rw [depV, if_pos hk] at hd
        have h2 := depL_mem x hxm
        exact atV_sub p x y m (allL_mem ha.2 x hxm) (by omega) h
    · rw [atV, if_neg hc] at h; cases h
theorem enc_eq {V W : Vc} (hV : allV V = true) (hW : allV W = true) : eqV V W = eqB (encV V) (encV W) := by
  by_cases h : V = W
  · subst h
    rw [(eqV_iff _ _).2 rfl]
    exact (decide_eq_true rfl).symm
  · have h1 : eqV V W = false := by
      cases he : eqV V W
      · rfl
      · exact absurd ((eqV_iff _ _).1 he) h
    rw [h1]
    refine (decide_eq_false fun e => h ?_).symm
    exact (enc_split V W [] [] hV hW (by rw [e])).1
def boolM : Value → Nat
  | .bool true => 1
  | _ => 0
/-- What the loop knows: where y stands. -/
def AtI (V : Vc) (p : List Int) (t : Bool) (y : Vc) (i : Nat) : Prop := if t = true then atV V p = atV y (p.drop i) else atV V p = none

set_option maxRecDepth 100000 in
set_option maxHeartbeats 8000000 in
theorem places_walk (A1 A2 A3 : Option Addr) (n1 c1 n2 c2 n3 c3 : Nat) (l1 l2 : List Tx) (zs : List Int) (w : World) (hI1 : Toks w A1 n1 l1) (hI2 : Toks w A2 n2 l2) (hz : zs.length = n3) (hzc : n3 ≤ c3) (hR : Reads w w.heap.size 1 A3 n3 (intsV zs)) (hP : Pw w w.heap.size) :
    Calls Tryd.prog 4 #[.slice A1 n1 c1, .slice A2 n2 c2, .slice A3 n3 c3] w fun e w' => e = .returned (.bool true) ∧ Below w.heap.size w w' := by
  have HB1 := Sl.mk (build_any A1 n1 c1 l1 w hI1)
  have HB2 := Sl.mk (fun W (hW : Below w.heap.size w W) => build_any A2 n2 c2 l2 W (hI2.be hW))
  have hC1 := encC_of (q := l1.map Tx.t) (fun t ht => by
    obtain ⟨x, hx, rfl⟩ := List.mem_map.1 ht
    exact ⟨(hI1.ok x hx).n1, (hI1.ok x hx).n2⟩)
  have hC2 := encC_of (q := l2.map Tx.t) (fun t ht => by
    obtain ⟨x, hx, rfl⟩ := List.mem_map.1 ht
    exact ⟨(hI2.ok x hx).n1, (hI2.ok x hx).n2⟩)
  have HP := Sl.mk hP
  have HKN := Sl.mk (fun W (hW : Below w.heap.size w W) => known_any W ((HP.out.be hW).mono hW.size))
  obtain ⟨q, hq⟩ : ∃ q, min n3 10 = q := ⟨_, rfl⟩
  have hqn : q ≤ n3 := by omega
  have hq10 : q ≤ 10 := by omega
  have hqi : min (n3 : Int) 10 = (q : Int) := by omega
  have hqc : (q : Int) ≤ (c3 : Int) := by omega
  have hRq := reads_take hR hqn
  rw [show (intsV zs).take q = intsV (zs.take q) by simp [intsV]] at hRq
  obtain ⟨p, hp⟩ : ∃ p, zs.take q = p := ⟨_, rfl⟩
  have hpl : p.length = q := by rw [← hp, List.length_take, hz]; omega
  rw [hp] at hRq
  have HRP := Sl.mk hRq
  have HPL := Sl.mk hpl
  unfold BldPost at HB1 HB2
  obtain ⟨V, hV⟩ : ∃ V, valB (l1.map Tx.t) = V := ⟨_, rfl⟩
  obtain ⟨OK, hOK⟩ : ∃ OK, (runB (l1.map Tx.t)).ok = OK := ⟨_, rfl⟩
  obtain ⟨D, hD⟩ : ∃ D, (runB (l1.map Tx.t)).d = D := ⟨_, rfl⟩
  rw [hV, hOK, hD] at HB1 hC1
  obtain ⟨E, hE⟩ : ∃ E, chkV V 1 = E := ⟨_, rfl⟩
  rw [hE] at hC1
  obtain ⟨V', hV'⟩ : ∃ V, valB (l2.map Tx.t) = V := ⟨_, rfl⟩
  obtain ⟨OK', hOK'⟩ : ∃ OK, (runB (l2.map Tx.t)).ok = OK := ⟨_, rfl⟩
  obtain ⟨D', hD'⟩ : ∃ D, (runB (l2.map Tx.t)).d = D := ⟨_, rfl⟩
  rw [hV', hOK', hD'] at HB2 hC2
  obtain ⟨E', hE'⟩ : ∃ E, chkV V' 1 = E := ⟨_, rfl⟩
  rw [hE'] at hC2
  have HC1 := Sl.mk hC1
  have HC2 := Sl.mk hC2
  clear hI1 hI2 hC1 hC2 hP hV hOK hD hE hV' hOK' hD' hE' hR hRq hp hpl hq hz
  go_enter Tryd.func4, Tryd.ntmps4
  go_wp2_with fail
  refine HB1.out.mono ?_
  rintro e w1 ⟨x, rfl, hxv, hxk, hB1⟩
  clear HB1
  have hxi1 : VxIn w1 x := VxOk.mono (fun g hg => hg.2) _ hxk
  have HXV := Sl.mk hxv
  obtain ⟨k7, n7, pb7, b7, cb7, pl7, l7, cl7⟩ := x
  rw [vxC_mk]
  have hba := below_al (Below.refl w1.heap.size w1) (.cells #[.int .i64 k7, .int .i64 n7, .slice pb7 b7.length cb7, .slice pl7 l7.length cl7] 26)
  have hX2 := Blk.new w1 26 #[.int .i64 k7, .int .i64 n7, .slice pb7 b7.length cb7, .slice pl7 l7.length cl7]
  have hxi2 := hxi1.be hba
  have hE2 := below_tr hB1 hba
  clear hxk hxi1 hxv hB1
  obtain ⟨w2, hw2⟩ : ∃ w2, w1.alloc (.cells #[.int .i64 k7, .int .i64 n7, .slice pb7 b7.length cb7, .slice pl7 l7.length cl7] 26) = w2 := ⟨_, rfl⟩
  rw [hw2] at hX2 hxi2 hE2
  have HW2 := Sl.mk hw2
  have HXI2 := Sl.mk hxi2
  clear hw2 hba hxi2
  go_wp2_with fail
  rw [HW2.out]
  refine (HB2.out w2 hE2).mono ?_
  rintro e w3 ⟨x', rfl, hxv', hxk', hB3⟩
  have hxi3 : VxIn w3 x' := VxOk.mono (fun g hg => hg.2) _ hxk'
  have HXV' := Sl.mk hxv'
  obtain ⟨k8, n8, pb8, b8, cb8, pl8, l8, cl8⟩ := x'
  rw [vxC_mk]
  have hba := below_al (Below.refl w3.heap.size w3) (.cells #[.int .i64 k8, .int .i64 n8, .slice pb8 b8.length cb8, .slice pl8 l8.length cl8] 26)
  have hY4 := Blk.new w3 26 #[.int .i64 k8, .int .i64 n8, .slice pb8 b8.length cb8, .slice pl8 l8.length cl8]
  have hX4 := hX2.be (below_tr hB3 hba)
  have hE4 := below_tr hE2 (below_tr hB3 hba)
  have hxi4 := HXI2.out.be (below_tr hB3 hba)
  have hyi4 := hxi3.be hba
  obtain ⟨w4, hw4⟩ : ∃ w4, w3.alloc (.cells #[.int .i64 k8, .int .i64 n8, .slice pb8 b8.length cb8, .slice pl8 l8.length cl8] 26) = w4 := ⟨_, rfl⟩
  rw [hw4] at hY4 hX4 hE4 hxi4 hyi4
  have HW4 := Sl.mk hw4
  have HXI4 := Sl.mk hxi4
  have HYI4 := Sl.mk hyi4
  have HAT := Sl.mk (at_any (.mk k7 n7 pb7 b7 cb7 pl7 l7 cl7) A3 q c3 p w4 hxi4 HPL.out (by omega) ((HRP.out.below hE4).more hE4.size))
  rw [HXV.out, vxC_mk] at HAT
  clear hxk' hxi3 hxv' hB3 hba hX2 hE2 hw4 hxi4 hyi4 HXI2 HW2 HB2
  go_upto_region 3 with fail
  rw [HW4.out]
  go_wp2_with (refine ld_vxG hX4 (by rfl) (.tmp 7) rfl rfl ?_)
  refine HAT.out.mono ?_
  intro e w5 hAP
  have hB5 := hAP.1
  have hres : ∃ (k9 n9 : Int) (pb9 : Option Addr) (bl9 cb9 : Nat) (pl9 : Option Addr) (ll9 cl9 : Nat) (F : Int), e = .returned (.tuple #[.agg #[.int .i64 k9, .int .i64 n9, .slice pb9 bl9 cb9, .slice pl9 ll9 cl9], .int .i64 F]) ∧
      ((atV V p = none ∧ F = 7) ∨ (∃ y x' : Vc, atV V p = some y ∧ F = 0) ∧ ∃ (x' : Vx) (y : Vc), atV V p = some y ∧ vxC x' = [.int .i64 k9, .int .i64 n9, .slice pb9 bl9 cb9, .slice pl9 ll9 cl9] ∧ x'.v = copN 8 y ∧ VxIn w5 x') := by
    have h2 := hAP.2
    cases hav : atV V p with
    | none =>
      rw [hav] at h2
      exact ⟨0, 0, none, 0, 0, none, 0, 0, 7, h2, .inl ⟨rfl, rfl⟩⟩
    | some y =>
      rw [hav] at h2
      obtain ⟨x', he, hv, hk⟩ := h2
      obtain ⟨k9, n9, pb9, b9, cb9, pl9, l9, cl9⟩ := x'
      exact ⟨k9, n9, pb9, b9.length, cb9, pl9, l9.length, cl9, 0, he, .inr ⟨⟨y, y, rfl, rfl⟩, _, y, rfl, vxC_mk .., hv, hk⟩⟩
  obtain ⟨k9, n9, pb9, bl9, cb9, pl9, ll9, cl9, F, rfl, hF⟩ := hres
  have HF := Sl.mk hF
  have hba := below_al (below_al (Below.refl w5.heap.size w5) (.cells #[.int .i64 k9, .int .i64 n9, .slice pb9 bl9 cb9, .slice pl9 ll9 cl9] 26)) (.cells #[.int .i64 k7, .int .i64 n7, .slice pb7 b7.length cb7, .slice pl7 l7.length cl7] 26)
  have hA6 := (Blk.new w5 26 #[.int .i64 k9, .int .i64 n9, .slice pb9 bl9 cb9, .slice pl9 ll9 cl9]).alloc (.cells #[.int .i64 k7, .int .i64 n7, .slice pb7 b7.length cb7, .slice pl7 l7.length cl7] 26)
  have hZ6 : Blk ((w5.alloc (.cells #[.int .i64 k9, .int .i64 n9, .slice pb9 bl9 cb9, .slice pl9 ll9 cl9] 26)).alloc (.cells #[.int .i64 k7, .int .i64 n7, .slice pb7 b7.length cb7, .slice pl7 l7.length cl7] 26)) (w5.heap.size + 1) 26 #[.int .i64 k7, .int .i64 n7, .slice pb7 b7.length cb7, .slice pl7 l7.length cl7] := Blk.new' (by simp)
  have hws5 : (w5.alloc (.cells #[.int .i64 k9, .int .i64 n9, .slice pb9 bl9 cb9, .slice pl9 ll9 cl9] 26)).heap.size = w5.heap.size + 1 := by simp
  have hX5 := hX4.be hB5
  have hX6 := hX5.be hba
  have hY6 := hY4.be (below_tr hB5 hba)
  have hE6 := below_tr hE4 (below_tr hB5 hba)
  have HXI5 := Sl.mk (HXI4.out.be hB5)
  have HXI6 := Sl.mk (HXI5.out.be hba)
  have HYI5 := Sl.mk (HYI4.out.be hB5)
  have hE5s := Sl.mk (Nat.le_trans hE4.size hB5.size)
  have hX5lt := Sl.mk hX5.lt
  have hY5lt := Sl.mk (Nat.lt_of_lt_of_le hY4.lt hB5.size)
  have HB56 := Sl.mk hba
  obtain ⟨w6, hw6⟩ : ∃ w6, (w5.alloc (.cells #[.int .i64 k9, .int .i64 n9, .slice pb9 bl9 cb9, .slice pl9 ll9 cl9] 26)).alloc (.cells #[.int .i64 k7, .int .i64 n7, .slice pb7 b7.length cb7, .slice pl7 l7.length cl7] 26) = w6 := ⟨_, rfl⟩
  rw [hw6] at hA6 hZ6 hX6 hY6 hE6 HXI6 HB56
  have HW6 := Sl.mk hw6
  have hX5a := hX5.alloc (.cells #[.int .i64 k9, .int .i64 n9, .slice pb9 bl9 cb9, .slice pl9 ll9 cl9] 26)
  have hs56 : w5.heap.size + 2 ≤ w6.heap.size := by rw [← hw6]; simp
  clear hAP hF hba hX4 hY4 hE4 hw6 HAT hX5
  go_wp2_with (refine ld_vxG hX5a (by rfl) (.tmp 7) rfl rfl ?_)
  rw [HW6.out]
  clear hX5a hB5
  have hb0 := Sl.mk (show ∃ y : Vx, y = .mk k7 n7 pb7 b7 cb7 pl7 l7 cl7 ∧ VxIn w6 y from ⟨_, rfl, HXI6.out⟩)
  go_loopw [16, 17] (fun v16 v17 wr => ∃ (i : Nat) (t : Bool) (y : Vx), i ≤ q ∧ v17 = .int .i64 i ∧ v16 = .bool t ∧ Blk wr (w5.heap.size + 1) 26 (vxC y).toArray ∧ w6.grownBy wr (some (w5.heap.size + 1)) ∧
      Sl (AtI V p t y.v i ∧ VxOk w6 (fun g => g < w5.heap.size) y)) (fun v16 v17 _ => (q - (intOf v17).toNat) + boolM v16)
  case atStart => exact ⟨0, true, .mk k7 n7 pb7 b7 cb7 pl7 l7 cl7, Nat.zero_le _, rfl, rfl, hZ6, only_refl _ _, ⟨by unfold AtI; rw [if_pos rfl, HXV.out]; rfl, VxOk.keep (fun p hp => HB56.out.cell hp) _ HXI5.out⟩⟩
  case round =>
    obtain ⟨i, t, y, hi, rfl, rfl, hZ0, hG, HS⟩ := hrel
    obtain ⟨ky, ny, pby, by_, cby, ply, ly, cly⟩ := y
    obtain ⟨lb, hlb⟩ : ∃ lb, by_.length = lb := ⟨_, rfl⟩
    obtain ⟨lL, hlL⟩ : ∃ lL, ly.length = lL := ⟨_, rfl⟩
    have HBYL := Sl.mk hlb
    have HLYL := Sl.mk hlL
    rw [vxC_mk, hlb, hlL] at hZ0
    have hZ : Blk wr (w5.heap.size + 1) 26 #[.int .i64 ky, .int .i64 ny, .slice pby lb cby, .slice ply lL cly] := hZ0
    have c0 := hZ.cell 0
    have c3 := hZ.cell 3
    have HZO := Sl.mk HS.out.2
    have hEr := below_only hE6 hG hE6.size (by have := hE6.size; have := hE5s.out; omega)
    have hb5r : Below w5.heap.size w5 wr := below_only HB56.out hG HB56.out.size (by omega)
    have HZI : Sl (VxIn wr (.mk ky ny pby by_ cby ply ly cly)) := ⟨VxOk.mono (fun g hg => by have := hb5r.size; omega) _ (VxOk.keep (w' := wr) (fun p hp => World.cell?_of_block (hG.block p.block (by omega) (fun e => by injection e; omega))) _ HZO.out)⟩
    have hll := HZI.out.parts.2.2.ll
    have hlc := HZI.out.parts.2.2.lc
    rw [hlL] at hll hlc
    have hXr := blk_only hX6 hG (by have := hX5lt.out; omega)
    have hYr := blk_only hY6 hG (by have := hY5lt.out; omega)
    have hAr := blk_only hA6 hG (by omega)
    have HXIr := Sl.mk (HXI5.out.be hb5r)
    have HYIr := Sl.mk (HYI5.out.be hb5r)
    clear hlb hlL
    by_cases hil : i < q
    · cases t
      · have hilt : (i : Int) < (q : Int) := by omega
        have hrowp : True := trivial
        have hav : atV V p = none := by
          have h := HS.out.1
          unfold AtI at h
          rw [if_neg (by decide)] at h
          exact h
        have hFF : F = 7 := by
          rcases HF.out with ⟨_, h1⟩ | ⟨⟨y0, _, h2, _⟩, _⟩
          · exact h1
          · rw [hav] at h2; cases h2
        subst hFF
        clear hav
        clear HS hG c0 c3 hrowp
        cases OK
        · skip
          go_wp2_with fail
          refine (HKN.out wr hEr).mono ?_
          rintro e w12 ⟨rfl, hB12⟩
          have hE12 := below_tr hEr hB12
          clear hEr hB12 hXr hYr hAr hZ
          go_wp2_with fail
          go_ret
          exact ⟨rfl, hE12⟩
        · cases OK'
          · skip
            go_wp2_with fail
            refine (HKN.out wr hEr).mono ?_
            rintro e w12 ⟨rfl, hB12⟩
            have hE12 := below_tr hEr hB12
            clear hEr hB12 hXr hYr hAr hZ
            go_wp2_with fail
            go_ret
            exact ⟨rfl, hE12⟩
          · by_cases hD8 : 8 < D
            · skip
              have hDi : (8 : Int) < (D : Int) := by omega
              go_wp2_with fail
              refine (HKN.out wr hEr).mono ?_
              rintro e w12 ⟨rfl, hB12⟩
              have hE12 := below_tr hEr hB12
              clear hEr hB12 hXr hYr hAr hZ
              go_wp2_with fail
              go_ret
              exact ⟨rfl, hE12⟩
            · have hDi : ¬ (8 : Int) < (D : Int) := by omega
              by_cases hD8' : 8 < D'
              · skip
                have hDi' : (8 : Int) < (D' : Int) := by omega
                go_wp2_with fail
                refine (HKN.out wr hEr).mono ?_
                rintro e w12 ⟨rfl, hB12⟩
                have hE12 := below_tr hEr hB12
                clear hEr hB12 hXr hYr hAr hZ
                go_wp2_with fail
                go_ret
                exact ⟨rfl, hE12⟩
              · have hDi' : ¬ (8 : Int) < (D' : Int) := by omega
                have hE1 : E = 0 := by
                  rcases HC1.out.cs with ⟨h, _⟩ | ⟨h, _, _⟩ | ⟨_, _, h⟩ | ⟨_, h, _⟩
                  · cases h
                  · cases h
                  · omega
                  · exact h
                have hE2 : E' = 0 := by
                  rcases HC2.out.cs with ⟨h, _⟩ | ⟨h, _, _⟩ | ⟨_, _, h⟩ | ⟨_, h, _⟩
                  · cases h
                  · cases h
                  · omega
                  · exact h
                subst hE1 hE2
                have HEN1 := Sl.mk (fun W (hW : Below w.heap.size w W) (hx : VxIn W (.mk k7 n7 pb7 b7 cb7 pl7 l7 cl7)) => encode_any (.mk k7 n7 pb7 b7 cb7 pl7 l7 cl7) W hx ((HP.out.be hW).mono hW.size) (by rw [HXV.out]; exact encF_len HC1.out))
                have HEN2 := Sl.mk (fun W (hW : Below w.heap.size w W) (hx : VxIn W (.mk k8 n8 pb8 b8 cb8 pl8 l8 cl8)) => encode_any (.mk k8 n8 pb8 b8 cb8 pl8 l8 cl8) W hx ((HP.out.be hW).mono hW.size) (by rw [HXV'.out]; exact encF_len HC2.out))
                simp only [vxC_mk, HXV.out, HXV'.out] at HEN1 HEN2
                have hX12 := hXr
                have hY12 := hYr
                have hE12 := hEr
                have HXI12 := HXIr
                have HYI12 := HYIr
                clear hXr hYr hAr hZ hEr
                go_wp2_with (refine ld_vxG hX12 (by rfl) (.tmp 7) rfl rfl ?_)
                refine (HEN1.out wr hE12 HXI12.out).mono ?_
                rintro e w13 ⟨A13, n13, c13, rfl, hn13, ho13, hB13⟩
                rw [HC1.out.e]
                have hX13 := hX12.be hB13
                have hY13 := hY12.be hB13
                have hE13 := below_tr hE12 hB13
                have HXI13 := Sl.mk (HXI12.out.be hB13)
                have HYI13 := Sl.mk (HYI12.out.be hB13)
                have HO13 := Sl.mk ho13
                have HN13 := Sl.mk hn13
                clear hX12 hY12 hE12 hB13 ho13 hn13 HEN1
                go_wp2_with (refine ld_vxG hY13 (by rfl) (.tmp 10) rfl rfl ?_)
                refine (HEN2.out w13 hE13 HYI13.out).mono ?_
                rintro e w14 ⟨A14, n14, c14, rfl, hn14, ho14, hB14⟩
                rw [HC2.out.e]
                have hX14 := hX13.be hB14
                have hY14 := hY13.be hB14
                have hE14 := below_tr hE13 hB14
                have HXI14 := Sl.mk (HXI13.out.be hB14)
                have HYI14 := Sl.mk (HYI13.out.be hB14)
                have HO13 := Sl.mk (own_below HO13.out hB14)
                have HO14 := Sl.mk ho14
                have HN14 := Sl.mk hn14
                clear hX13 hY13 hE13 hB14 ho14 hn14 HEN2
                go_wp2_with fail
                refine (HKN.out w14 hE14).mono ?_
                rintro e w15 ⟨rfl, hB15⟩
                have hX15 := hX14.be hB15
                have hY15 := hY14.be hB15
                have hE15 := below_tr hE14 hB15
                have HO15 := Sl.mk (own_below HO13.out hB15)
                have HO15' := Sl.mk (own_below HO14.out hB15)
                have HSM2 := Sl.mk (same_any (.mk k7 n7 pb7 b7 cb7 pl7 l7 cl7) (.mk k8 n8 pb8 b8 cb8 pl8 l8 cl8) w15 (HXI14.out.be hB15) (HYI14.out.be hB15))
                rw [HXV.out, HXV'.out, enc_eq HC1.out.all HC2.out.all, vxC_mk, vxC_mk] at HSM2
                clear hX14 hY14 hE14 hB15
                go_wp2_with (first | refine ld_vxG hX15 (by rfl) (.tmp 7) rfl rfl ?_ | refine ld_vxG hY15 (by rfl) (.tmp 10) rfl rfl ?_)
                refine HSM2.out.mono ?_
                rintro e w16 ⟨rfl, hB16⟩
                have hE16 := below_tr hE15 hB16
                have hef1 : encF V = encV V := by unfold encF; rw [if_pos HC1.out.e]
                have hef2 : encF V' = encV V' := by unfold encF; rw [if_pos HC2.out.e]
                have hr1 := Reads.of_own (own_below HO15.out hB16)
                have hr2 := Reads.of_own (own_below HO15'.out hB16)
                have hl1 := HN13.out
                have hl2 := HN14.out
                rw [hef1] at hr1 hl1
                rw [hef2] at hr2 hl2
                have HRS := Sl.mk (bsame_any A13 A14 n13 c13 n14 c14 (encV V) (encV V') w16 (by have := HC1.out.len; omega) (by have := HC2.out.len; omega) hr1 hr2)
                obtain ⟨bb, hbb⟩ : ∃ bb, eqB (encV V) (encV V') = bb := ⟨_, rfl⟩
                rw [hbb] at HRS ⊢
                clear hX15 hY15 hE15 hB16 hef1 hef2 hr1 hr2 hl1 hl2 HSM2 hbb
                go_wp2_with fail
                refine HRS.out.mono ?_
                rintro e w17 ⟨rfl, kk, hw17⟩
                have hE17 : Below w.heap.size w w17 := by rw [hw17]; exact below_drN hE16 kk
                clear hw17 hE16 HRS
                cases bb
                · go_wp2_with fail
                  go_ret
                  exact ⟨rfl, hE17⟩
                · go_wp2_with fail
                  go_ret
                  exact ⟨rfl, hE17⟩
      · obtain ⟨j, hj⟩ : ∃ j, p[i]? = some j := ⟨_, List.getElem?_eq_getElem (by rw [HPL.out]; exact hil)⟩
        obtain ⟨ad, u, hA3, hadb, hu, hcu⟩ := (HRP.out.below hEr).at_ hil
        obtain rfl : u = .int .i64 j := by
          unfold intsV at hu
          rw [List.getElem?_map, hj] at hu
          simpa using hu.symm
        subst hA3
        have HPI := Sl.mk hj
        have hi0 : (0 : Int) ≤ (i : Int) := by omega
        have hilt : (i : Int) < (q : Int) := by omega
        clear hj hu hadb hXr hYr hAr hEr hb5r HXIr HYIr
        by_cases hk : ky = 2
        · by_cases hj0 : j < 0
          · have hbad : ¬ ((Vx.mk ky ny pby by_ cby ply ly cly).v.k = 2 ∧ 0 ≤ j ∧ j < (Vx.mk ky ny pby by_ cby ply ly cly).v.l.length) := fun h => by omega
            have hk2 : (ky == 2) = true := by simpa using hk
            have hj0' : decide (0 ≤ j) = false := decide_eq_false (by omega)
            clear hk
            have HN := Sl.mk (show AtI V p false (Vx.mk ky ny pby by_ cby ply ly cly).v (i + 1) by
              unfold AtI
              rw [if_neg (by decide)]
              have h := HS.out.1
              unfold AtI at h
              rw [if_pos rfl, drop_one HPI.out] at h
              rw [h]
              unfold atV
              rw [if_neg hbad])
            clear hbad HS
            go_wp2_with fail
            go_quiet (fail)
            go_wp2_with fail
            go_roundw
            case rel => exact ⟨i + 1, false, .mk ky ny pby by_ cby ply ly cly, by omega, by go_num, rfl, by rw [vxC_mk, HBYL.out, HLYL.out]; exact hZ0.drewN _, only_drewN hG _, ⟨HN.out, HZO.out⟩⟩
            case measure => simp [intOf, boolM]; omega
          · by_cases hjl : j < (lL : Int)
            · obtain ⟨m, hm⟩ : ∃ m : Nat, j = m := ⟨j.toNat, by omega⟩
              subst hm
              obtain ⟨z, hz⟩ : ∃ z, ly[m]? = some z := ⟨_, List.getElem?_eq_getElem (by rw [HLYL.out]; omega)⟩
              have hparts := HZI.out.parts.2.1
              obtain ⟨ad2, hpl2, hbl2, hld2, hok2⟩ := hparts.at_ hz
              subst hpl2
              have hzo : VxOk w6 (fun g => g < w5.heap.size) z := (VxOk.iff.1 HZO.out).2.2.2 z (List.mem_of_getElem? hz)
              have HN := Sl.mk (show AtI V p true z.v (i + 1) by
                unfold AtI
                rw [if_pos rfl]
                have h := HS.out.1
                unfold AtI at h
                rw [if_pos rfl, drop_one HPI.out] at h
                rw [h]
                have h1 : (Vx.mk ky ny pby by_ cby (some ad2) ly cly).v.k = 2 ∧ (0 : Int) ≤ (m : Int) ∧ (m : Int) < ((Vx.mk ky ny pby by_ cby (some ad2) ly cly).v.l.length : Nat) := ⟨hk, by omega, by show (m : Int) < ((vsOf ly).length : Nat); rw [vsOf_len, HLYL.out]; exact hjl⟩
                have h2 : (Vx.mk ky ny pby by_ cby (some ad2) ly cly).v.l[m]? = some z.v := vsOf_at hz
                show atV (Vx.mk ky ny pby by_ cby (some ad2) ly cly).v ((m : Int) :: p.drop (i + 1)) = _
                rw [atV, if_pos h1, Int.toNat_natCast, h2])
              have hk2 : (ky == 2) = true := by simpa using hk
              have hj0' : (0 : Int) ≤ (m : Int) := by omega
              have hj0'' : decide ((0 : Int) ≤ (m : Int)) = true := decide_eq_true hj0'
              have hjl' : decide ((m : Int) < (lL : Int)) = true := decide_eq_true hjl
              have HZO2 := Sl.mk hzo
              obtain ⟨kz, nz, pbz, bz, cbz, plz, lz, clz⟩ := z
              rw [vxC_mk] at hld2
              have HLD := Sl.mk hld2
              clear hk hj0 hz hparts hbl2 hok2 hzo hld2 HS
              go_wp2_with fail
              go_quiet (fail)
              have hZq := hZ.drewN nq
              have hGq := only_drewN hG nq
              have hcuq : (wr.drewN nq).cell? (ad.add i) = some (.int .i64 (m : Int)) := hcu
              have HLDq := Sl.mk (show ∀ k, ∀ j v, [Value.int .i64 kz, .int .i64 nz, .slice pbz bz.length cbz, .slice plz lz.length clz][j]? = some v → ((wr.drewN nq).drewN k).cell? ((ad2.add (m * 4)).add j) = some v from fun k => HLD.out)
              obtain ⟨wq, hwq⟩ : ∃ wq, wr.drewN nq = wq := ⟨_, rfl⟩
              rw [hwq] at hZq hGq hcuq HLDq ⊢
              clear hwq hZ hZ0 hG hcu c0 c3 HLD
              have c3 := hZq.cell 3
              go_wp2_with fail
              refine wp_region_quiet_tail 8 (by kernel_rfl) (by kernel_rfl) ?_
              simp only [List.take_succ_cons, List.take_zero, List.drop_succ_cons, List.drop_zero]
              repeat (any_goals (first | (refine wpQuiet_loadW (by rfl) 26 (.tmp 82) rfl (ad2.add (m * 4)) _ rfl (fun w' hw' => by obtain ⟨k, hk⟩ := hw'; rw [hk]; exact run_loadVar_at _ _ 26 [Value.int .i64 kz, .int .i64 nz, .slice pbz bz.length cbz, .slice plz lz.length clz] _ (HLDq.out k) Tryd.underlying26 rfl vxSize) ?_) | go_big_quiet_step (fail) | quiet_step (fail)))
              refine wpQuiet_nil ?_
              intro _ hw'
              obtain ⟨nq, hw''⟩ := hw'
              subst hw''
              have hZs := hZq.drewN nq
              have hGs := only_drewN hGq nq
              go_wp2_with (refine st_vx hZs rfl (.tmp 15) (.tmp 83) rfl kz nz pbz bz.length cbz plz lz.length clz rfl (by rfl) rfl ?_)
              intro w8 hZ8 hG8 _
              have hG9 := only_trans hGs hG8
              clear hG8 hZs hGs hZq hGq hcuq c3
              go_wp2_with fail
              go_roundw
              case rel => exact ⟨i + 1, true, .mk kz nz pbz bz cbz plz lz clz, by omega, by go_num, rfl, hZ8, hG9, ⟨HN.out, HZO2.out⟩⟩
              case measure => simp [intOf, boolM]; omega
            · have hbad : ¬ ((Vx.mk ky ny pby by_ cby ply ly cly).v.k = 2 ∧ 0 ≤ j ∧ j < (Vx.mk ky ny pby by_ cby ply ly cly).v.l.length) := fun h => by
                have h2 := h.2.2
                have h3 : (Vx.mk ky ny pby by_ cby ply ly cly).v.l.length = lL := by rw [Vx.v]; show (vsOf ly).length = lL; rw [vsOf_len, HLYL.out]
                rw [h3] at h2; omega
              have hk2 : (ky == 2) = true := by simpa using hk
              have hj0' : (0 : Int) ≤ j := by omega
              have hj0'' : decide ((0 : Int) ≤ j) = true := decide_eq_true hj0'
              have hjl' : decide (j < (lL : Int)) = false := decide_eq_false hjl
              clear hk
              have HN := Sl.mk (show AtI V p false (Vx.mk ky ny pby by_ cby ply ly cly).v (i + 1) by
                unfold AtI
                rw [if_neg (by decide)]
                have h := HS.out.1
                unfold AtI at h
                rw [if_pos rfl, drop_one HPI.out] at h
                rw [h]
                unfold atV
                rw [if_neg hbad])
              clear hbad HS
              go_wp2_with fail
              go_quiet (fail)
              go_wp2_with fail
              go_roundw
              case rel => exact ⟨i + 1, false, .mk ky ny pby by_ cby ply ly cly, by omega, by go_num, rfl, by rw [vxC_mk, HBYL.out, HLYL.out]; exact hZ0.drewN _, only_drewN hG _, ⟨HN.out, HZO.out⟩⟩
              case measure => simp [intOf, boolM]; omega
        · have hbad : ¬ ((Vx.mk ky ny pby by_ cby ply ly cly).v.k = 2 ∧ 0 ≤ j ∧ j < (Vx.mk ky ny pby by_ cby ply ly cly).v.l.length) := fun h => hk h.1
          have hk2 : (ky == 2) = false := by simpa using hk
          clear hk
          have HN := Sl.mk (show AtI V p false (Vx.mk ky ny pby by_ cby ply ly cly).v (i + 1) by
            unfold AtI
            rw [if_neg (by decide)]
            have h := HS.out.1
            unfold AtI at h
            rw [if_pos rfl, drop_one HPI.out] at h
            rw [h]
            unfold atV
            rw [if_neg hbad])
          clear hbad HS
          go_wp2_with fail
          go_quiet (fail)
          go_wp2_with fail
          go_roundw
          case rel => exact ⟨i + 1, false, .mk ky ny pby by_ cby ply ly cly, by omega, by go_num, rfl, by rw [vxC_mk, HBYL.out, HLYL.out]; exact hZ0.drewN _, only_drewN hG _, ⟨HN.out, HZO.out⟩⟩
          case measure => simp [intOf, boolM]; omega
    · obtain rfl : i = q := by omega
      have hilt : ¬ (i : Int) < (i : Int) := by omega
      have hrowp : True := trivial
      cases t
      · skip
        have hav : atV V p = none := by
          have h := HS.out.1
          unfold AtI at h
          rw [if_neg (by decide)] at h
          exact h
        have hFF : F = 7 := by
          rcases HF.out with ⟨_, h1⟩ | ⟨⟨y0, _, h2, _⟩, _⟩
          · exact h1
          · rw [hav] at h2; cases h2
        subst hFF
        clear hav
        clear HS hG c0 c3 hrowp
        cases OK
        · skip
          go_wp2_with fail
          refine (HKN.out wr hEr).mono ?_
          rintro e w12 ⟨rfl, hB12⟩
          have hE12 := below_tr hEr hB12
          clear hEr hB12 hXr hYr hAr hZ
          go_wp2_with fail
          go_ret
          exact ⟨rfl, hE12⟩
        · cases OK'
          · skip
            go_wp2_with fail
            refine (HKN.out wr hEr).mono ?_
            rintro e w12 ⟨rfl, hB12⟩
            have hE12 := below_tr hEr hB12
            clear hEr hB12 hXr hYr hAr hZ
            go_wp2_with fail
            go_ret
            exact ⟨rfl, hE12⟩
          · by_cases hD8 : 8 < D
            · skip
              have hDi : (8 : Int) < (D : Int) := by omega
              go_wp2_with fail
              refine (HKN.out wr hEr).mono ?_
              rintro e w12 ⟨rfl, hB12⟩
              have hE12 := below_tr hEr hB12
              clear hEr hB12 hXr hYr hAr hZ
              go_wp2_with fail
              go_ret
              exact ⟨rfl, hE12⟩
            · have hDi : ¬ (8 : Int) < (D : Int) := by omega
              by_cases hD8' : 8 < D'
              · skip
                have hDi' : (8 : Int) < (D' : Int) := by omega
                go_wp2_with fail
                refine (HKN.out wr hEr).mono ?_
                rintro e w12 ⟨rfl, hB12⟩
                have hE12 := below_tr hEr hB12
                clear hEr hB12 hXr hYr hAr hZ
                go_wp2_with fail
                go_ret
                exact ⟨rfl, hE12⟩
              · have hDi' : ¬ (8 : Int) < (D' : Int) := by omega
                have hE1 : E = 0 := by
                  rcases HC1.out.cs with ⟨h, _⟩ | ⟨h, _, _⟩ | ⟨_, _, h⟩ | ⟨_, h, _⟩
                  · cases h
                  · cases h
                  · omega
                  · exact h
                have hE2 : E' = 0 := by
                  rcases HC2.out.cs with ⟨h, _⟩ | ⟨h, _, _⟩ | ⟨_, _, h⟩ | ⟨_, h, _⟩
                  · cases h
                  · cases h
                  · omega
                  · exact h
                subst hE1 hE2
                have HEN1 := Sl.mk (fun W (hW : Below w.heap.size w W) (hx : VxIn W (.mk k7 n7 pb7 b7 cb7 pl7 l7 cl7)) => encode_any (.mk k7 n7 pb7 b7 cb7 pl7 l7 cl7) W hx ((HP.out.be hW).mono hW.size) (by rw [HXV.out]; exact encF_len HC1.out))
                have HEN2 := Sl.mk (fun W (hW : Below w.heap.size w W) (hx : VxIn W (.mk k8 n8 pb8 b8 cb8 pl8 l8 cl8)) => encode_any (.mk k8 n8 pb8 b8 cb8 pl8 l8 cl8) W hx ((HP.out.be hW).mono hW.size) (by rw [HXV'.out]; exact encF_len HC2.out))
                simp only [vxC_mk, HXV.out, HXV'.out] at HEN1 HEN2
                have hX12 := hXr
                have hY12 := hYr
                have hE12 := hEr
                have HXI12 := HXIr
                have HYI12 := HYIr
                clear hXr hYr hAr hZ hEr
                go_wp2_with (refine ld_vxG hX12 (by rfl) (.tmp 7) rfl rfl ?_)
                refine (HEN1.out wr hE12 HXI12.out).mono ?_
                rintro e w13 ⟨A13, n13, c13, rfl, hn13, ho13, hB13⟩
                rw [HC1.out.e]
                have hX13 := hX12.be hB13
                have hY13 := hY12.be hB13
                have hE13 := below_tr hE12 hB13
                have HXI13 := Sl.mk (HXI12.out.be hB13)
                have HYI13 := Sl.mk (HYI12.out.be hB13)
                have HO13 := Sl.mk ho13
                have HN13 := Sl.mk hn13
                clear hX12 hY12 hE12 hB13 ho13 hn13 HEN1
                go_wp2_with (refine ld_vxG hY13 (by rfl) (.tmp 10) rfl rfl ?_)
                refine (HEN2.out w13 hE13 HYI13.out).mono ?_
                rintro e w14 ⟨A14, n14, c14, rfl, hn14, ho14, hB14⟩
                rw [HC2.out.e]
                have hX14 := hX13.be hB14
                have hY14 := hY13.be hB14
                have hE14 := below_tr hE13 hB14
                have HXI14 := Sl.mk (HXI13.out.be hB14)
                have HYI14 := Sl.mk (HYI13.out.be hB14)
                have HO13 := Sl.mk (own_below HO13.out hB14)
                have HO14 := Sl.mk ho14
                have HN14 := Sl.mk hn14
                clear hX13 hY13 hE13 hB14 ho14 hn14 HEN2
                go_wp2_with fail
                refine (HKN.out w14 hE14).mono ?_
                rintro e w15 ⟨rfl, hB15⟩
                have hX15 := hX14.be hB15
                have hY15 := hY14.be hB15
                have hE15 := below_tr hE14 hB15
                have HO15 := Sl.mk (own_below HO13.out hB15)
                have HO15' := Sl.mk (own_below HO14.out hB15)
                have HSM2 := Sl.mk (same_any (.mk k7 n7 pb7 b7 cb7 pl7 l7 cl7) (.mk k8 n8 pb8 b8 cb8 pl8 l8 cl8) w15 (HXI14.out.be hB15) (HYI14.out.be hB15))
                rw [HXV.out, HXV'.out, enc_eq HC1.out.all HC2.out.all, vxC_mk, vxC_mk] at HSM2
                clear hX14 hY14 hE14 hB15
                go_wp2_with (first | refine ld_vxG hX15 (by rfl) (.tmp 7) rfl rfl ?_ | refine ld_vxG hY15 (by rfl) (.tmp 10) rfl rfl ?_)
                refine HSM2.out.mono ?_
                rintro e w16 ⟨rfl, hB16⟩
                have hE16 := below_tr hE15 hB16
                have hef1 : encF V = encV V := by unfold encF; rw [if_pos HC1.out.e]
                have hef2 : encF V' = encV V' := by unfold encF; rw [if_pos HC2.out.e]
                have hr1 := Reads.of_own (own_below HO15.out hB16)
                have hr2 := Reads.of_own (own_below HO15'.out hB16)
                have hl1 := HN13.out
                have hl2 := HN14.out
                rw [hef1] at hr1 hl1
                rw [hef2] at hr2 hl2
                have HRS := Sl.mk (bsame_any A13 A14 n13 c13 n14 c14 (encV V) (encV V') w16 (by have := HC1.out.len; omega) (by have := HC2.out.len; omega) hr1 hr2)
                obtain ⟨bb, hbb⟩ : ∃ bb, eqB (encV V) (encV V') = bb := ⟨_, rfl⟩
                rw [hbb] at HRS ⊢
                clear hX15 hY15 hE15 hB16 hef1 hef2 hr1 hr2 hl1 hl2 HSM2 hbb
                go_wp2_with fail
                refine HRS.out.mono ?_
                rintro e w17 ⟨rfl, kk, hw17⟩
                have hE17 : Below w.heap.size w w17 := by rw [hw17]; exact below_drN hE16 kk
                clear hw17 hE16 HRS
                cases bb
                · go_wp2_with fail
                  go_ret
                  exact ⟨rfl, hE17⟩
                · go_wp2_with fail
                  go_ret
                  exact ⟨rfl, hE17⟩
      · skip
        have hay : atV V p = some (Vx.mk ky ny pby by_ cby ply ly cly).v := by
          have h := HS.out.1
          unfold AtI at h
          rw [if_pos rfl, List.drop_of_length_le (by rw [HPL.out]; exact Nat.le_refl _)] at h
          exact h
        have hFF : F = 0 ∧ ∃ x' : Vx, vxC x' = [.int .i64 k9, .int .i64 n9, .slice pb9 bl9 cb9, .slice pl9 ll9 cl9] ∧ x'.v = copN 8 (Vx.mk ky ny pby by_ cby ply ly cly).v ∧ VxIn w5 x' := by
          rcases HF.out with ⟨h1, _⟩ | ⟨⟨_, _, _, h1⟩, x', y0, h2, h3, h4, h5⟩
          · rw [hay] at h1; cases h1
          · rw [hay] at h2; injection h2 with h2; exact ⟨h1, x', h3, by rw [h4, h2], h5⟩
        obtain ⟨hF0, x', hvx, hxv', hxk'⟩ := hFF
        subst hF0
        have HAY := Sl.mk hay
        have HVX := Sl.mk hvx
        have HXP := Sl.mk hxv'
        have HXK' := Sl.mk (hxk'.be hb5r)
        clear hay hvx hxv' hxk'
        clear HS hG c0 c3 hrowp
        cases OK
        · skip
          go_wp2_with fail
          refine (HKN.out wr hEr).mono ?_
          rintro e w12 ⟨rfl, hB12⟩
          have hE12 := below_tr hEr hB12
          clear hEr hB12 hXr hYr hAr hZ
          go_wp2_with fail
          go_ret
          exact ⟨rfl, hE12⟩
        · cases OK'
          · skip
            go_wp2_with fail
            refine (HKN.out wr hEr).mono ?_
            rintro e w12 ⟨rfl, hB12⟩
            have hE12 := below_tr hEr hB12
            clear hEr hB12 hXr hYr hAr hZ
            go_wp2_with fail
            go_ret
            exact ⟨rfl, hE12⟩
          · by_cases hD8 : 8 < D
            · skip
              have hDi : (8 : Int) < (D : Int) := by omega
              go_wp2_with fail
              refine (HKN.out wr hEr).mono ?_
              rintro e w12 ⟨rfl, hB12⟩
              have hE12 := below_tr hEr hB12
              clear hEr hB12 hXr hYr hAr hZ
              go_wp2_with fail
              go_ret
              exact ⟨rfl, hE12⟩
            · have hDi : ¬ (8 : Int) < (D : Int) := by omega
              by_cases hD8' : 8 < D'
              · skip
                have hDi' : (8 : Int) < (D' : Int) := by omega
                go_wp2_with fail
                refine (HKN.out wr hEr).mono ?_
                rintro e w12 ⟨rfl, hB12⟩
                have hE12 := below_tr hEr hB12
                clear hEr hB12 hXr hYr hAr hZ
                go_wp2_with fail
                go_ret
                exact ⟨rfl, hE12⟩
              · have hDi' : ¬ (8 : Int) < (D' : Int) := by omega
                have hE1 : E = 0 := by
                  rcases HC1.out.cs with ⟨h, _⟩ | ⟨h, _, _⟩ | ⟨_, _, h⟩ | ⟨_, h, _⟩
                  · cases h
                  · cases h
                  · omega
                  · exact h
                have hE2 : E' = 0 := by
                  rcases HC2.out.cs with ⟨h, _⟩ | ⟨h, _, _⟩ | ⟨_, _, h⟩ | ⟨_, h, _⟩
                  · cases h
                  · cases h
                  · omega
                  · exact h
                subst hE1 hE2
                have HEN1 := Sl.mk (fun W (hW : Below w.heap.size w W) (hx : VxIn W (.mk k7 n7 pb7 b7 cb7 pl7 l7 cl7)) => encode_any (.mk k7 n7 pb7 b7 cb7 pl7 l7 cl7) W hx ((HP.out.be hW).mono hW.size) (by rw [HXV.out]; exact encF_len HC1.out))
                have HEN2 := Sl.mk (fun W (hW : Below w.heap.size w W) (hx : VxIn W (.mk k8 n8 pb8 b8 cb8 pl8 l8 cl8)) => encode_any (.mk k8 n8 pb8 b8 cb8 pl8 l8 cl8) W hx ((HP.out.be hW).mono hW.size) (by rw [HXV'.out]; exact encF_len HC2.out))
                simp only [vxC_mk, HXV.out, HXV'.out] at HEN1 HEN2
                have hsub := atV_sub p V _ 8 HC1.out.all (by rw [HC1.out.dep]; omega) HAY.out
                have HSM := Sl.mk (same_any x' (.mk ky ny pby by_ cby ply ly cly) wr HXK'.out HZI.out)
                rw [HXP.out, copN_all 8 _ hsub.1 hsub.2, (eqV_iff _ _).2 rfl, HVX.out, vxC_mk, HBYL.out, HLYL.out] at HSM
                clear hsub
                go_wp2_with (first | refine ld_vxG hAr (by rfl) (.tmp 13) rfl rfl ?_ | refine ld_vxG hZ (by rfl) (.tmp 15) rfl rfl ?_)
                refine HSM.out.mono ?_
                rintro e w12 ⟨rfl, hB12⟩
                have hX12 := hXr.be hB12
                have hY12 := hYr.be hB12
                have hE12 := below_tr hEr hB12
                have HXI12 := Sl.mk (HXIr.out.be hB12)
                have HYI12 := Sl.mk (HYIr.out.be hB12)
                clear hXr hYr hAr hZ hEr hB12 HSM
                go_wp2_with (refine ld_vxG hX12 (by rfl) (.tmp 7) rfl rfl ?_)
                refine (HEN1.out w12 hE12 HXI12.out).mono ?_
                rintro e w13 ⟨A13, n13, c13, rfl, hn13, ho13, hB13⟩
                rw [HC1.out.e]
                have hX13 := hX12.be hB13
                have hY13 := hY12.be hB13
                have hE13 := below_tr hE12 hB13
                have HXI13 := Sl.mk (HXI12.out.be hB13)
                have HYI13 := Sl.mk (HYI12.out.be hB13)
                have HO13 := Sl.mk ho13
                have HN13 := Sl.mk hn13
                clear hX12 hY12 hE12 hB13 ho13 hn13 HEN1
                go_wp2_with (refine ld_vxG hY13 (by rfl) (.tmp 10) rfl rfl ?_)
                refine (HEN2.out w13 hE13 HYI13.out).mono ?_
                rintro e w14 ⟨A14, n14, c14, rfl, hn14, ho14, hB14⟩
                rw [HC2.out.e]
                have hX14 := hX13.be hB14
                have hY14 := hY13.be hB14
                have hE14 := below_tr hE13 hB14
                have HXI14 := Sl.mk (HXI13.out.be hB14)
                have HYI14 := Sl.mk (HYI13.out.be hB14)
                have HO13 := Sl.mk (own_below HO13.out hB14)
                have HO14 := Sl.mk ho14
                have HN14 := Sl.mk hn14
                clear hX13 hY13 hE13 hB14 ho14 hn14 HEN2
                go_wp2_with fail
                refine (HKN.out w14 hE14).mono ?_
                rintro e w15 ⟨rfl, hB15⟩
                have hX15 := hX14.be hB15
                have hY15 := hY14.be hB15
                have hE15 := below_tr hE14 hB15
                have HO15 := Sl.mk (own_below HO13.out hB15)
                have HO15' := Sl.mk (own_below HO14.out hB15)
                have HSM2 := Sl.mk (same_any (.mk k7 n7 pb7 b7 cb7 pl7 l7 cl7) (.mk k8 n8 pb8 b8 cb8 pl8 l8 cl8) w15 (HXI14.out.be hB15) (HYI14.out.be hB15))
                rw [HXV.out, HXV'.out, enc_eq HC1.out.all HC2.out.all, vxC_mk, vxC_mk] at HSM2
                clear hX14 hY14 hE14 hB15
                go_wp2_with (first | refine ld_vxG hX15 (by rfl) (.tmp 7) rfl rfl ?_ | refine ld_vxG hY15 (by rfl) (.tmp 10) rfl rfl ?_)
                refine HSM2.out.mono ?_
                rintro e w16 ⟨rfl, hB16⟩
                have hE16 := below_tr hE15 hB16
                have hef1 : encF V = encV V := by unfold encF; rw [if_pos HC1.out.e]
                have hef2 : encF V' = encV V' := by unfold encF; rw [if_pos HC2.out.e]
                have hr1 := Reads.of_own (own_below HO15.out hB16)
                have hr2 := Reads.of_own (own_below HO15'.out hB16)
                have hl1 := HN13.out
                have hl2 := HN14.out
                rw [hef1] at hr1 hl1
                rw [hef2] at hr2 hl2
                have HRS := Sl.mk (bsame_any A13 A14 n13 c13 n14 c14 (encV V) (encV V') w16 (by have := HC1.out.len; omega) (by have := HC2.out.len; omega) hr1 hr2)
                obtain ⟨bb, hbb⟩ : ∃ bb, eqB (encV V) (encV V') = bb := ⟨_, rfl⟩
                rw [hbb] at HRS ⊢
                clear hX15 hY15 hE15 hB16 hef1 hef2 hr1 hr2 hl1 hl2 HSM2 hbb
                go_wp2_with fail
                refine HRS.out.mono ?_
                rintro e w17 ⟨rfl, kk, hw17⟩
                have hE17 : Below w.heap.size w w17 := by rw [hw17]; exact below_drN hE16 kk
                clear hw17 hE16 HRS
                cases bb
                · go_wp2_with fail
                  go_ret
                  exact ⟨rfl, hE17⟩
                · go_wp2_with fail
                  go_ret
                  exact ⟨rfl, hE17⟩

end Go.Proofs.YtbnmbncjefnpiaaDoor
