/-
  AsmBack at any input.
-/
import Derived.Test.YtigdfkpkogompaaDoorAsJ
import Derived.Test.YtigdfkpkogompaaDoorAsR
import Derived.Test.YtigdfkpkogompaaDoorCoIn
import Derived.Test.YtigdfkpkogompaaDoorAsTabs
import Derived.BigQuiet
namespace Go.Proofs.YtigdfkpkogompaaDoor
open Go.ChangeShapes Go.WideShapes Go.ChangeAt Go.RowKit Go.ChangeMaps
attribute [local go_sem ↓] Go.wp_at_zero Go.wp_at_succ

theorem bs_ofK (s : ByteArray) : bsS s.data.toList = s := by
  cases s
  rfl
theorem res_err (lab : List (List UInt8 × Nat)) : ∀ (A : List (Nat × Nat × List UInt8)) (L x : List Ci) (n : Nat) (e : Int), resF lab A L = (x, n, e) → e ≠ 0 → x = []
  | [], L, x, n, e, h, h0 => by
    rw [resF] at h
    injection h with _ h; injection h with _ h
    exact absurd h.symm h0
  | a :: A, L, x, n, e, h, h0 => by
    rw [resF] at h
    split at h
    · injection h with h _; exact h.symm
    · exact res_err lab A _ x n e h h0
theorem asm_err {s : List UInt8} {x : List Ci} {n : Nat} {e : Int} (h : asmF s = (x, n, e)) (h0 : e ≠ 0) : x = [] := by
  unfold asmF at h
  split at h
  · injection h with h _; exact h.symm
  · split at h
    · exact res_err _ _ _ _ _ _ h h0
    · injection h with h _; exact h.symm
/-- What Assemble leaves, as a row that is read. -/
theorem as_is {w w' : World} {r : List Ci × Nat × Int} {e : Ending} (h : AsPost w r e w') (hl : ∀ x ∈ r.1, x.s.length ≤ 1000000) : ∃ A c, e = .returned (.tuple #[.slice A r.1.length c, .int .i64 (r.2.1 : Nat), .int .i64 r.2.2]) ∧ Is w' A r.1.length r.1 ∧ r.1.length ≤ c ∧ Below w.heap.size w w' := by
  obtain ⟨A, c, rfl, ho, hb⟩ := h
  refine ⟨A, c, rfl, ⟨Reads.of_own ho, hl⟩, ?_, hb⟩
  rcases ho.2 with ⟨h1, h2⟩ | ⟨g, cap, cur, h1, _, _, h2, _⟩
  · rw [h2]; exact Nat.zero_le _
  · injection h1 with _ _ h1
    subst h1
    exact h2
theorem right_len {l : List Ci} {c : Int} (h : ∀ x ∈ l, rightI x c = true) : ∀ x ∈ l, x.s.length ≤ 1000000 := fun x hx => by
  have h0 := h x hx
  unfold rightI at h0
  split at h0
  · simp only [Bool.and_eq_true] at h0
    have := h0.2
    unfold txS at this
    simp at this
    omega
  · have : x.s = [] := by
      split at h0
      · simp only [Bool.and_eq_true, List.isEmpty_iff] at h0; exact h0.1.1
      · split at h0
        · simp only [Bool.and_eq_true, List.isEmpty_iff] at h0; exact h0.1.1
        · split at h0
          · simp only [Bool.and_eq_true, List.isEmpty_iff] at h0; exact h0.1.1
          · simp only [Bool.and_eq_true, List.isEmpty_iff] at h0; exact h0.1.2
    rw [this]; decide
set_option maxRecDepth 100000 in
set_option maxHeartbeats 16000000 in
theorem lawBack (a b : List UInt8) (w : World) (ha : a.length ≤ 9223372036854775807) (hb : b.length ≤ 9223372036854775807) (hE : Eg w w.heap.size) :
    Calls Tryd.prog 4 #[.string (bsS a), .string (bsS b)] w (RPost w true) := by
  have hza := bs_size a
  have hzb := bs_size b
  obtain ⟨k, hk⟩ : ∃ k : Nat, min (a.length : Int) 3000 = k := ⟨(min (a.length : Int) 3000).toNat, by omega⟩
  obtain ⟨j, hj⟩ : ∃ j : Nat, min (b.length : Int) 3000 = j := ⟨(min (b.length : Int) 3000).toNat, by omega⟩
  have hk2 : k ≤ a.length := by omega
  have hj2 : j ≤ b.length := by omega
  obtain ⟨p, hp⟩ : ∃ p, a.take k = p := ⟨_, rfl⟩
  obtain ⟨q, hq⟩ : ∃ q, b.take j = q := ⟨_, rfl⟩
  have hk3 : (bsS a).extract 0 k = bsS p := by rw [bs_cut, List.drop_zero, Nat.sub_zero, hp]
  have hj3 : (bsS b).extract 0 j = bsS q := by rw [bs_cut, List.drop_zero, Nat.sub_zero, hq]
  have hpl : p.length ≤ 3000 := by rw [← hp, List.length_take]; omega
  have hql : q.length ≤ 3000 := by rw [← hq, List.length_take]; omega
  have HPL := Sl.mk hpl
  have HQL := Sl.mk hql
  have HK := Sl.mk (fun (W : World) (hb : Below w.heap.size w W) => known_any W (hE.all hb))
  unfold RPost at HK
  have HE := Sl.mk hE
  obtain ⟨x, xn, xe, hx⟩ : ∃ x n e, asmF p = (x, n, e) := ⟨_, _, _, rfl⟩
  obtain ⟨y, yn, ye, hy⟩ : ∃ x n e, asmF q = (x, n, e) := ⟨_, _, _, rfl⟩
  have HX := Sl.mk hx
  have HY := Sl.mk hy
  have HXL : Sl (∀ z ∈ x, z.s.length ≤ 1000000) := Sl.mk (by
    by_cases h0 : xe = 0
    · subst h0; exact right_len (asm_right hx).2.2
    · rw [asm_err hx h0]; intro z hz; cases hz)
  have HYL : Sl (∀ z ∈ y, z.s.length ≤ 1000000) := Sl.mk (by
    by_cases h0 : ye = 0
    · subst h0; exact right_len (asm_right hy).2.2
    · rw [asm_err hy h0]; intro z hz; cases hz)
  have HXN : Sl (x.length ≤ 200) := Sl.mk (by
    by_cases h0 : xe = 0
    · subst h0; exact (asm_right hx).1
    · rw [asm_err hx h0]; exact Nat.zero_le _)
  have HYN : Sl (y.length ≤ 200) := Sl.mk (by
    by_cases h0 : ye = 0
    · subst h0; exact (asm_right hy).1
    · rw [asm_err hy h0]; exact Nat.zero_le _)
  clear hp hq hE hpl hql hx hy
  go_enter Tryd.func4, Tryd.ntmps4
  go_wp2_with fail
  go_quiet (fail)
  obtain ⟨w0, hw0⟩ : ∃ w0, w.drewN nq = w0 := ⟨_, rfl⟩
  have HB0 := Sl.mk (show Below w.heap.size w w0 by rw [← hw0]; exact below_drN (Below.refl _ _) nq)
  rw [hw0]
  have HA := Sl.mk (asm_any p w0 (by have := HPL.out; omega) (HE.out.all HB0.out))
  rw [HX.out] at HA
  clear hw0 hk3 hj3 hk hj hk2 hj2 hza hzb ha hb
  go_wp2_with fail
  refine HA.out.mono ?_
  intro e w1 hx
  obtain ⟨A1, c1, rfl, hI1, hc1, hb1⟩ := as_is hx HXL.out
  simp only at hc1 hI1
  have HB1 := Sl.mk (below_tr HB0.out hb1)
  have HI1 := Sl.mk hI1
  have HAB := Sl.mk (asm_any q w1 (by have := HQL.out; omega) (HE.out.all HB1.out))
  rw [HY.out] at HAB
  clear hx hI1 hb1 HA HB0
  go_wp2_with fail
  refine HAB.out.mono ?_
  intro e w2 hx
  obtain ⟨A2, c2, rfl, hI2, hc2, hb2⟩ := as_is hx HYL.out
  simp only at hc2 hI2
  have HB2 := Sl.mk (below_tr HB1.out hb2)
  have HI2 := Sl.mk hI2
  have HX2 := Sl.mk (HI1.out.be hb2)
  have hxn := HXN.out
  have hyn := HYN.out
  clear hx hI2 hb2 HAB HB1 HI1
  by_cases he : xe = 0
  · subst he
    obtain ⟨hl200, hxn0, hri⟩ := asm_right HX.out
    have hchk : chkF x = (((x.length : Nat) : Int), 0) := chk_good hl200 (fun j y _ hy => hri y (List.mem_of_getElem? hy))
    obtain ⟨T, hT⟩ : ∃ T, prF x = T := ⟨_, rfl⟩
    have hTl : T.length ≤ 1000000 := by
      rw [← hT]
      unfold prF
      have := prN_len hri hl200 (x.length + 1) (by omega)
      omega
    have HPB := Sl.mk (fun h8 : T.length ≤ 8192 => show asmF T = (x, 0, 0) by rw [← hT]; exact print_back hl200 hri (by rw [hT]; exact h8))
    have HPR := Sl.mk (print_any A1 x.length c1 x w2 (by omega) HX2.out (HE.out.all HB2.out))
    unfold PrPost at HPR
    rw [hchk, if_pos rfl, hT] at HPR
    obtain ⟨z, zn, ze, hz⟩ : ∃ x n e, asmF T = (x, n, e) := ⟨_, _, _, rfl⟩
    have HZL : Sl (∀ u ∈ z, u.s.length ≤ 1000000) := Sl.mk (by
      by_cases h0 : ze = 0
      · subst h0; exact right_len (asm_right hz).2.2
      · rw [asm_err hz h0]; intro z hz; cases hz)
    have HZN : Sl (z.length ≤ 200) := Sl.mk (by
      by_cases h0 : ze = 0
      · subst h0; exact (asm_right hz).1
      · rw [asm_err hz h0]; exact Nat.zero_le _)
    have HZ := Sl.mk hz
    have hzn := HZN.out
    have hzT := bs_size T
    clear hz hT hri hchk hxn0
    go_wp2_with fail
    refine HPR.out.mono ?_
    rintro e w3 ⟨rfl, hb3⟩
    have HB3 := Sl.mk (below_tr HB2.out hb3)
    have HX3 := Sl.mk (HX2.out.be hb3)
    have HY3 := Sl.mk (HI2.out.be hb3)
    have HAT := Sl.mk (asm_any T w3 hTl (HE.out.all HB3.out))
    rw [HZ.out] at HAT
    clear hb3 HPR HX2 HI2 HB2
    go_wp2_with fail
    refine HAT.out.mono ?_
    intro e w4 hx
    obtain ⟨A3, c3, rfl, hI3, hc3, hb4⟩ := as_is hx HZL.out
    simp only at hc3 hI3
    have HB4 := Sl.mk (below_tr HB3.out hb4)
    have HX4 := Sl.mk (HX3.out.be hb4)
    have HY4 := Sl.mk (HY3.out.be hb4)
    have HZ4 := Sl.mk hI3
    clear hx hI3 hb4 HAT HX3 HY3 HB3
    go_upto_region 8 with fail
    go_cut [78] (fun v78 wx => v78 = .bool false ∧ Below w4.heap.size w4 wx)
    case first =>
      by_cases h8 : T.length ≤ 8192
      · have hz := HPB.out h8
        rw [HZ.out] at hz
        injection hz with hz1 hz2
        injection hz2 with hz2 hz3
        subst hz1; subst hz3
        have HAL := Sl.mk (alike_any A1 A3 z.length z.length c1 c3 z z w4 (by omega) (by omega) HX4.out.row HZ4.out.row)
        rw [decide_eq_true rfl] at HAL
        have h8' : ((T.length : Nat) : Int) ≤ 8192 := by omega
        clear HPB HX4 HZ4 HY4 HX HY HZ HB4 HE HK HPL HQL HXL HYL hz2
        go_wp2_with fail
        refine HAL.out.mono ?_
        rintro e w8 ⟨rfl, q8, hw8⟩
        have HB8 := Sl.mk (show Below w4.heap.size w4 w8 by rw [hw8]; exact below_drN (Below.refl _ _) q8)
        clear hw8 HAL
        go_wp2_with fail
        go_meet
        exact ⟨by simp, HB8.out⟩
      · have h8' : ¬ ((T.length : Nat) : Int) ≤ 8192 := by omega
        have h8'' := decide_eq_false h8'
        clear HPB HX4 HZ4 HY4 HX HY HZ HB4 HE HK HPL HQL HXL HYL
        go_wp2_with fail
        go_meet
        exact ⟨by simp, Below.refl _ _⟩
    case rest =>
      obtain ⟨rfl, hbc⟩ := hcut
      have HBc := Sl.mk (below_tr HB4.out hbc)
      have HXc := Sl.mk (HX4.out.be hbc)
      have HYc := Sl.mk (HY4.out.be hbc)
      clear hbc HX4 HY4 HZ4 HB4 HPB HZ hzn hc3 HZN HZL
      have hfin : ∀ v, v = Value.bool true → ∀ w', Below w.heap.size w w' → RPost w true (.returned v) w' := by
        intro v hv w' hw'
        exact ⟨by rw [hv], hw'⟩
      by_cases hye : ye = 0
      · subst hye
        have hlen2 := HXN.out
        by_cases h200 : x.length + y.length ≤ 200
        · obtain ⟨P1, hP1⟩ : ∃ P1, p ++ [10] = P1 := ⟨_, rfl⟩
          obtain ⟨P2, hP2⟩ : ∃ P2, P1 ++ q = P2 := ⟨_, rfl⟩
          have hap1 : bsS p ++ ⟨#[10]⟩ = bsS P1 := by rw [← hP1]; exact bs_app p [10]
          have hap2 : bsS P1 ++ bsS q = bsS P2 := by rw [← hP2, bs_app]
          have hz0 := bs_size p
          have hz1 : (bsS P1).size = p.length + 1 := by rw [bs_size, ← hP1]; simp
          have hz2 : (bsS P2).size = p.length + 1 + q.length := by rw [bs_size, ← hP2, ← hP1]; simp; omega
          have hzq := bs_size q
          have hP : P2 = p ++ 10 :: q := by rw [← hP2, ← hP1]; simp
          have hpl := HPL.out
          have hql := HQL.out
          have hPl : P2.length ≤ 8192 := by rw [hP]; simp; omega
          have HJ := Sl.mk (asm_join HX.out HY.out h200 (by rw [← hP]; exact hPl))
          rw [← hP] at HJ
          have HA2 := Sl.mk (asm_any P2 wc (by omega) (HE.out.all HBc.out))
          have h200' : decide (((x.length : Nat) : Int) + y.length > 200) = false := by simp; omega
          have h200'' : ¬ (200 < ((x.length : Nat) : Int) + y.length) := by omega
          obtain ⟨t, tn, te, ht⟩ : ∃ x n e, asmF P2 = (x, n, e) := ⟨_, _, _, rfl⟩
          rw [ht] at HA2
          have HTT := Sl.mk ht
          have HTL : Sl (∀ u ∈ t, u.s.length ≤ 1000000) := Sl.mk (by
            by_cases h0 : te = 0
            · subst h0; exact right_len (asm_right ht).2.2
            · rw [asm_err ht h0]; intro z hz; cases hz)
          have htl : t.length ≤ 200 := by
            by_cases h0 : te = 0
            · subst h0; exact (asm_right ht).1
            · rw [asm_err ht h0]; exact Nat.zero_le _
          clear hP1 hP2 hP hPl ht
          go_wp2_with fail
          refine HA2.out.mono ?_
          intro e w5 hx
          obtain ⟨A5, c5, rfl, hI5, hc5, hb5⟩ := as_is hx HTL.out
          simp only at hc5 hI5
          have HB5 := Sl.mk (below_tr HBc.out hb5)
          have HX5 := Sl.mk (HXc.out.be hb5)
          have HY5 := Sl.mk (HYc.out.be hb5)
          have HT5 := Sl.mk hI5
          clear hx hI5 hb5 HA2 HXc HYc HBc hap1 hap2
          have hj := HJ.out
          rw [HTT.out] at hj
          rcases hj with hj | ⟨kk, hj⟩
          · injection hj with hj1 hj2
            injection hj2 with hj2 hj3
            subst hj3
            subst hj1
            clear hj2 HJ HTT
            obtain ⟨Y, hY⟩ : ∃ Y, y.map (shI x.length) = Y := ⟨_, rfl⟩
            have hYl : Y.length = y.length := by rw [← hY, List.length_map]
            have HYY := Sl.mk hY
            rw [hY] at HT5 htl hc5 ⊢
            obtain ⟨M, hM⟩ : ∃ M, (x ++ Y).length = M := ⟨_, rfl⟩
            have hM2 : M = x.length + y.length := by rw [← hM, List.length_append, hYl]
            have HT6 : Sl (Reads w5 w5.heap.size 3 A5 M (isC (x ++ Y))) := Sl.mk (by rw [← hM]; exact HT5.out.row)
            rw [hM] at htl hc5 ⊢
            have HT7 : Sl (Reads w5 w5.heap.size 3 A5 x.length (isC x)) := Sl.mk (by
              have h := HT6.out
              refine ⟨by rw [isC_len], fun h0 => ?_⟩
              obtain ⟨ad, e1, e2, e3⟩ := h.2 (by omega)
              refine ⟨ad, e1, e2, fun j u hu => e3 j u ?_⟩
              have : isC (x ++ Y) = isC x ++ isC Y := List.flatMap_append ..
              rw [this, List.getElem?_append_left (List.getElem?_eq_some_iff.1 hu).1]
              exact hu)
            have hsum : ((x.length : Nat) : Int) + y.length = (M : Nat) := by omega
            have hxM : x.length ≤ M := by omega
            have HM2 := Sl.mk hM2
            have HYN2 := Sl.mk hYl
            clear hY hM HT5 HTL hM2 hYl
            have HAL := Sl.mk (alike_any A5 A1 x.length x.length c5 c1 x x w5 (by omega) (by omega) HT7.out HX5.out.row)
            rw [decide_eq_true rfl] at HAL
            go_wp2_with fail
            refine HAL.out.mono ?_
            rintro e w6 ⟨rfl, q6, hw6⟩
            have hb6 : Below w5.heap.size w5 w6 := by rw [hw6]; exact below_drN (Below.refl _ _) q6
            have HB6 := Sl.mk (below_tr HB5.out hb6)
            have HT8 := Sl.mk (HT6.out.below hb6)
            have HY6 := Sl.mk (HY5.out.row.below hb6)
            have HSZ := Sl.mk hb6.size
            clear hb6 hw6 HAL HT7 HT6 HX5 HY5 HB5
            go_wp2_with fail
            go_loopg [19] y.length (fun q v19 wr => ∃ i : Nat, q = y.length - i ∧ i ≤ y.length ∧ v19 = .int .i64 i ∧ Below w6.heap.size w6 wr)
            case atStart => exact ⟨0, rfl, Nat.zero_le _, rfl, Below.refl _ _⟩
            case round =>
              obtain ⟨i, rfl, hi, rfl, hbr⟩ := hrel
              have HBR := Sl.mk hbr
              by_cases hil : i < y.length
              · obtain ⟨u, hu⟩ : ∃ u, y[i]? = some u := ⟨_, List.getElem?_eq_getElem hil⟩
                have HUR := Sl.mk ((asm_right HY.out).2.2 u (List.mem_of_getElem? hu))
                obtain ⟨m5, hm5⟩ : ∃ m5, x.length + i = m5 := ⟨_, rfl⟩
                have ht : (x ++ Y)[m5]? = some (shI x.length u) := by
                  rw [← hm5, List.getElem?_append_right (by omega), Nat.add_sub_cancel_left, ← HYY.out, List.getElem?_map, hu]; rfl
                obtain ⟨b2, o2, rfl, hb2, hld2⟩ := isR_lit ((HY6.out.more HSZ.out).below hbr) hu
                obtain ⟨b5, o5, rfl, hb5, hld5⟩ := isR_lit ((HT8.out.more HSZ.out).below hbr) ht
                have hw6r := hbr.size
                have HLD5 := Sl.mk hld5
                have HLD2 := Sl.mk hld2
                have c0 := hld2 0 (.int .i64 u.op) rfl
                have c1' := hld2 1 (.int .i64 u.n) rfl
                have c2' := hld2 2 (.string (bsS u.s)) rfl
                rw [Addr.add_lit] at c0 c1' c2'
                rw [Nat.add_zero] at c0
                have hix : (i : Int) < (y.length : Nat) := by omega
                have HU := Sl.mk hu
                have hsm : ((x.length : Nat) : Int) + i = (m5 : Nat) := by omega
                have hm5M : m5 < M := by have := HM2.out; omega
                have hwr6 : IntKind.i64.wrap (m5 : Int) = (m5 : Nat) := Go.IntWalk.i64_in _ (by omega)
                have hm5I : ((m5 : Nat) : Int) < (M : Nat) := by omega
                have hm50 : (0 : Int) ≤ (m5 : Nat) := by omega
                have hwr5 : IntKind.i64.wrap (((x.length : Nat) : Int) + i) = (m5 : Nat) := by
                  rw [show ((x.length : Nat) : Int) + i = (m5 : Nat) by omega]; exact Go.IntWalk.i64_in _ (by omega)
                have HM5 := Sl.mk hm5
                clear hu ht hld2 hld5 hbr HY6 HT8 HSZ hm5
                by_cases hju : jumpI u = true
                · have hsh : shI x.length u = ⟨u.op, u.n + (x.length : Nat), u.s⟩ := by unfold shI; rw [if_pos hju]
                  have hun : 0 ≤ u.n ∧ u.n ≤ (y.length : Nat) := by
                    have h := HUR.out
                    unfold jumpI at hju
                    simp only [Bool.or_eq_true, beq_iff_eq] at hju
                    unfold rightI at h
                    rw [if_neg (by omega), if_neg (by omega), if_neg (by omega), if_pos hju] at h
                    simp only [Bool.and_eq_true, decide_eq_true_eq] at h
                    exact ⟨h.1.2, h.2⟩
                  have hwn : IntKind.i64.wrap (u.n + (x.length : Nat)) = u.n + (x.length : Nat) := Go.IntWalk.i64_in _ (by omega)
                  have hun1 := hun.1
                  have hun2 := hun.2
                  have ho : u.op = 11 ∨ u.op = 12 := by unfold jumpI at hju; simpa using hju
                  clear hju hun
                  obtain ⟨uo, un, us⟩ := u
                  simp only at ho hsh hwn hun1 hun2 c0 c1' c2'
                  rcases ho with rfl | rfl
                  · go_wp2_with fail
                    have hL5 : ∀ w', (∃ k, w' = (wr.alloc (.cells #[.int .i64 11, .int .i64 (un + (x.length : Nat)), .string (bsS us)] 41)).drewN k) → (loadVar 41 ⟨b5, o5 + m5 * 3, none⟩).run Tryd.prog w' = .ok (.agg (iC (shI x.length (⟨11, un, us⟩ : Ci))).toArray) w' := load_drI (fun j v hv => by
                      have h := HLD5.out j v hv
                      rw [Addr.add_lit] at h ⊢
                      rw [World.cell?_alloc_lt _ _ _ (by show b5 < _; omega)]
                      exact h)
                    have hL0 : ∀ w', (∃ k, w' = (wr.alloc (.cells #[.int .i64 11, .int .i64 (un + (x.length : Nat)), .string (bsS us)] 41)).drewN k) → (loadVar 41 ⟨wr.heap.size, 0, none⟩).run Tryd.prog w' = .ok (.agg (iC (shI x.length (⟨11, un, us⟩ : Ci))).toArray) w' := load_drI (fun j v hv => by
                      rw [hsh] at hv
                      rw [Addr.add_lit, World.cell?_alloc_at _ _ _ _ rfl, Nat.zero_add]
                      unfold iC at hv
                      simpa using hv)
                    refine wp_region_quiet_tail 8 (by kernel_rfl) (by kernel_rfl) ?_
                    simp only [List.take_succ_cons, List.take_zero, List.drop_succ_cons, List.drop_zero]
                    quiet_step (fail)
                    quiet_step (fail)
                    quiet_step (fail)
                    quiet_step (fail)
                    quiet_step (fail)
                    quiet_step (fail)
                    refine wpQuiet_load_atI (by rfl) 41 (.tmp 152) rfl _ (iC (shI x.length (⟨11, un, us⟩ : Ci))).toArray rfl hL5 ?_
                    refine wpQuiet_load_atI (by rfl) 41 (.tmp 20) rfl _ (iC (shI x.length (⟨11, un, us⟩ : Ci))).toArray rfl hL0 ?_
                    refine wpQuiet_nil ?_
                    intro _ hw'
                    obtain ⟨nq, hw''⟩ := hw'
                    subst hw''
                    refine wpList_neqI rfl (.tmp 153) (.tmp 154) _ rfl (shI x.length (⟨11, un, us⟩ : Ci)) (shI x.length (⟨11, un, us⟩ : Ci)) rfl rfl ?_
                    rw [decide_eq_true rfl]
                    go_wp2_with fail
                    go_roundg (y.length - (i + 1))
                    case measure => omega
                    case rel => exact ⟨i + 1, rfl, by omega, by go_num, below_drN (below_al HBR.out _) nq⟩
                  · go_wp2_with fail
                    have hL5 : ∀ w', (∃ k, w' = (wr.alloc (.cells #[.int .i64 12, .int .i64 (un + (x.length : Nat)), .string (bsS us)] 41)).drewN k) → (loadVar 41 ⟨b5, o5 + m5 * 3, none⟩).run Tryd.prog w' = .ok (.agg (iC (shI x.length (⟨12, un, us⟩ : Ci))).toArray) w' := load_drI (fun j v hv => by
                      have h := HLD5.out j v hv
                      rw [Addr.add_lit] at h ⊢
                      rw [World.cell?_alloc_lt _ _ _ (by show b5 < _; omega)]
                      exact h)
                    have hL0 : ∀ w', (∃ k, w' = (wr.alloc (.cells #[.int .i64 12, .int .i64 (un + (x.length : Nat)), .string (bsS us)] 41)).drewN k) → (loadVar 41 ⟨wr.heap.size, 0, none⟩).run Tryd.prog w' = .ok (.agg (iC (shI x.length (⟨12, un, us⟩ : Ci))).toArray) w' := load_drI (fun j v hv => by
                      rw [hsh] at hv
                      rw [Addr.add_lit, World.cell?_alloc_at _ _ _ _ rfl, Nat.zero_add]
                      unfold iC at hv
                      simpa using hv)
                    refine wp_region_quiet_tail 8 (by kernel_rfl) (by kernel_rfl) ?_
                    simp only [List.take_succ_cons, List.take_zero, List.drop_succ_cons, List.drop_zero]
                    quiet_step (fail)
                    quiet_step (fail)
                    quiet_step (fail)
                    quiet_step (fail)
                    quiet_step (fail)
                    quiet_step (fail)
                    refine wpQuiet_load_atI (by rfl) 41 (.tmp 152) rfl _ (iC (shI x.length (⟨12, un, us⟩ : Ci))).toArray rfl hL5 ?_
                    refine wpQuiet_load_atI (by rfl) 41 (.tmp 20) rfl _ (iC (shI x.length (⟨12, un, us⟩ : Ci))).toArray rfl hL0 ?_
                    refine wpQuiet_nil ?_
                    intro _ hw'
                    obtain ⟨nq, hw''⟩ := hw'
                    subst hw''
                    refine wpList_neqI rfl (.tmp 153) (.tmp 154) _ rfl (shI x.length (⟨12, un, us⟩ : Ci)) (shI x.length (⟨12, un, us⟩ : Ci)) rfl rfl ?_
                    rw [decide_eq_true rfl]
                    go_wp2_with fail
                    go_roundg (y.length - (i + 1))
                    case measure => omega
                    case rel => exact ⟨i + 1, rfl, by omega, by go_num, below_drN (below_al HBR.out _) nq⟩
                · have hsh : shI x.length u = u := by unfold shI; rw [if_neg hju]
                  have ho1 : (u.op == 11) = false := by unfold jumpI at hju; simp at hju; simp [hju.1]
                  have ho2 : (u.op == 12) = false := by unfold jumpI at hju; simp at hju; simp [hju.2]
                  clear hju
                  go_wp2_with fail
                  have hL5 : ∀ w', (∃ k, w' = (wr.alloc (.cells #[.int .i64 u.op, .int .i64 u.n, .string (bsS u.s)] 41)).drewN k) → (loadVar 41 ⟨b5, o5 + m5 * 3, none⟩).run Tryd.prog w' = .ok (.agg (iC (shI x.length u)).toArray) w' := load_drI (fun j v hv => by
                    have h := HLD5.out j v hv
                    rw [Addr.add_lit] at h ⊢
                    rw [World.cell?_alloc_lt _ _ _ (by show b5 < _; omega)]
                    exact h)
                  have hL0 : ∀ w', (∃ k, w' = (wr.alloc (.cells #[.int .i64 u.op, .int .i64 u.n, .string (bsS u.s)] 41)).drewN k) → (loadVar 41 ⟨wr.heap.size, 0, none⟩).run Tryd.prog w' = .ok (.agg (iC (shI x.length u)).toArray) w' := load_drI (fun j v hv => by
                    rw [hsh] at hv
                    rw [Addr.add_lit, World.cell?_alloc_at _ _ _ _ rfl, Nat.zero_add]
                    unfold iC at hv
                    simpa using hv)
                  refine wp_region_quiet_tail 8 (by kernel_rfl) (by kernel_rfl) ?_
                  simp only [List.take_succ_cons, List.take_zero, List.drop_succ_cons, List.drop_zero]
                  quiet_step (fail)
                  quiet_step (fail)
                  quiet_step (fail)
                  quiet_step (fail)
                  quiet_step (fail)
                  quiet_step (fail)
                  refine wpQuiet_load_atI (by rfl) 41 (.tmp 152) rfl _ (iC (shI x.length u)).toArray rfl hL5 ?_
                  refine wpQuiet_load_atI (by rfl) 41 (.tmp 20) rfl _ (iC (shI x.length u)).toArray rfl hL0 ?_
                  refine wpQuiet_nil ?_
                  intro _ hw'
                  obtain ⟨nq, hw''⟩ := hw'
                  subst hw''
                  refine wpList_neqI rfl (.tmp 153) (.tmp 154) _ rfl (shI x.length u) (shI x.length u) rfl rfl ?_
                  rw [decide_eq_true rfl]
                  go_wp2_with fail
                  go_roundg (y.length - (i + 1))
                  case measure => omega
                  case rel => exact ⟨i + 1, rfl, by omega, by go_num, below_drN (below_al HBR.out _) nq⟩
              · obtain rfl : i = y.length := by omega
                go_wp2_with fail
                refine (HK.out _ (below_tr HB6.out HBR.out)).mono ?_
                rintro e w9 ⟨rfl, hb9⟩
                have HB9 := Sl.mk (below_tr (below_tr HB6.out HBR.out) hb9)
                clear hb9
                go_wp2_with fail
                go_ret
                exact ⟨rfl, HB9.out⟩
          · injection hj with hj1 hj2
            injection hj2 with hj2 hj3
            subst hj3
            clear hj1 hj2
            go_wp2_with fail
            refine (HK.out _ HB5.out).mono ?_
            rintro e w6 ⟨rfl, hb6⟩
            have HB6 := Sl.mk (below_tr HB5.out hb6)
            clear hb6
            go_wp2_with fail
            go_ret
            exact ⟨ret_bool (by simp), HB6.out⟩
        · have h200' : decide (((x.length : Nat) : Int) + y.length > 200) = true := by simp; omega
          have h200'' : (200 < ((x.length : Nat) : Int) + y.length) := by omega
          go_wp2_with fail
          refine (HK.out _ HBc.out).mono ?_
          rintro e w6 ⟨rfl, hb6⟩
          have HB6 := Sl.mk (below_tr HBc.out hb6)
          clear hb6
          go_wp2_with fail
          go_ret
          exact ⟨rfl, HB6.out⟩
      · have hyb : (ye != 0) = true := by simpa using hye
        clear hye
        go_wp2_with fail
        refine (HK.out _ HBc.out).mono ?_
        rintro e w6 ⟨rfl, hb6⟩
        have HB6 := Sl.mk (below_tr HBc.out hb6)
        clear hb6
        go_wp2_with fail
        go_ret
        exact ⟨rfl, HB6.out⟩
  · have hb0 : (xe != 0) = true := by simpa using he
    have hx0 : x = [] := asm_err HX.out he
    subst hx0
    clear he
    go_wp2_with fail
    refine (HK.out _ HB2.out).mono ?_
    rintro e w3 ⟨rfl, hb3⟩
    have HB3 := Sl.mk (below_tr HB2.out hb3)
    clear hb3
    go_wp2_with fail
    go_ret
    exact ⟨ret_bool (by simp), HB3.out⟩
set_option maxRecDepth 100000 in
theorem asmback_any {H : Type} {enc : TypeId × Value → H} (W : World) (base : Nat) {v0 v1 : Value} {d0 d1 : DataW H} {p0 p1 : List MemPlace}
    (h0 : DataW.Trod enc Tryd.prog W 0 (fun _ => true) true 9 v0 d0 p0) (h1 : DataW.Trod enc Tryd.prog W 0 (fun _ => true) true 9 v1 d1 p1)
    (o0 : Value.okWide Tryd.prog W .any base 9 v0) (o1 : Value.okWide Tryd.prog W .any base 9 v1) (hT : Tb W) (hsh : W.ShapedOpen Tryd.prog) :
    Calls Tryd.prog 4 #[v0, v1] W fun e w' => e = .returned (.bool true) ∧ Below W.heap.size W w' := by
  obtain ⟨s, rfl, -, -, ws⟩ := open_string Tryd.underlying9 o0 h0
  obtain ⟨t, rfl, -, -, wt⟩ := open_string Tryd.underlying9 o1 h1
  unfold maxLen at ws wt
  have h := lawBack s.data.toList t.data.toList W (Nat.le_trans (Nat.le_of_eq Array.length_toList) ws) (Nat.le_trans (Nat.le_of_eq Array.length_toList) wt) (eg_of hT hsh)
  rw [bs_ofK, bs_ofK] at h
  exact h
end Go.Proofs.YtigdfkpkogompaaDoor
