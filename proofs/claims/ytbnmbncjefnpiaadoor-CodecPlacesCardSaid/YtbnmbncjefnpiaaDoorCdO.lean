/-
  The contract of the reader's value, at a value's own bytes.
-/
import Derived.Test.YtbnmbncjefnpiaaDoorCdN
namespace Go.Proofs.YtbnmbncjefnpiaaDoor
open Go.RowKit
attribute [local go_sem ↓] Go.wp_at_zero Go.wp_at_succ

/-- A value in the result's cell is one of the call's own. -/
theorem val_end {w w3 w4 : World} {k n : Int} {pb : Option Addr} {b : List Nat} {cb : Nat} {pl : Option Addr} {l : List Vx} {cl : Nat} (hg : w3.grownBy w4 (some w.heap.size)) (hk : VxOk w3 (fun g => w.heap.size + 1 ≤ g ∧ g < w3.heap.size) (.mk k n pb b cb pl l cl)) :
    VxOk w4 (fun g => w.heap.size ≤ g ∧ g < w4.heap.size) (.mk k n pb b cb pl l cl) := by
  have h1 := hk.only hg (fun g hg => ⟨hg.2, fun e => by injection e; omega⟩)
  have hz := hg.size
  exact VxOk.mono (fun g hg => ⟨by omega, by omega⟩) _ h1
theorem drop_mid {b x y : List Nat} {j : Nat} (h : b.drop j = x ++ y) : b.drop (j + x.length) = y := by rw [← List.drop_drop, h, List.drop_left]
theorem drop_lt {b x y : List Nat} {j : Nat} (h : b.drop j = x ++ y) (hx : x ≠ []) : j + x.length ≤ b.length := by
  have h1 := congrArg List.length h
  rw [List.length_drop, List.length_append] at h1
  have h2 : 0 < x.length := List.length_pos_iff.2 hx
  omega

theorem cut_map {w : World} {B n k : Nat} {A : Option Addr} {xs : List Value} (h : Reads w B 1 A n xs) (hk : k ≤ n) : Reads w B 1 (A.map fun x => x.add k) (n - k) (xs.drop k) := by
  refine ⟨by rw [List.length_drop, h.1]; omega, fun hn => ?_⟩
  obtain ⟨ad, e, hb, hc⟩ := h.2 (by omega)
  refine ⟨ad.add k, by rw [e]; rfl, by rw [block_of_add]; exact hb, fun j u hu => ?_⟩
  rw [add_of_add]
  exact hc _ u (by rw [List.getElem?_drop] at hu; exact hu)
/-- A piece of bytes, however its address is spelled. -/
theorem cut_any {w : World} {B n c j m : Nat} {A A' : Option Addr} {b bb : List Nat} (h : Reads w B 1 A n (u8s b)) (hj : j + m ≤ n) (hc : n ≤ c) (hA : A' = A.map (fun x => x.add j) ∨ c = j) (hb : (b.drop j).take m = bb) : Reads w B 1 A' m (u8s bb) := by
  have hl : b.length = n := by have := h.1; simp [u8s] at this; omega
  have h1 := reads_take (k := m) (cut_map h (k := j) (by omega)) (by omega)
  have e : ((u8s b).drop j).take m = u8s bb := by rw [← hb]; simp [u8s]
  rw [e] at h1
  rcases hA with rfl | hc'
  · exact h1
  · have hm : m = 0 := by omega
    subst hm
    exact ⟨h1.1, fun h => absurd h (by omega)⟩

set_option maxRecDepth 100000 in
set_option maxHeartbeats 4000000 in
theorem value_ok (v : Vc) : ValP v := by
  induction v using Vc.ind_ with
  | h k0 n0 b0 l0 ih =>
    intro d w R A n c b i rest hall hnum hdep h hb
    have hall' := hall
    simp only [allV, Bool.and_eq_true] at hall
    have hnum' := hnum
    rw [numV] at hnum
    have hZ := Blk.new w 26 #[.int .i64 0, .int .i64 0, .slice none 0 0, .slice none 0 0]
    have hwa := below_al (Below.refl w.heap.size w) (.cells #[.int .i64 0, .int .i64 0, .slice none 0 0, .slice none 0 0] 26)
    have hws : (w.alloc (.cells #[.int .i64 0, .int .i64 0, .slice none 0 0, .slice none 0 0] 26)).heap.size = w.heap.size + 1 := by simp
    have hRa := h.be hwa
    have hlen := h.len
    have hRw := h.blk.lt
    have hnm := h.nm
    have hcap := h.cap
    have hby := Sl.mk h.by_
    have HM := Sl.mk (fun W j hW => more_any R A n c b j 0 W hW)
    have HI := Sl.mk (fun ch W j hW => is_any ch R A n c b j 0 W hW)
    have hga := only_alloc (only_refl w (some R)) (.cells #[.int .i64 0, .int .i64 0, .slice none 0 0, .slice none 0 0] 26)
    rcases kind_zero hall.1 with rfl | rfl | rfl
    · -- a number
      have hkb := hall.1
      simp [kindB] at hkb
      obtain ⟨rfl, rfl⟩ := hkb
      have he : encV (.mk 0 n0 [] []) = 105 :: (itN n0 ++ [59]) := by rw [encV, if_pos rfl]
      rw [he] at hb ⊢
      obtain ⟨L, hL⟩ : ∃ L, (105 :: (itN n0 ++ [59])).length = L := ⟨_, rfl⟩
      rw [hL]
      have hb1 : b.drop i = 105 :: (itN n0 ++ 59 :: rest) := by rw [hb]; simp
      obtain ⟨hin, hg, hbn⟩ := get_head hb1
      rw [hlen] at hin
      have HT := Sl.mk (fun W hW => take_any 105 R A n c b i W hW hin hg)
      have HN := Sl.mk (fun W hW => number_ok true 59 n0 R A n c b rest (i + 1) W hW (.inl rfl) (by decide) hnum.1.1 hnum.1.2 hbn)
      have HI1 := Sl.mk (fun W hW => HI.out 40 W i hW)
      have HI2 := Sl.mk (fun W hW => HI.out 105 W i hW)
      have HM1 := Sl.mk (fun W hW => HM.out W i hW)
      rw [decide_eq_true hin] at HM1
      rw [decide_eq_true hin, decide_eq_false (show ¬ b.getD i 0 = 40 by omega)] at HI1
      rw [decide_eq_true hin, decide_eq_true hg] at HI2
      have hlen2 : i + 1 + (itN n0).length + 1 = i + L := by rw [← hL]; simp; omega
      have HL2 := Sl.mk hlen2
      have HNUM := Sl.mk hnum.1
      clear hb hb1 hbn hg hin hlen2 he hnum hnum' hall hall' hdep h ih HI HM hlen hL
      go_enter Tryd.func23, Tryd.ntmps23
      go_wp2_with fail
      refine (HM1.out _ hRa).mono ?_
      rintro e w1 ⟨rfl, q1, hw1⟩
      have hR1 : Rst w1 R A n c b i 0 := by rw [hw1]; exact hRa.dr q1
      have hZ1 : Blk w1 w.heap.size 26 #[.int .i64 0, .int .i64 0, .slice none 0 0, .slice none 0 0] := by rw [hw1]; exact hZ.drewN q1
      have hG1 : w.grownBy w1 (some R) := by rw [hw1]; exact only_drewN hga q1
      have hs1 : w.heap.size + 1 ≤ w1.heap.size := by rw [hw1]; simp
      clear hw1 hRa hZ hga hwa hws
      go_wp2_with fail
      refine (HI1.out _ hR1).mono ?_
      rintro e w2 ⟨rfl, q2, hw2⟩
      have hR2 : Rst w2 R A n c b i 0 := by rw [hw2]; exact hR1.dr q2
      have hZ2 : Blk w2 w.heap.size 26 #[.int .i64 0, .int .i64 0, .slice none 0 0, .slice none 0 0] := by rw [hw2]; exact hZ1.drewN q2
      have hG2 : w.grownBy w2 (some R) := by rw [hw2]; exact only_drewN hG1 q2
      have hs2 : w.heap.size + 1 ≤ w2.heap.size := by rw [hw2]; exact hs1
      clear hw2 hR1 hZ1 hG1 hs1
      go_wp2_with fail
      refine (HI2.out _ hR2).mono ?_
      rintro e w3 ⟨rfl, q3, hw3⟩
      have hR3 : Rst w3 R A n c b i 0 := by rw [hw3]; exact hR2.dr q3
      have hZ3 : Blk w3 w.heap.size 26 #[.int .i64 0, .int .i64 0, .slice none 0 0, .slice none 0 0] := by rw [hw3]; exact hZ2.drewN q3
      have hG3 : w.grownBy w3 (some R) := by rw [hw3]; exact only_drewN hG2 q3
      have hs3 : w.heap.size + 1 ≤ w3.heap.size := by rw [hw3]; exact hs2
      clear hw3 hR2 hZ2 hG2 hs2 HM1 HI1 HI2
      go_wp2_with fail
      refine (HT.out _ hR3).mono ?_
      rintro e w4 ⟨rfl, hR4, hg4⟩
      have hZ4 := blk_only hZ3 hg4 (by omega)
      have hG4 := only_trans hG3 hg4
      have hs4 := Nat.le_trans hs3 hg4.size
      clear hR3 hZ3 hG3 hs3 hg4 HT
      go_wp2_with fail
      refine (HN.out _ hR4).mono ?_
      rintro e w5 ⟨rfl, hR5, hg5⟩
      have hZ5 := blk_only hZ4 hg5 (by omega)
      have hG5 := only_trans hG4 hg5
      have hs5 := Nat.le_trans hs4 hg5.size
      clear hR4 hZ4 hG4 hs4 hg5 HN
      go_wp2_with (refine st_vx hZ5 rfl (.tmp 4) (.tmp 92) rfl 0 n0 none 0 0 none 0 0 rfl (by rfl) rfl ?_)
      intro w6 hZ6 hG6 _
      have hR6 := hR5.gr hG6 (fun g e => by injection e; omega)
      have hG7 := only_new hG5 hG6 (fun g e => by injection e; omega)
      have HG6 := Sl.mk hG6
      clear hG6 hR5 hG5 hZ5
      go_wp2_with fail
      refine bodyPost_ret (v := .agg #[.int .i64 0, .int .i64 n0, .slice none 0 0, .slice none 0 0]) (res_cell Tryd.results23 _ _ _ rfl hZ6 Tryd.underlying26 vxSize) rfl ?_
      refine ⟨.mk 0 n0 none [] 0 none [] 0, rfl, rfl, val_end HG6.out ?_, ?_, hG7⟩
      · exact VxOk.iff.2 ⟨RdC.nil, RdC.nil, ⟨HNUM.out.1, HNUM.out.2, by omega, by omega, ⟨Nat.le_refl _, by simp⟩, ⟨Nat.le_refl _, by simp⟩, by simp, by simp, fun x hx => nomatch hx⟩, fun x hx => nomatch hx⟩
      · rw [← HL2.out]; exact hR6
    · -- bytes
      have hkb := hall.1
      simp [kindB] at hkb
      obtain ⟨rfl, rfl⟩ := hkb
      have he : encV (.mk 1 0 b0 []) = itN b0.length ++ 58 :: b0 := by rw [encV, if_neg (by decide), if_pos rfl]
      rw [he] at hb ⊢
      obtain ⟨L, hL⟩ : ∃ L, (itN b0.length ++ 58 :: b0).length = L := ⟨_, rfl⟩
      rw [hL]
      have hb1 : b.drop i = itN b0.length ++ 58 :: (b0 ++ rest) := by rw [hb]; simp
      obtain ⟨x, t, e1, hx1, hx2⟩ := it_head b0.length
      have hb2 : b.drop i = x :: (t ++ 58 :: (b0 ++ rest)) := by rw [hb1, e1]; simp
      obtain ⟨hin, hg, _⟩ := get_head hb2
      rw [hlen] at hin
      have hmid : b.drop (i + (itN b0.length).length) = 58 :: (b0 ++ rest) := drop_mid hb1
      obtain ⟨hjn, -, hbn⟩ := get_head hmid
      rw [hlen] at hjn
      obtain ⟨j, hj⟩ : ∃ j, i + (itN b0.length).length + 1 = j := ⟨_, rfl⟩
      rw [hj] at hbn
      obtain ⟨m, hm⟩ : ∃ m, b0.length = m := ⟨_, rfl⟩
      have hJn : j + m ≤ n := by
        have h1 := congrArg List.length hbn
        rw [List.length_drop, List.length_append] at h1
        omega
      have htk : (b.drop j).take m = b0 := by rw [hbn, ← hm, List.take_left]
      have HN := Sl.mk (fun W hW => number_ok false 58 b0.length R A n c b (b0 ++ rest) i W hW (.inr (by omega)) (by decide) (by omega) (by omega) hb1)
      have HI1 := Sl.mk (fun W hW => HI.out 40 W i hW)
      have HI2 := Sl.mk (fun W hW => HI.out 105 W i hW)
      have HM1 := Sl.mk (fun W hW => HM.out W i hW)
      rw [decide_eq_true hin] at HM1
      rw [decide_eq_true hin, decide_eq_false (show ¬ b.getD i 0 = 40 by omega)] at HI1
      rw [decide_eq_true hin, decide_eq_false (show ¬ b.getD i 0 = 105 by omega)] at HI2
      rw [hj, hm] at HN
      obtain ⟨J, hJ⟩ : ∃ J, j + m = J := ⟨_, rfl⟩
      have hlen2 : J = i + L := by rw [← hL]; simp; omega
      have HL2 := Sl.mk hlen2
      have HM_ := Sl.mk hm
      have HTK := Sl.mk htk
      have hjm : (j : Int) + (m : Int) = (J : Int) := by omega
      have hJm : (J : Int) - (m : Int) = (j : Int) := by omega
      have hmn : ¬ ((n : Int) - (j : Int) < (m : Int)) := by omega
      have hjc : (j : Int) ≤ (J : Int) := by omega
      have hJc : (J : Int) ≤ (c : Int) := by omega
      have hJj : J - j = m := by omega
      have hbm : m ≤ 1000000 := by omega
      have hJn' : J ≤ n := by omega
      have hjn' : j ≤ n := by omega
      have hjJ : j ≤ J := by omega
      clear hb hb1 hb2 hbn hg hin hlen2 he hnum hnum' hall hall' hdep h ih HI HM hL hmid hjn hj htk hx1 hx2 e1 hm hJ hJn
      go_enter Tryd.func23, Tryd.ntmps23
      go_wp2_with fail
      refine (HM1.out _ hRa).mono ?_
      rintro e w1 ⟨rfl, q1, hw1⟩
      have hR1 : Rst w1 R A n c b i 0 := by rw [hw1]; exact hRa.dr q1
      have hZ1 : Blk w1 w.heap.size 26 #[.int .i64 0, .int .i64 0, .slice none 0 0, .slice none 0 0] := by rw [hw1]; exact hZ.drewN q1
      have hG1 : w.grownBy w1 (some R) := by rw [hw1]; exact only_drewN hga q1
      have hs1 : w.heap.size + 1 ≤ w1.heap.size := by rw [hw1]; simp
      clear hw1 hRa hZ hga hwa hws
      go_wp2_with fail
      refine (HI1.out _ hR1).mono ?_
      rintro e w2 ⟨rfl, q2, hw2⟩
      have hR2 : Rst w2 R A n c b i 0 := by rw [hw2]; exact hR1.dr q2
      have hZ2 : Blk w2 w.heap.size 26 #[.int .i64 0, .int .i64 0, .slice none 0 0, .slice none 0 0] := by rw [hw2]; exact hZ1.drewN q2
      have hG2 : w.grownBy w2 (some R) := by rw [hw2]; exact only_drewN hG1 q2
      have hs2 : w.heap.size + 1 ≤ w2.heap.size := by rw [hw2]; exact hs1
      clear hw2 hR1 hZ1 hG1 hs1
      go_wp2_with fail
      refine (HI2.out _ hR2).mono ?_
      rintro e w3 ⟨rfl, q3, hw3⟩
      have hR3 : Rst w3 R A n c b i 0 := by rw [hw3]; exact hR2.dr q3
      have hZ3 : Blk w3 w.heap.size 26 #[.int .i64 0, .int .i64 0, .slice none 0 0, .slice none 0 0] := by rw [hw3]; exact hZ2.drewN q3
      have hG3 : w.grownBy w3 (some R) := by rw [hw3]; exact only_drewN hG2 q3
      have hs3 : w.heap.size + 1 ≤ w3.heap.size := by rw [hw3]; exact hs2
      clear hw3 hR2 hZ2 hG2 hs2 HM1 HI1 HI2
      go_wp2_with fail
      refine (HN.out _ hR3).mono ?_
      rintro e w4 ⟨rfl, hR4, hg4⟩
      have hZ4 := blk_only hZ3 hg4 (by omega)
      have hG4 := only_trans hG3 hg4
      have hs4 := Nat.le_trans hs3 hg4.size
      have c0 := hR4.blk.cell 0
      have c1 := hR4.blk.cell 1
      have c2 := hR4.blk.cell 2
      have hwn : IntKind.i64.wrap ((n : Int) - (j : Int)) = (n : Int) - (j : Int) := IntWalk.i64_in _ (by omega)
      clear hR3 hZ3 hG3 hs3 hg4 HN
      go_wp2_with fail
      go_quiet (fail)
      have hR5 := hR4.dr nq
      have hZ5 := hZ4.drewN nq
      have hG5 := only_drewN hG4 nq
      have hs5 : w.heap.size + 1 ≤ (w4.drewN nq).heap.size := hs4
      obtain ⟨w5, hw5⟩ : ∃ w5, w4.drewN nq = w5 := ⟨_, rfl⟩
      rw [hw5] at hR5 hZ5 hG5 hs5 ⊢
      clear hw5 hR4 hZ4 hG4 hs4 c0 c1 c2 hwn
      have c0 := hR5.blk.cell 0
      have c1 := hR5.blk.cell 1
      have c2 := hR5.blk.cell 2
      have f1 := hR5.blk.frozen 1
      have hB := blk_set _ _ _ _ 1 (.int .i64 (J : Int)) #[.slice A n c, .int .i64 (J : Int), .int .i64 0] hR5.blk rfl
      have hg6 := only_setCell (only_refl w5 (some R)) 1 (.int .i64 (J : Int))
      have hR6 := hR5.to_ hg6 J 0 hJn' hB
      have hZ6 := blk_only hZ5 hg6 (by omega)
      have hG6 := only_trans hG5 hg6
      have hs6 := Nat.le_trans hs5 hg6.size
      obtain ⟨w6, hw6⟩ : ∃ w6, w5.setCell ⟨R, 1, none⟩ (.int .i64 (J : Int)) = w6 := ⟨_, rfl⟩
      have HW6 := hw6
      rw [hw6] at hR6 hZ6 hG6 hs6
      clear hB hg6 hR5 hZ5 hG5 hs5
      go_wp2_with fail
      clear hw6 HW6 c0 c1 c2 f1
      have d0 := hR6.blk.cell 0
      have d1 := hR6.blk.cell 1
      have HCUT := Sl.mk (fun (A' : Option Addr) (hA : A' = A.map (fun x => x.add j) ∨ c = j) => cut_any hR6.row (m := m) (by omega) hcap hA HTK.out)
      refine wp_region_quiet_tail 18 (by kernel_rfl) (by kernel_rfl) ?_
      simp only [List.take_succ_cons, List.take_zero, List.drop_succ_cons, List.drop_zero]
      repeat (any_goals (first | go_big_quiet_step (fail) | quiet_step (fail)))
      refine wpQuiet_nil ?_
      intro _ hw'
      obtain ⟨nq, hw''⟩ := hw'
      subst hw''
      go_wp2_with fail
      all_goals
        refine (bclone_any _ m _ b0 _ (by omega) (((HCUT.out _ (by first | exact .inl rfl | (right; assumption))).drewN nq).more (Nat.le_of_lt hR6.blk.lt))).mono ?_
        rintro e w7 ⟨v7, rfl, hown, hB7⟩
        obtain ⟨A7, c7, rfl⟩ := ownForm hown
        have hR7 := (hR6.dr nq).be hB7
        have hZ7 := (hZ6.drewN nq).be hB7
        have hG7 := only_below (only_drewN hG6 nq) hB7
        have hs7 := Nat.le_trans hs6 hB7.size
        have HO := Sl.mk hown
        have hs67 : w6.heap.size ≤ (w6.drewN nq).heap.size := Nat.le_refl _
        clear hR6 hZ6 hG6 hB7 hown d0 d1 HCUT
        go_wp2_with (refine st_vx hZ7 rfl (.tmp 4) (.tmp 65) rfl 1 0 A7 m c7 none 0 0 rfl (by rfl) rfl ?_)
        intro w8 hZ8 hG8 _
        have hR8 := hR7.gr hG8 (fun g e => by injection e; omega)
        have hG9 := only_new hG7 hG8 (fun g e => by injection e; omega)
        have HG8 := Sl.mk hG8
        clear hG8 hR7 hG7 hZ7
        go_wp2_with fail
        refine bodyPost_ret (v := .agg #[.int .i64 1, .int .i64 0, .slice A7 m c7, .slice none 0 0]) (res_cell Tryd.results23 _ _ _ rfl hZ8 Tryd.underlying26 vxSize) rfl ?_
        refine ⟨.mk 1 0 A7 b0 c7 none [] 0, by rw [vxC_mk, HM_.out]; rfl, rfl, val_end HG8.out ?_, ?_, hG9⟩
        · have hown := HO.out
          have hb0 : ∀ x ∈ b0, x < 256 := fun x hx => hby.out x (by rw [← HTK.out] at hx; exact List.mem_of_mem_drop (List.mem_of_mem_take hx))
          exact VxOk.iff.2 ⟨by rw [HM_.out]; exact RdC.own hown fun g _ h1 h2 => ⟨by omega, h2⟩, RdC.nil, ⟨by omega, by omega, by omega, by omega, by rw [HM_.out]; exact ownCapS hown, ⟨Nat.le_refl _, by simp⟩, by rw [HM_.out]; exact hbm, by simp, hb0⟩, fun x hx => nomatch hx⟩
        · rw [← HL2.out]; exact hR8
    · -- a list
      have hkb := hall.1
      simp [kindB] at hkb
      obtain ⟨rfl, rfl⟩ := hkb
      have he : encV (.mk 2 0 [] l0) = 40 :: (encL l0 ++ [41]) := by rw [encV, if_neg (by decide), if_neg (by decide), if_pos rfl]
      rw [he] at hb ⊢
      obtain ⟨L, hL⟩ : ∃ L, (40 :: (encL l0 ++ [41])).length = L := ⟨_, rfl⟩
      rw [hL]
      have hb1 : b.drop i = 40 :: (encL l0 ++ 41 :: rest) := by rw [hb]; simp
      obtain ⟨hin, hg, hbn⟩ := get_head hb1
      rw [hlen] at hin
      have hdl : depV (.mk 2 0 [] l0) = depL l0 + 1 := by rw [depV, if_pos rfl]
      have HL := Sl.mk (fun W hW => list_of l0 hall.2 hnum.2 ih d (by omega) (by omega) W R A n c b i rest hW hb1)
      have HI1 := Sl.mk (fun W hW => HI.out 40 W i hW)
      have HM1 := Sl.mk (fun W hW => HM.out W i hW)
      rw [decide_eq_true hin] at HM1
      rw [decide_eq_true hin, decide_eq_true hg] at HI1
      have hlen2 : i + (encL l0).length + 2 = i + L := by rw [← hL]; simp; omega
      have HL2 := Sl.mk hlen2
      have hll : l0.length ≤ 1000000 := by
        have h1 := encL_len hall.2
        have h2 := congrArg List.length hbn
        rw [List.length_drop, List.length_append] at h2
        omega
      clear hb hb1 hbn hg hin hlen2 he hnum hnum' hall hall' hdep h ih HI HM hlen hdl hL
      go_enter Tryd.func23, Tryd.ntmps23
      go_wp2_with fail
      refine (HM1.out _ hRa).mono ?_
      rintro e w1 ⟨rfl, q1, hw1⟩
      have hR1 : Rst w1 R A n c b i 0 := by rw [hw1]; exact hRa.dr q1
      have hZ1 : Blk w1 w.heap.size 26 #[.int .i64 0, .int .i64 0, .slice none 0 0, .slice none 0 0] := by rw [hw1]; exact hZ.drewN q1
      have hG1 : w.grownBy w1 (some R) := by rw [hw1]; exact only_drewN hga q1
      have hs1 : w.heap.size + 1 ≤ w1.heap.size := by rw [hw1]; simp
      clear hw1 hRa hZ hga hwa hws
      go_wp2_with fail
      refine (HI1.out _ hR1).mono ?_
      rintro e w2 ⟨rfl, q2, hw2⟩
      have hR2 : Rst w2 R A n c b i 0 := by rw [hw2]; exact hR1.dr q2
      have hZ2 : Blk w2 w.heap.size 26 #[.int .i64 0, .int .i64 0, .slice none 0 0, .slice none 0 0] := by rw [hw2]; exact hZ1.drewN q2
      have hG2 : w.grownBy w2 (some R) := by rw [hw2]; exact only_drewN hG1 q2
      have hs2 : w.heap.size + 1 ≤ w2.heap.size := by rw [hw2]; exact hs1
      clear hw2 hR1 hZ1 hG1 hs1 HM1 HI1
      go_wp2_with fail
      refine (HL.out _ hR2).mono ?_
      rintro e w5 ⟨pl, q, cl, l', rfl, hq, hmap, hown, hkid, hR5, hg5⟩
      have hZ5 := blk_only hZ2 hg5 (by omega)
      have hG5 := only_trans hG2 hg5
      have hs5 := Nat.le_trans hs2 hg5.size
      have HO := Sl.mk (And.intro hq (And.intro hmap (And.intro hown hkid)))
      clear hR2 hZ2 hG2 hg5 HL hq hmap hown hkid
      go_wp2_with (refine st_vx hZ5 rfl (.tmp 4) (.tmp 82) rfl 2 0 none 0 0 pl q cl rfl (by rfl) rfl ?_)
      intro w6 hZ6 hG6 _
      have hR6 := hR5.gr hG6 (fun g e => by injection e; omega)
      have hG7 := only_new hG5 hG6 (fun g e => by injection e; omega)
      have HG6 := Sl.mk hG6
      clear hG6 hR5 hG5 hZ5
      go_wp2_with fail
      refine bodyPost_ret (v := .agg #[.int .i64 2, .int .i64 0, .slice none 0 0, .slice pl q cl]) (res_cell Tryd.results23 _ _ _ rfl hZ6 Tryd.underlying26 vxSize) rfl ?_
      obtain ⟨hq, hmap, hown, hkid⟩ := HO.out
      subst hq
      have hl0 : l'.length = l0.length := by rw [← hmap]; simp
      refine ⟨.mk 2 0 none [] 0 pl l' cl, rfl, by rw [Vx.v, vsOf_map, hmap], val_end HG6.out ?_, ?_, hG7⟩
      · exact VxOk.iff.2 ⟨RdC.nil, RdC.own hown fun g _ h1 h2 => ⟨by omega, h2⟩, ⟨by omega, by omega, by omega, by omega, ⟨Nat.le_refl _, by simp⟩, ownCapS hown, by simp, by omega, fun x hx => nomatch hx⟩, fun x hx => VxOk.mono (fun g h => ⟨by omega, h.2⟩) x (hkid x hx)⟩
      · rw [← HL2.out]; exact hR6

end Go.Proofs.YtbnmbncjefnpiaaDoor
