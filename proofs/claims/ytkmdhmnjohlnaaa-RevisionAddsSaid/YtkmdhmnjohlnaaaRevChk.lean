/-
  The contract of creelref10.Check.
-/
import Derived.Test.YtkmdhmnjohlnaaaRevOf
import Derived.Test.YtkmdhmnjohlnaaaRevName
namespace Go.Proofs.Ytkmdhmnjohlnaaa
open Go.RowKit
attribute [local go_sem ↓] Go.wp_at_zero Go.wp_at_succ

set_option maxRecDepth 100000 in
set_option maxHeartbeats 4000000 in
theorem rcheck_any (s1 s2 : ByteArray) (a : Int) (A : Option Addr) (n c : Nat) (l : List Rv) (w : World) (h1 : s1.size ≤ 9223372036854775807) (h2 : s2.size ≤ 9223372036854775807) (hn : n ≤ 1000000) (hR : Reads w w.heap.size 34 A n (revC l)) :
    Calls Try.prog 18 #[.agg #[.string s1, .string s2, .int .i64 a, .slice A n c]] w fun e w' => e = .returned (.int .i64 (checkF s1 s2 a l)) ∧ Below w.heap.size w w' := by
  have hl := reads_n hR
  have hX := Blk.new w 24 #[.string s1, .string s2, .int .i64 a, .slice A n c]
  have hE := below_al (Below.refl w.heap.size w) (.cells #[.string s1, .string s2, .int .i64 a, .slice A n c] 24)
  obtain ⟨w0, hw0⟩ : ∃ w0, w.alloc (.cells #[.string s1, .string s2, .int .i64 a, .slice A n c] 24) = w0 := ⟨_, rfl⟩
  rw [hw0] at hX hE
  have HR := Sl.mk hR
  clear hR
  obtain ⟨c0, c1, c2, c3⟩ := hX.c4
  go_enter Try.func18, Try.ntmps18
  go_wp2_with fail
  clear hw0
  refine (rname_any s1 _ h1).mono ?_
  rintro e w1 ⟨rfl, q1, rfl⟩
  have d0 : (w0.drewN q1).cell? ⟨w.heap.size, 1, none⟩ = some (.string s2) := c1
  have d3 : (w0.drewN q1).cell? ⟨w.heap.size, 3, none⟩ = some (.slice A n c) := c3
  cases e1 : nameB s1
  · have HC := Sl.mk (show checkF s1 s2 a l = 10 by unfold checkF; rw [e1]; rfl)
    go_wp2_with fail
    go_ret
    exact ⟨by rw [HC.out]; rfl, below_drN hE q1⟩
  go_wp2_with fail
  refine (rname_any s2 _ h2).mono ?_
  rintro e w2 ⟨rfl, q2, rfl⟩
  obtain ⟨q, hq⟩ : ∃ q, (w0.drewN q1).drewN q2 = w0.drewN q := ⟨q1 + q2, World.drewN_drewN ..⟩
  rw [hq]
  clear hq d0 d3
  have d3 : (w0.drewN q).cell? ⟨w.heap.size, 3, none⟩ = some (.slice A n c) := c3
  cases e2 : nameB s2
  · have HC := Sl.mk (show checkF s1 s2 a l = 10 by unfold checkF; rw [e1, e2]; rfl)
    go_wp2_with fail
    go_ret
    exact ⟨by rw [HC.out]; rfl, below_drN hE q⟩
  by_cases h3 : l.length = 0 ∨ 3 < l.length
  · have HC := Sl.mk (show checkF s1 s2 a l = 2 by unfold checkF; rw [e1, e2, if_neg (by simp), if_pos h3])
    rw [hl] at h3
    rcases h3 with rfl | h3
    · go_wp2_with fail
      go_ret
      exact ⟨by rw [HC.out]; rfl, below_drN hE q⟩
    · have h3a : decide ((n : Int) < 1) = false := by simp; omega
      have h3b : decide ((3 : Int) < n) = true := by simp; omega
      go_wp2_with fail
      go_ret
      exact ⟨by rw [HC.out]; rfl, below_drN hE q⟩
  have HC := Sl.mk (show checkF s1 s2 a l = if goodF 0 l = false then 1 else if hasF a l = false then 7 else 0 by unfold checkF; rw [e1, e2, if_neg (by simp), if_neg h3])
  have h3a : decide ((n : Int) < 1) = false := by simp; omega
  have h3b : decide ((3 : Int) < n) = false := by simp; omega
  have h3c : n ≤ 3 := by omega
  have HL := Sl.mk hl
  have hXq : Blk (w0.drewN q) w.heap.size 24 #[.string s1, .string s2, .int .i64 a, .slice A n c] := hX.drewN q
  have hEq := below_drN hE q
  clear h3 hl
  go_wp2_with fail
  clear d3 c0 c1 c2 c3 hX hE
  go_loopw [3, 4] (fun s3 s4 wr => ∃ i : Nat, i ≤ n ∧ s4 = .int .i64 i ∧ s3 = .bool (hasF a (l.take i)) ∧ Hid (goodF 0 l = goodF (lastF (l.take i)) (l.drop i)) ∧ Hid (0 ≤ lastF (l.take i)) ∧
      Blk wr w.heap.size 24 #[.string s1, .string s2, .int .i64 a, .slice A n c] ∧ Below w.heap.size w wr) (fun _ s4 _ => n - (intOf s4).toNat)
  case atStart => exact ⟨0, Nat.zero_le _, rfl, rfl, rfl, by simp [Hid, lastF], hXq, hEq⟩
  case round =>
    obtain ⟨i, hi, rfl, rfl, HG, HLo, hXr, hB⟩ := hrel
    clear hXq hEq
    obtain ⟨c0, c1, c2, c3⟩ := hXr.c4
    by_cases hil : i < n
    · obtain ⟨r, hr⟩ : ∃ r, l[i]? = some r := ⟨_, List.getElem?_eq_getElem (by rw [HL.out]; exact hil)⟩
      obtain ⟨ad, rfl, hbl, hld, hd0⟩ := reads_load (HR.out.below hB) hr
      have HT := Sl.mk (take_snoc hr)
      have HD := Sl.mk (drop_cons' hr)
      have HS := Sl.mk (has_snoc a (l.take i) r)
      have e5 : decide ((i : Int) < n) = true := by simp; omega
      have hi0 : (0 : Int) ≤ (i : Int) := by omega
      have hi1 : (i : Int) < (n : Int) := by omega
      clear hr
      go_wp2_with (first
        | refine ld_elR hld rfl (.tmp 36) rfl rfl ?_
        | refine st_newR (by rfl) rfl (.tmp 5) (.tmp 37) rfl r rfl rfl ?_)
      intro w1 hS1 hB1 hs1
      have hX1 := hXr.be hB1
      have hE1 := below_tr hB hB1
      have hcad := fun (k : Nat) (x : Rv) (hx : l[k]? = some x) => (reads_load (HR.out.below hE1) hx)
      clear hXr hB hld hd0 c0 c1 c2 c3 hs1 hB1
      obtain ⟨c0, c1, c2, c3⟩ := hX1.c4
      have d0 := hS1.rv0
      have d33 := hS1.rv33
      have hlo := HLo.out
      by_cases b1 : r.no < 1
      · have hbad : rightB r (lastF (l.take i)) = false := by unfold rightB; rw [show decide (lastF (l.take i) < r.no) = false by simp; omega]; rfl
        have t1 : decide (r.no < 1) = true := by simpa using b1
        clear b1 hcad
        have HF := Sl.mk (show goodF 0 l = false by rw [HG.out, HD.out, goodF, hbad]; rfl)
        clear hbad
        go_wp2_with fail
        go_quiet (fail)
        go_wp2_with fail
        go_ret
        exact ⟨by rw [HC.out, if_pos HF.out]; rfl, (by repeat (first | exact hE1 | refine below_drN ?_ _))⟩
      have t1 : decide (r.no < 1) = false := by simp; omega
      by_cases b2 : 999999 < r.no
      · have hbad : rightB r (lastF (l.take i)) = false := by unfold rightB; rw [show decide (r.no ≤ 999999) = false by simp; omega]; simp
        have t2 : decide (999999 < r.no) = true := by simpa using b2
        clear b1 b2 hcad
        have HF := Sl.mk (show goodF 0 l = false by rw [HG.out, HD.out, goodF, hbad]; rfl)
        clear hbad
        go_wp2_with fail
        go_quiet (fail)
        go_wp2_with fail
        go_ret
        exact ⟨by rw [HC.out, if_pos HF.out]; rfl, (by repeat (first | exact hE1 | refine below_drN ?_ _))⟩
      have t2 : decide (999999 < r.no) = false := by simp; omega
      by_cases b3 : r.size < 0
      · have hbad : rightB r (lastF (l.take i)) = false := by unfold rightB; rw [show decide (0 ≤ r.size) = false by simp; omega]; simp
        have t3 : decide (r.size < 0) = true := by simpa using b3
        clear b1 b2 b3 hcad
        have HF := Sl.mk (show goodF 0 l = false by rw [HG.out, HD.out, goodF, hbad]; rfl)
        clear hbad
        go_wp2_with fail
        go_quiet (fail)
        go_wp2_with fail
        go_ret
        exact ⟨by rw [HC.out, if_pos HF.out]; rfl, (by repeat (first | exact hE1 | refine below_drN ?_ _))⟩
      have t3 : decide (r.size < 0) = false := by simp; omega
      by_cases b4 : 131072 < r.size
      · have hbad : rightB r (lastF (l.take i)) = false := by unfold rightB; rw [show decide (r.size ≤ 131072) = false by simp; omega]; simp
        have t4 : decide (131072 < r.size) = true := by simpa using b4
        clear b1 b2 b3 b4 hcad
        have HF := Sl.mk (show goodF 0 l = false by rw [HG.out, HD.out, goodF, hbad]; rfl)
        clear hbad
        go_wp2_with fail
        go_quiet (fail)
        go_wp2_with fail
        go_ret
        exact ⟨by rw [HC.out, if_pos HF.out]; rfl, (by repeat (first | exact hE1 | refine below_drN ?_ _))⟩
      have t4 : decide (131072 < r.size) = false := by simp; omega
      have HZ := Sl.mk (show Hid (0 ≤ lastF (l.take (i + 1))) by rw [HT.out, lastF_snoc]; show 0 ≤ r.no; omega)
      by_cases b5 : i = 0
      · subst b5
        have hgd : rightB r (lastF (l.take 0)) = true := by have hl0 : lastF (l.take 0) = 0 := rfl; unfold rightB; rw [hl0]; simp; omega
        have HG2 := Sl.mk (show Hid (goodF 0 l = goodF (lastF (l.take (0 + 1))) (l.drop (0 + 1))) by show _ = _; rw [HG.out, HD.out, goodF, hgd, HT.out, lastF_snoc]; rfl)
        clear b1 b2 b3 b4 hgd hcad hlo
        cases eH : hasF a (l.take 0)
        · go_wp2_with fail
          go_quiet (fail)
          go_wp2_with fail
          first
            | exact ⟨⟨0 + 1, by omega, by go_num, by rw [HT.out, HS.out, eH]; rfl, HG2.out, HZ.out, hX1.drewN _, below_drN hE1 _⟩, by simp [intOf]; omega⟩
            | (go_roundw
               case rel => exact ⟨0 + 1, by omega, by go_num, by rw [HT.out, HS.out, eH]; rfl, HG2.out, HZ.out, hX1.drewN _, below_drN hE1 _⟩
               case measure => simp [intOf]; omega)
        · go_wp2_with fail
          go_quiet (fail)
          go_wp2_with fail
          first
            | exact ⟨⟨0 + 1, by omega, by go_num, by rw [HT.out, HS.out, eH]; rfl, HG2.out, HZ.out, hX1.drewN _, below_drN hE1 _⟩, by simp [intOf]; omega⟩
            | (go_roundw
               case rel => exact ⟨0 + 1, by omega, by go_num, by rw [HT.out, HS.out, eH]; rfl, HG2.out, HZ.out, hX1.drewN _, below_drN hE1 _⟩
               case measure => simp [intOf]; omega)
      · obtain ⟨k, rfl⟩ : ∃ k, i = k + 1 := ⟨i - 1, by omega⟩
        obtain ⟨p, hp⟩ : ∃ p, l[k]? = some p := ⟨_, List.getElem?_eq_getElem (by rw [HL.out]; omega)⟩
        obtain ⟨ad', hA', -, -, hpd⟩ := hcad k p hp
        injection hA' with hA'
        subst hA'
        have hlast : lastF (l.take (k + 1)) = p.no := by rw [take_snoc hp, lastF_snoc]
        have hk0 : (0 : Int) ≤ (k : Int) := by omega
        have hk1 : (k : Int) < (n : Int) := by omega
        have hw1 : IntKind.i64.wrap ((k : Int) + 1 - 1) = (k : Int) := by rw [Go.IntWalk.i64_in _ (by omega)]; omega
        have hw2 : IntKind.i64.wrap (k : Int) = (k : Int) := Go.IntWalk.i64_in _ (by omega)
        have t5 : decide ((0 : Int) < ((k + 1 : Nat) : Int)) = true := decide_eq_true (by omega)
        have t5' : decide ((0 : Int) < (k : Int) + 1) = true := decide_eq_true (by omega)
        clear hp hcad b5
        by_cases b6 : r.no ≤ p.no
        · have hbad : rightB r (lastF (l.take (k + 1))) = false := by unfold rightB; rw [hlast, show decide (p.no < r.no) = false by simp; omega]; rfl
          have t6 : decide (r.no ≤ p.no) = true := by simpa using b6
          clear b1 b2 b3 b4 b6 hlast hlo
          have HF := Sl.mk (show goodF 0 l = false by rw [HG.out, HD.out, goodF, hbad]; rfl)
          clear hbad
          go_wp2_with fail
          go_quiet (fail)
          go_wp2_with fail
          go_ret
          exact ⟨by rw [HC.out, if_pos HF.out]; rfl, (by repeat (first | exact hE1 | refine below_drN ?_ _))⟩
        · have hgd : rightB r (lastF (l.take (k + 1))) = true := by unfold rightB; rw [hlast]; simp; omega
          have HG2 := Sl.mk (show Hid (goodF 0 l = goodF (lastF (l.take (k + 1 + 1))) (l.drop (k + 1 + 1))) by show _ = _; rw [HG.out, HD.out, goodF, hgd, HT.out, lastF_snoc]; rfl)
          have t6 : decide (r.no ≤ p.no) = false := by simp; omega
          clear b1 b2 b3 b4 b6 hgd hlast hlo
          cases eH : hasF a (l.take (k + 1))
          · go_wp2_with fail
            go_quiet (fail)
            go_wp2_with fail
            first
              | exact ⟨⟨(k + 1) + 1, by omega, by go_num, by rw [HT.out, HS.out, eH]; rfl, HG2.out, HZ.out, hX1.drewN _, below_drN hE1 _⟩, by simp [intOf]; omega⟩
              | (go_roundw
                 case rel => exact ⟨(k + 1) + 1, by omega, by go_num, by rw [HT.out, HS.out, eH]; rfl, HG2.out, HZ.out, hX1.drewN _, below_drN hE1 _⟩
                 case measure => simp [intOf]; omega)
          · go_wp2_with fail
            go_quiet (fail)
            go_wp2_with fail
            first
              | exact ⟨⟨(k + 1) + 1, by omega, by go_num, by rw [HT.out, HS.out, eH]; rfl, HG2.out, HZ.out, hX1.drewN _, below_drN hE1 _⟩, by simp [intOf]; omega⟩
              | (go_roundw
                 case rel => exact ⟨(k + 1) + 1, by omega, by go_num, by rw [HT.out, HS.out, eH]; rfl, HG2.out, HZ.out, hX1.drewN _, below_drN hE1 _⟩
                 case measure => simp [intOf]; omega)
    · obtain rfl : i = n := by omega
      have HF := Sl.mk (show goodF 0 l = true by rw [HG.out, List.drop_of_length_le (by rw [HL.out]; omega)]; rfl)
      have ht : l.take i = l := List.take_of_length_le (by rw [HL.out]; omega)
      rw [ht]
      clear ht
      cases eH : hasF a l
      · go_wp2_with fail
        go_ret
        exact ⟨by rw [HC.out, HF.out, eH]; rfl, hB⟩
      · go_wp2_with fail
        go_ret
        exact ⟨by rw [HC.out, HF.out, eH]; rfl, hB⟩

end Go.Proofs.Ytkmdhmnjohlnaaa
