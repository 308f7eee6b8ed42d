/-
  The contract of the reader's number.
-/
import Derived.Test.YtbnmbncjefnpiaaDoorCdQ
import Derived.Test.YtbnmbncjefnpiaaDoorCdG
namespace Go.Proofs.YtbnmbncjefnpiaaDoor
open Go.RowKit
attribute [local go_sem ↓] Go.wp_at_zero Go.wp_at_succ

theorem strN_it (z : Int) : strN (itN z) = itS z := by
  unfold strN itN itS
  congr 2
  rw [List.map_map]
  conv => rhs; rw [← List.map_id (Lib.itoa z)]
  refine List.map_congr_left fun x _ => ?_
  simp
/-- Where digits stop behind a number. -/
theorem dig_end {below : Bool} {b rest : List Nat} {i c : Nat} {z : Int} (hb : below = true ∨ 0 ≤ z) (hc : isDg c = false) (h : b.drop i = itN z ++ c :: rest) :
    i + sgnD below b i + runD (b.drop (i + sgnD below b i)) = i + (itN z).length := by
  have hl : i < b.length := by
    rcases Nat.lt_or_ge i b.length with h1 | h1
    · exact h1
    · rw [List.drop_of_length_le h1] at h
      have := congrArg List.length h
      simp at this
  have hg : b.getD i 0 = ((b.drop i).headD 0) := by
    rw [List.drop_eq_getElem_cons hl]; simp [hl]
  have hcr : ∀ x, (c :: rest).head? = some x → isDg x = false := fun x hx => by injection hx with hx; rw [← hx]; exact hc
  rw [itN_eq] at h ⊢
  by_cases hz : z < 0
  · rw [if_pos hz] at h ⊢
    have hs : sgnD below b i = 1 := by
      unfold sgnD
      rw [if_pos ⟨by rcases hb with h | h; · exact h
                     · omega, hl, by rw [hg, h]; rfl⟩]
    rw [hs]
    have h2 : b.drop (i + 1) = dgN z.natAbs ++ c :: rest := by
      have := congrArg List.tail h
      simpa using this
    rw [h2, runD_app _ _ (dgN_dig _) hcr, List.length_cons]
    omega
  · rw [if_neg hz] at h ⊢
    obtain ⟨x, t, e, h1, h2⟩ := dg_head z.toNat
    have hs : sgnD below b i = 0 := by
      unfold sgnD
      rw [if_neg (fun hh => by rw [hg, h, e] at hh; simp at hh; omega)]
    rw [hs, Nat.add_zero, h, runD_app _ _ (dgN_dig _) hcr]

theorem dec_first (u : Nat) (h : 1 ≤ u) : ∃ x t, Lib.decDigits u = x :: t ∧ 49 ≤ x.toNat := by
  induction u using Nat.strongRecOn with
  | _ u ih =>
    by_cases h10 : u < 10
    · exact ⟨UInt8.ofNat (48 + u), [], by rw [Lib.decDigits, dif_pos h10], by simp; omega⟩
    · obtain ⟨x, t, e, hx⟩ := ih (u / 10) (by omega) (by omega)
      exact ⟨x, t ++ [UInt8.ofNat (48 + u % 10)], by rw [Lib.decDigits, dif_neg h10, e]; rfl, hx⟩
structure NumS (S : ByteArray) (z : Int) : Prop where
  ne : S.toList.isEmpty = false
  n1 : (S.toList == [45]) = false
  n2 : (S.toList == [45, 48]) = false
  pos : 0 < S.size
  first : ∀ h : 0 < S.size, (((S[0]'h).toNat : Int) == 48) = true → S.size = 1
  two : ((S.extract 0 2).toList == [45, 48]) = false
theorem its_list (z : Int) : (itS z).toList = Lib.itoa z := by rw [ByteArray.toList_eq]; rfl
theorem num_s (z : Int) : NumS (itS z) z := by
  have hsz : (itS z).size = (Lib.itoa z).length := by simp [itS, ByteArray.size]
  have h0 : ∀ h : 0 < (itS z).size, ((itS z)[0]'h) = (Lib.itoa z)[0]'(by omega) := fun h => rfl
  have h2 : ((itS z).extract 0 2).toList = (Lib.itoa z).take 2 := by
    rw [ByteArray.toList_eq, ByteArray.data_extract]
    simp [itS]
  have key : (∃ x t, Lib.itoa z = x :: t ∧ 49 ≤ x.toNat) ∨ Lib.itoa z = [48] ∨ (∃ x t, Lib.itoa z = 45 :: x :: t ∧ 49 ≤ x.toNat) := by
    unfold Lib.itoa
    by_cases hz : z < 0
    · rw [if_pos hz]
      obtain ⟨x, t, e, hx⟩ := dec_first z.natAbs (by omega)
      exact .inr (.inr ⟨x, t, by rw [e], hx⟩)
    · rw [if_neg hz]
      by_cases h1 : z = 0
      · subst h1
        exact .inr (.inl (by rw [Lib.decDigits, dif_pos (by decide)]; rfl))
      · exact .inl (dec_first z.toNat (by omega))
  have hne : ∀ (x : UInt8) (c : UInt8), c.toNat < 49 → 49 ≤ x.toNat → x ≠ c := fun x c h1 h2 e => by subst e; omega
  rcases key with ⟨x, t, e, hx⟩ | e | ⟨x, t, e, hx⟩
  · have h45 := hne x 45 (by decide) hx
    refine ⟨by rw [its_list, e]; rfl, by rw [its_list, e]; simp [h45], by rw [its_list, e]; simp [h45], by rw [hsz, e]; simp, fun h hh => ?_, by rw [h2, e]; simp [h45]⟩
    rw [h0 h] at hh
    simp only [e, List.getElem_cons_zero] at hh
    have := of_decide_eq_true hh
    omega
  · exact ⟨by rw [its_list, e]; rfl, by rw [its_list, e]; decide, by rw [its_list, e]; decide, by rw [hsz, e]; simp, fun h hh => by rw [hsz, e]; rfl, by rw [h2, e]; decide⟩
  · have h48 := hne x 48 (by decide) hx
    refine ⟨by rw [its_list, e]; rfl, by rw [its_list, e]; simp, by rw [its_list, e]; simp [h48], by rw [hsz, e]; simp, fun h hh => ?_, by rw [h2, e]; simp [h48]⟩
    rw [h0 h] at hh
    simp only [e, List.getElem_cons_zero] at hh
    exact absurd hh (by decide)

set_option maxRecDepth 100000 in
set_option maxHeartbeats 1000000 in
theorem number_ok (below : Bool) (en : Nat) (z : Int) (R : Nat) (A : Option Addr) (n c : Nat) (b rest : List Nat) (i : Nat) (w : World) (h : Rst w R A n c b i 0) (hb : below = true ∨ 0 ≤ z) (hc : isDg en = false)
    (h0 : -9223372036854775808 ≤ z) (h1 : z ≤ 9223372036854775807) (hd : b.drop i = itN z ++ en :: rest) :
    Calls Tryd.prog 38 #[.pointer (some ⟨R, 0, none⟩), .bool below, .int .u8 en] w fun e w' => e = .returned (.int .i64 z) ∧ Rst w' R A n c b (i + (itN z).length + 1) 0 ∧ w.grownBy w' (some R) := by
  have HD := Sl.mk (digits_any below R A n c b i 0 w h)
  have HE := Sl.mk (dig_end hb hc hd)
  obtain ⟨S, hS⟩ : ∃ S, itS z = S := ⟨_, rfl⟩
  obtain ⟨j, hj⟩ : ∃ j, i + (itN z).length = j := ⟨_, rfl⟩
  have hlen : b.length = n := h.len
  have hjn : j < n := by
    have := congrArg List.length hd
    rw [List.length_drop, List.length_append, List.length_cons] at this
    omega
  have hbj : b.getD j 0 = en := by
    have h2 : b.drop j = en :: rest := by rw [← hj, ← List.drop_drop, hd, List.drop_left]
    have h3 : b.getD j 0 = (b.drop j).headD 0 := by
      rw [List.drop_eq_getElem_cons (by omega)]; simp [show j < b.length by omega]
    rw [h3, h2]; rfl
  have hSt : strN ((b.drop i).take (j - i)) = S := by
    rw [← hS, ← strN_it, hd, show j - i = (itN z).length by omega, List.take_left]
  have HM := Sl.mk (fun W (hW : Rst W R A n c b j 0) => more_any R A n c b j 0 W hW)
  have HI := Sl.mk (fun W (hW : Rst W R A n c b j 0) => is_any en R A n c b j 0 W hW)
  have HT := Sl.mk (fun W (hW : Rst W R A n c b j 0) => take_any en R A n c b j W hW hjn hbj)
  rw [decide_eq_true hjn] at HM
  rw [decide_eq_true hjn, decide_eq_true hbj, Bool.and_self] at HI
  have HA := Sl.mk (fun W => strconv_Atoi_ok (itS z) (by have := it_size z h0 h1; omega) z (by simpa [itS] using atoi_itoa h0 h1) W)
  rw [hS] at HA
  rw [hj]
  have HNS := Sl.mk (num_s z)
  rw [hS] at HNS
  have HST := Sl.mk hSt
  have HJ := Sl.mk hj
  clear h hd hSt hj hlen
  go_enter Tryd.func38, Tryd.ntmps38
  go_wp2_with fail
  refine HD.out.mono ?_
  rintro e w1 ⟨j', hj', rfl, hR1, hG1⟩
  have hje : j' = j := by rw [hj', HE.out, HJ.out]
  subst hje
  rw [HST.out]
  clear hj' HD HE
  go_wp2_with fail
  refine (HM.out w1 hR1).mono ?_
  rintro e w2 ⟨rfl, k, hw2⟩
  have hR2 : Rst w2 R A n c b j' 0 := by rw [hw2]; exact hR1.dr k
  have hG2 : w.grownBy w2 (some R) := by rw [hw2]; exact only_drewN hG1 k
  clear hw2 hR1 hG1
  have s1 := HNS.out.ne
  have s2 := HNS.out.n1
  have s3 := HNS.out.n2
  have s4 := HNS.out.pos
  have s5 := HNS.out.two
  have s4i : (0 : Int) < (S.size : Int) := by omega
  cases s6 : (((S[0]'s4).toNat : Int) == 48)
  · by_cases s7 : 2 < S.size
    · have s7i : (2 : Int) < (S.size : Int) := by omega
      go_wp2_with fail
      refine (HI.out w2 hR2).mono ?_
      rintro e w3 ⟨rfl, k, hw3⟩
      have hR3 : Rst w3 R A n c b j' 0 := by rw [hw3]; exact hR2.dr k
      have hG3 : w.grownBy w3 (some R) := by rw [hw3]; exact only_drewN hG2 k
      clear hw3 hR2 hG2 s1 s2 s3 s5 s6
      go_wp2_with fail
      refine (HA.out w3).mono ?_
      rintro e w4 ⟨rfl, hw4⟩
      have hB4 : Below w3.heap.size w3 w4 := by
        rcases hw4 with h | ⟨t, h⟩
        · rw [h]; exact Below.refl _ _
        · rw [h]; exact bys_below t w3
      have hR4 := hR3.be hB4
      have hG4 := only_below hG3 hB4
      clear hw4 hR3 hG3 hB4
      go_wp2_with fail
      refine (HT.out w4 hR4).mono ?_
      rintro e w5 ⟨rfl, hR5, hG5⟩
      have hG6 := only_trans hG4 hG5
      clear hR4 hG4 hG5 HM HI HT HA
      go_wp2_with fail
      go_ret
      exact ⟨rfl, hR5, hG6⟩
    · have s7i : ¬ (2 : Int) < (S.size : Int) := by omega
      go_wp2_with fail
      refine (HI.out w2 hR2).mono ?_
      rintro e w3 ⟨rfl, k, hw3⟩
      have hR3 : Rst w3 R A n c b j' 0 := by rw [hw3]; exact hR2.dr k
      have hG3 : w.grownBy w3 (some R) := by rw [hw3]; exact only_drewN hG2 k
      clear hw3 hR2 hG2 s1 s2 s3 s5 s6
      go_wp2_with fail
      refine (HA.out w3).mono ?_
      rintro e w4 ⟨rfl, hw4⟩
      have hB4 : Below w3.heap.size w3 w4 := by
        rcases hw4 with h | ⟨t, h⟩
        · rw [h]; exact Below.refl _ _
        · rw [h]; exact bys_below t w3
      have hR4 := hR3.be hB4
      have hG4 := only_below hG3 hB4
      clear hw4 hR3 hG3 hB4
      go_wp2_with fail
      refine (HT.out w4 hR4).mono ?_
      rintro e w5 ⟨rfl, hR5, hG5⟩
      have hG6 := only_trans hG4 hG5
      clear hR4 hG4 hG5 HM HI HT HA
      go_wp2_with fail
      go_ret
      exact ⟨rfl, hR5, hG6⟩
  · have s8 := HNS.out.first s4 s6
    have s7i : ¬ (2 : Int) < (S.size : Int) := by omega
    have s9i : ¬ (1 : Int) < (S.size : Int) := by omega
    clear s8
    go_wp2_with fail
    refine (HI.out w2 hR2).mono ?_
    rintro e w3 ⟨rfl, k, hw3⟩
    have hR3 : Rst w3 R A n c b j' 0 := by rw [hw3]; exact hR2.dr k
    have hG3 : w.grownBy w3 (some R) := by rw [hw3]; exact only_drewN hG2 k
    clear hw3 hR2 hG2 s1 s2 s3 s5 s6
    go_wp2_with fail
    refine (HA.out w3).mono ?_
    rintro e w4 ⟨rfl, hw4⟩
    have hB4 : Below w3.heap.size w3 w4 := by
      rcases hw4 with h | ⟨t, h⟩
      · rw [h]; exact Below.refl _ _
      · rw [h]; exact bys_below t w3
    have hR4 := hR3.be hB4
    have hG4 := only_below hG3 hB4
    clear hw4 hR3 hG3 hB4
    go_wp2_with fail
    refine (HT.out w4 hR4).mono ?_
    rintro e w5 ⟨rfl, hR5, hG5⟩
    have hG6 := only_trans hG4 hG5
    clear hR4 hG4 hG5 HM HI HT HA
    go_wp2_with fail
    go_ret
    exact ⟨rfl, hR5, hG6⟩

end Go.Proofs.YtbnmbncjefnpiaaDoor
