/-
  The contract of creelref05.Name.
-/
import Derived.Test.YtkmdhmnjohlnaaaRevA
import Derived.BigQuiet
namespace Go.Proofs.Ytkmdhmnjohlnaaa
open Go.RowKit
attribute [local go_sem ↓] Go.wp_at_zero Go.wp_at_succ

abbrev mayB : ByteArray := ⟨#[97, 98, 99, 100, 101, 102, 103, 104, 105, 106, 107, 108, 109, 110, 111, 112, 113, 114, 115, 116, 117, 118, 119, 120, 121, 122, 48, 49, 50, 51, 52, 53, 54, 55, 56, 57, 46, 45, 95]⟩
def fnd (M : ByteArray) (c : Int) (k : Nat) : Bool := (M.data.toList.take k).any fun x => ((x.toNat : Nat) : Int) == c
theorem fnd_step {M : ByteArray} {c : Int} {k : Nat} (h : k < M.size) : fnd M c (k + 1) = (fnd M c k || ((M[k].toNat : Nat) : Int) == c) := by
  unfold fnd
  rw [List.take_add_one, at_list h]
  simp
theorem fnd_all : ∀ a : Fin 4, ∀ b : Fin 64, fnd mayB ((64 * a.val + b.val : Nat) : Int) 39 = signB ((64 * a.val + b.val : Nat) : Int) := by decide +kernel
theorem fnd_sign (x : UInt8) : fnd mayB ((x.toNat : Nat) : Int) 39 = signB ((x.toNat : Nat) : Int) := by
  have h := UInt8.toNat_lt x
  have h2 := fnd_all ⟨x.toNat / 64, by omega⟩ ⟨x.toNat % 64, by omega⟩
  have e : 64 * (x.toNat / 64) + x.toNat % 64 = x.toNat := by omega
  simp only [e] at h2
  exact h2

set_option maxHeartbeats 4000000 in
theorem rname_any (s : ByteArray) (w : World) (hs : s.size ≤ 9223372036854775807) : Calls Try.prog 36 #[.string s] w fun e w' => e = .returned (.bool (nameB s)) ∧ ∃ k, w' = w.drewN k := by
  by_cases h1 : (s.size : Int) < 1
  · have HN := Sl.mk (nm1 h1)
    have h1' : ((s.size : Int) == 0) = true := by rw [beq_iff_eq]; omega
    go_enter Try.func36, Try.ntmps36
    go_wp2
    go_ret
    exact ⟨by rw [HN.out]; rfl, 0, rfl⟩
  have h1' : ((s.size : Int) == 0) = false := beq_eq_false_iff_ne.2 (by omega)
  by_cases h2 : 24 < (s.size : Int)
  · have HN := Sl.mk (nm2 h2)
    go_enter Try.func36, Try.ntmps36
    go_wp2
    go_ret
    exact ⟨by rw [HN.out]; rfl, 0, rfl⟩
  by_cases h3 : s.toList = [46]
  · have HN := Sl.mk (nm3 h3)
    go_enter Try.func36, Try.ntmps36
    go_wp2
    go_ret
    exact ⟨by rw [HN.out]; rfl, 0, rfl⟩
  have h3' : (s.toList == [46]) = false := by simpa using h3
  by_cases h4 : s.toList = [46, 46]
  · have HN := Sl.mk (nm4 h4)
    go_enter Try.func36, Try.ntmps36
    go_wp2
    go_ret
    exact ⟨by rw [HN.out]; rfl, 0, rfl⟩
  have h4' : (s.toList == [46, 46]) = false := by simpa using h4
  have HN := Sl.mk (name_pre (s := s) (by omega) (by omega) h3' h4')
  obtain ⟨M, hM⟩ : ∃ M, (⟨#[97, 98, 99, 100, 101, 102, 103, 104, 105, 106, 107, 108, 109, 110, 111, 112, 113, 114, 115, 116, 117, 118, 119, 120, 121, 122, 48, 49, 50, 51, 52, 53, 54, 55, 56, 57, 46, 45, 95]⟩ : ByteArray) = M := ⟨_, rfl⟩
  have HF := Sl.mk (show ∀ x : UInt8, fnd M ((x.toNat : Nat) : Int) 39 = signB ((x.toNat : Nat) : Int) by rw [← hM]; exact fnd_sign)
  have hMs : M.size = 39 := by rw [← hM]; rfl
  have HMs := Sl.mk hMs
  clear hMs
  go_enter Try.func36, Try.ntmps36
  go_wp2
  clear hM
  go_loopw [4] (fun s4 wr => ∃ i q : Nat, i ≤ s.size ∧ s4 = .int .i64 i ∧ wr = w.drewN q ∧ Hid (∀ j, j < i → ∃ c, s.data.toList[j]? = some c ∧ signB (c.toNat : Nat) = true)) (fun s4 _ => s.size - (intOf s4).toNat)
  case atStart => exact ⟨0, 0, Nat.zero_le _, rfl, rfl, fun j hj => absurd hj (Nat.not_lt_zero _)⟩
  case round =>
    obtain ⟨i, q, hi, rfl, rfl, HI⟩ := hrel
    by_cases hlt : i < s.size
    · have hib : (i : Int) < (s.size : Int) := by omega
      obtain ⟨ch, hch⟩ : ∃ ch : Int, ((s[i].toNat : Nat) : Int) = ch := ⟨_, rfl⟩
      have HCH := Sl.mk hch
      go_wp2_with fail
      go_loopw [5, 6] (fun s5 s6 wr => ∃ k q' : Nat, k ≤ 39 ∧ s6 = .int .i64 k ∧ s5 = .bool (fnd M ch k) ∧ wr = w.drewN q') (fun _ s6 _ => 39 - (intOf s6).toNat)
      case atStart => exact ⟨0, q, Nat.zero_le _, rfl, rfl, rfl⟩
      case round =>
        obtain ⟨k, q', hk, rfl, rfl, rfl⟩ := hrel
        have hMs : (M.size : Int) = 39 := by have := HMs.out; omega
        by_cases hk39 : k < 39
        · have e1 : decide ((k : Int) < (M.size : Int)) = true := by simp; omega
          have hk0 : (0 : Int) ≤ (k : Int) := by omega
          have hkM : k < M.size := by have := HMs.out; omega
          have HS := Sl.mk (fnd_step (c := ch) hkM)
          cases eF : fnd M ch k
          · cases eQ : (((M[k].toNat : Nat) : Int) == ch)
            · have HR := Sl.mk (show fnd M ch (k + 1) = false by rw [HS.out, eF, eQ]; rfl)
              go_wp2_with fail
              go_quiet (fail)
              go_wp2_with fail
              exact ⟨⟨k + 1, _, by omega, by go_num, by rw [HR.out], rfl⟩, by simp [intOf]; omega⟩
            · have HR := Sl.mk (show fnd M ch (k + 1) = true by rw [HS.out, eF, eQ]; rfl)
              go_wp2_with fail
              go_quiet (fail)
              go_wp2_with fail
              exact ⟨⟨k + 1, _, by omega, by go_num, by rw [HR.out], rfl⟩, by simp [intOf]; omega⟩
          · have HR := Sl.mk (show fnd M ch (k + 1) = true by rw [HS.out, eF]; simp)
            go_wp2_with fail
            go_quiet (fail)
            go_wp2_with fail
            exact ⟨⟨k + 1, _, by omega, by go_num, by rw [HR.out], rfl⟩, by simp [intOf]; omega⟩
        · obtain rfl : k = 39 := by omega
          have HX := Sl.mk (show fnd M ch 39 = signB ch by rw [← HCH.out]; exact HF.out s[i])
          rw [HX.out]
          cases eS : signB ch
          · have H5 := Sl.mk (nm5 hlt (by rw [HCH.out]; exact eS))
            go_wp2_with fail
            go_ret
            exact ⟨by rw [H5.out]; rfl, q', rfl⟩
          · have HY := Sl.mk (show ∀ j, j < i + 1 → ∃ c, s.data.toList[j]? = some c ∧ signB (c.toNat : Nat) = true from fun j hj => by
              rcases Nat.lt_or_ge j i with h | h
              · exact HI j h
              · obtain rfl : j = i := by omega
                exact ⟨_, at_list hlt, by rw [← eS, ← HCH.out]⟩)
            go_wp2_with fail
            exact ⟨⟨i + 1, q', by omega, by go_num, rfl, HY.out⟩, by simp [intOf]; omega⟩
    · obtain rfl : i = s.size := by omega
      have HA := Sl.mk (show (s.data.toList.all fun c => signB (c.toNat : Nat)) = true from List.all_eq_true.2 fun c hc => by
        obtain ⟨j, hj, e⟩ := List.mem_iff_getElem.1 hc
        obtain ⟨c', h1, h2⟩ := HI j (by simpa using hj)
        rw [List.getElem?_eq_getElem hj, e] at h1
        injection h1 with h1
        subst h1
        exact h2)
      go_wp2_with fail
      go_ret
      exact ⟨by rw [HN.out, HA.out]; rfl, q, rfl⟩

end Go.Proofs.Ytkmdhmnjohlnaaa
