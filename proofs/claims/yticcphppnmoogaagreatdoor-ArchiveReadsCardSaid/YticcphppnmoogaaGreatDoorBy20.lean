/-
  The walk of the law ArchiveBends.
  The contracts of creelref05.Name, Right, Text.
  The contracts of creelref05.parts and Parse.
-/
import Derived.Test.YticcphppnmoogaaGreatDoorBy18
import Derived.Test.YticcphppnmoogaaGreatDoorBy19
import Derived.Test.YticcphppnmoogaaGreatDoorBy4
import Derived.Test.YticcphppnmoogaaGreatDoorBy5

namespace Go.Proofs.YticcphppnmoogaaGreatDoor
open Go.RowKit
attribute [local go_sem ↓] Go.wp_at_zero Go.wp_at_succ

theorem encF_same {l m : List Ex} (h : l.map (·.e) = m.map (·.e)) : encF l = encF m := by
  rw [encF_map, encF_map, h, len_same h]
theorem encF_byte {l : List Ex} (hl : ∀ x ∈ l, ∀ b ∈ x.e.data, b < 256) : ∀ b ∈ encF l, b < 256 := by
  intro b hb
  rw [encF_map] at hb
  simp only [crel, List.mem_append, List.mem_cons, List.not_mem_nil, or_false, List.mem_flatMap, List.mem_map] at hb
  rcases hb with (rfl | rfl | rfl | rfl) | rfl | ⟨e, ⟨x, hx, rfl⟩, hb⟩
  · omega
  · omega
  · omega
  · omega
  · exact b8_lt _
  · simp only [ebF, headF, sizeF, List.flatten_cons, List.flatten_nil, List.append_nil, List.mem_append, List.mem_cons, List.not_mem_nil, or_false] at hb
    rcases hb with (rfl | rfl | rfl | rfl) | hb | (rfl | rfl) | hb | hb
    · exact b8_lt _
    · exact b8_lt _
    · exact b8_lt _
    · exact b8_lt _
    · simp only [bys, List.mem_map] at hb
      obtain ⟨c, _, rfl⟩ := hb
      exact c.toNat_lt
    · exact b8_lt _
    · exact b8_lt _
    · exact hl x hx b hb
    · exact sealF_byte _ b hb

theorem set_same {l : List Nat} {r z : Nat} (h : l[r]? = some z) : l.set r z = l := by
  refine List.ext_getElem? fun i => ?_
  rw [List.getElem?_set]
  split
  · rename_i e; subst e
    split
    · exact h.symm
    · rename_i hl; rw [List.getElem?_eq_none (by omega)] at h; cases h
  · rfl
theorem check_of {l : List Ex} {N : Nat} {E : Int} (h : CheckR l N E) (hl : l.length ≤ 40) (hz : ∀ j x, l[j]? = some x → refusedE x.e (l.take j) = 0) : E = 0 := by
  rcases h with ⟨h, _⟩ | ⟨_, _, _, h3⟩
  · omega
  · rcases h3 with ⟨_, h⟩ | ⟨x, hx, h, hne⟩
    · exact h
    · exact absurd (h.trans (hz N x hx)) hne
theorem xor_ne {z b : Nat} (h : b ≠ 0) : z ^^^ b ≠ z := fun e => h (by
  have : z ^^^ (z ^^^ b) = z ^^^ z := by rw [e]
  rw [← Nat.xor_assoc, Nat.xor_self, Nat.zero_xor] at this
  exact this)
theorem u64_range' (a : Int) : 0 ≤ IntKind.u64.wrap a ∧ IntKind.u64.wrap a < 18446744073709551616 := by simp [IntKind.wrap, IntKind.bits, IntKind.signed]; omega
theorem idx_of' (k : Int) (N : Nat) (h0 : 0 < N) (h1 : N ≤ 1000000000) : ∃ r : Nat, r < N ∧ wrap64 ((IntKind.u64.wrap k).tmod (N : Int)) = (r : Int) := by
  obtain ⟨a0, a1⟩ := u64_range' k
  obtain ⟨u, hu⟩ := Int.eq_ofNat_of_zero_le a0
  rw [hu]
  refine ⟨u % N, Nat.mod_lt _ h0, ?_⟩
  have e : ((u : Int).tmod (N : Int)) = ((u % N : Nat) : Int) := by rw [Int.tmod_eq_emod_of_nonneg (by omega)]; rfl
  have hlt := Nat.mod_lt u h0
  rw [e]
  unfold wrap64
  omega
theorem xor8 {a b : Nat} (ha : a < 256) (hb : b < 256) : bits .xor .u8 (a : Int) (b : Int) = ((a ^^^ b : Nat) : Int) := by
  show IntKind.u8.wrap ((BitVec.ofInt 8 (a : Int) ^^^ BitVec.ofInt 8 (b : Int)).toNat : Int) = _
  have e : ∀ c : Nat, c < 256 → (BitVec.ofInt 8 (c : Int)).toNat = c := fun c h => by rw [BitVec.ofInt_natCast, BitVec.toNat_ofNat, Nat.mod_eq_of_lt (by omega)]
  rw [BitVec.toNat_xor, e a ha, e b hb]
  have h : a ^^^ b < 256 := Nat.xor_lt_two_pow (n := 8) ha hb
  rw [IntKind.wrap_u8]; omega


end Go.Proofs.YticcphppnmoogaaGreatDoor

namespace Go.Proofs.YticcphppnmoogaaGreatDoor
open Go.RowKit
attribute [local go_sem ↓] Go.wp_at_zero Go.wp_at_succ

def mayS : ByteArray := ⟨#[97, 98, 99, 100, 101, 102, 103, 104, 105, 106, 107, 108, 109, 110, 111, 112, 113, 114, 115, 116, 117, 118, 119, 120, 121, 122, 48, 49, 50, 51, 52, 53, 54, 55, 56, 57, 46, 45, 95]⟩
def hasK (k : Nat) (c : UInt8) : Bool := (mayS.data.toList.take k).any fun d => d == c
theorem mayS_size : mayS.size = 39 := rfl
theorem hasK_succ {k : Nat} {c : UInt8} (h : k < mayS.size) : hasK (k + 1) c = (hasK k c || mayS[k] == c) := by
  unfold hasK
  rw [take_snoc' (at_list h), List.any_append]; simp
theorem hasK_all_fin : ∀ a : Fin 4, ∀ b : Fin 64, hasK 39 (UInt8.ofNat (64 * a.val + b.val)) = signB ((64 * a.val + b.val : Nat) : Int) := by decide +kernel
theorem hasK_all (c : UInt8) : hasK 39 c = signB (c.toNat : Nat) := by
  have h := hasK_all_fin ⟨c.toNat / 64, by have := c.toNat_lt; omega⟩ ⟨c.toNat % 64, by omega⟩
  have e : 64 * (c.toNat / 64) + c.toNat % 64 = c.toNat := by omega
  simp only [e] at h
  rw [UInt8.ofNat_toNat] at h
  exact h

set_option maxRecDepth 100000 in
set_option maxHeartbeats 2000000 in
theorem rname_any (s : ByteArray) (w : World) (hs : s.size ≤ 9223372036854775807) : Calls Tryz.prog 30 #[.string s] w fun e w' => e = .returned (.bool (nameB s)) ∧ ∃ k, w' = w.drewN k := by
  by_cases h1 : (s.size : Int) = 0
  · have HN := Sl.mk (nm1 (s := s) (by omega))
    have h1' : ((s.size : Int) == 0) = true := by simpa using h1
    clear h1
    go_enter Tryz.func30, Tryz.ntmps30
    go_wp2_with fail
    go_ret
    exact ⟨by rw [HN.out]; rfl, 0, rfl⟩
  have h1' : ((s.size : Int) == 0) = false := by simpa using h1
  by_cases h2 : 24 < (s.size : Int)
  · have HN := Sl.mk (nm2 h2)
    clear h1
    go_enter Tryz.func30, Tryz.ntmps30
    go_wp2_with fail
    go_ret
    exact ⟨by rw [HN.out]; rfl, 0, rfl⟩
  by_cases h3 : s.toList = [46]
  · have HN := Sl.mk (nm3 h3)
    have h3' : (s.toList == [46]) = true := by simpa using h3
    clear h1 h3
    go_enter Tryz.func30, Tryz.ntmps30
    go_wp2_with fail
    go_ret
    exact ⟨by rw [HN.out]; rfl, 0, rfl⟩
  have h3' : (s.toList == [46]) = false := by simpa using h3
  by_cases h4 : s.toList = [46, 46]
  · have HN := Sl.mk (nm4 h4)
    have h4' : (s.toList == [46, 46]) = true := by simpa using h4
    clear h1 h3 h4
    go_enter Tryz.func30, Tryz.ntmps30
    go_wp2_with fail
    go_ret
    exact ⟨by rw [HN.out]; rfl, 0, rfl⟩
  have h4' : (s.toList == [46, 46]) = false := by simpa using h4
  have HN := Sl.mk (name_pre (s := s) (by omega) (by omega) h3' h4')
  clear h1 h3 h4
  go_enter Tryz.func30, Tryz.ntmps30
  go_wp2_with fail
  obtain ⟨M, hM⟩ : ∃ M : ByteArray, (⟨#[97, 98, 99, 100, 101, 102, 103, 104, 105, 106, 107, 108, 109, 110, 111, 112, 113, 114, 115, 116, 117, 118, 119, 120, 121, 122, 48, 49, 50, 51, 52, 53, 54, 55, 56, 57, 46, 45, 95]⟩ : ByteArray) = M := ⟨_, rfl⟩
  rw [hM]
  have HM := Sl.mk (show mayS = M from hM)
  have hM39 : M.size = 39 := by rw [← hM]; rfl
  clear hM
  go_loopw [4] (fun s4 wr => ∃ i q : Nat, i ≤ s.size ∧ s4 = .int .i64 i ∧ wr = w.drewN q ∧ Sl (∀ j, j < i → ∃ c, s.data.toList[j]? = some c ∧ signB (c.toNat : Nat) = true)) (fun s4 _ => s.size - (intOf s4).toNat)
  case atStart => exact ⟨0, 0, Nat.zero_le _, rfl, rfl, ⟨fun j hj => absurd hj (Nat.not_lt_zero _)⟩⟩
  case round =>
    obtain ⟨i, q, hi, rfl, rfl, HI⟩ := hrel
    by_cases hlt : i < s.size
    · have HA := Sl.mk (hasK_all s[i])
      have HAT := Sl.mk (at_list hlt)
      have HLT := Sl.mk hlt
      go_wp2_with fail
      go_loopw [5, 6] (fun s5 s6 wr => ∃ k q : Nat, k ≤ 39 ∧ s6 = .int .i64 k ∧ s5 = .bool (hasK k s[i]) ∧ wr = w.drewN q) (fun _ s6 _ => 39 - (intOf s6).toNat)
      case atStart => exact ⟨0, q, by omega, rfl, rfl, rfl⟩
      case round =>
        obtain ⟨k, q2, hk, rfl, rfl, rfl⟩ := hrel
        by_cases hk39 : k < 39
        · have hkM : k < M.size := by omega
          have HS : Sl (hasK (k + 1) s[i] = (hasK k s[i] || M[k] == s[i])) := Sl.mk (by obtain ⟨rfl⟩ := HM; exact hasK_succ hkM)
          cases hb : hasK k s[i]
          · by_cases hc : M[k] = s[i]
            · have HS2 := Sl.mk (show hasK (k + 1) s[i] = true by rw [HS.out, hb, hc]; simp)
              have hbb : ((M[k].toNat : Int) == (s[i].toNat : Int)) = true := by rw [hc]; simp
              clear hb hc hM39
              go_wp2_with fail
              go_quiet (fail)
              go_wp2_with fail
              go_roundw
              case rel => exact ⟨k + 1, _, by omega, by go_num, by rw [HS2.out], rfl⟩
              case measure => simp [intOf]; omega
            · have HS2 := Sl.mk (show hasK (k + 1) s[i] = false by rw [HS.out, hb]; simpa using hc)
              have hbb : ((M[k].toNat : Int) == (s[i].toNat : Int)) = false := by
                simp only [beq_eq_false_iff_ne, ne_eq]
                exact fun e => hc (UInt8.toNat_inj.1 (by omega))
              clear hb hc hM39
              go_wp2_with fail
              go_quiet (fail)
              go_wp2_with fail
              go_roundw
              case rel => exact ⟨k + 1, _, by omega, by go_num, by rw [HS2.out], rfl⟩
              case measure => simp [intOf]; omega
          · have HS2 := Sl.mk (show hasK (k + 1) s[i] = true by rw [HS.out, hb]; rfl)
            clear hb hM39
            go_wp2_with fail
            go_quiet (fail)
            go_wp2_with fail
            go_roundw
            case rel => exact ⟨k + 1, _, by omega, by go_num, by rw [HS2.out], rfl⟩
            case measure => simp [intOf]; omega
        · obtain rfl : k = 39 := by omega
          cases hb : hasK 39 s[i]
          · have H5 := Sl.mk (nm5 hlt (by rw [← HA.out, hb]))
            clear hb
            go_wp2_with fail
            go_ret
            exact ⟨by rw [H5.out]; rfl, q2, rfl⟩
          · have HX := Sl.mk (show ∀ j, j < i + 1 → ∃ c, s.data.toList[j]? = some c ∧ signB (c.toNat : Nat) = true from fun j hj => by
              rcases Nat.lt_or_ge j i with h | h
              · exact HI.out j h
              · obtain rfl : j = i := by omega
                exact ⟨_, HAT.out, by rw [← HA.out, hb]⟩)
            clear hb
            go_wp2_with fail
            go_roundw
            case rel => exact ⟨i + 1, q2, by omega, by go_num, rfl, HX⟩
            case measure => simp [intOf]; omega
    · obtain rfl : i = s.size := by omega
      have HA := Sl.mk (show (s.data.toList.all fun c => signB (c.toNat : Nat)) = true from List.all_eq_true.2 fun c hc => by
        obtain ⟨j, hj, e⟩ := List.mem_iff_getElem.1 hc
        obtain ⟨c', h1, h2⟩ := HI.out j (by simpa using hj)
        rw [List.getElem?_eq_getElem hj, e] at h1
        injection h1 with h1
        subst h1
        exact h2)
      go_wp2_with fail
      go_ret
      exact ⟨by rw [HN.out, HA.out]; rfl, q, rfl⟩

set_option maxHeartbeats 1000000 in
theorem rright_any (A : Option Addr) (n c : Nat) (p : List ByteArray) (w : World) (hn : n ≤ 1000000) (hs : ∀ s ∈ p, s.size ≤ 9223372036854775807) (hR : Reads w w.heap.size 1 A n (strV p)) :
    Calls Tryz.prog 28 #[.slice A n c] w fun e w' => e = .returned (.bool (rightB p)) ∧ ∃ k, w' = w.drewN k := by
  have HL := Sl.mk (strs_n hR)
  have HR := Sl.mk hR
  have HSZ := Sl.mk hs
  clear hR hs
  go_enter Tryz.func28, Tryz.ntmps28
  go_wp2_with fail
  go_loopw [3] (fun s3 wr => ∃ i q : Nat, i ≤ n ∧ s3 = .int .i64 i ∧ Sl (p.all nameB = (p.drop i).all nameB) ∧ wr = w.drewN q) (fun s3 _ => n - (intOf s3).toNat)
  case atStart => exact ⟨0, 0, Nat.zero_le _, rfl, ⟨by simp⟩, rfl⟩
  case round =>
    obtain ⟨i, q, hi, rfl, HI, rfl⟩ := hrel
    by_cases hil : i < n
    · obtain ⟨s, hs⟩ : ∃ s, p[i]? = some s := ⟨_, List.getElem?_eq_getElem (by rw [HL.out]; exact hil)⟩
      obtain ⟨ad, rfl, hb, hc⟩ := strs_at HR.out hs
      have HD := Sl.mk (drop_cons1 hs)
      have hsz := HSZ.out s (List.mem_of_getElem? hs)
      clear hs
      go_wp2_with fail
      refine (rname_any s _ hsz).mono ?_
      rintro e w2 ⟨rfl, q2, rfl⟩
      cases eR : nameB s
      · have HN := Sl.mk (show rightB p = false by unfold rightB; rw [HI.out, HD.out, List.all_cons, eR]; simp)
        go_wp2_with fail
        go_ret
        exact ⟨by rw [HN.out]; rfl, q + q2, by first | rfl | rw [World.drewN_drewN]⟩
      · have HN := Sl.mk (show p.all nameB = (p.drop (i + 1)).all nameB by rw [HI.out, HD.out, List.all_cons, eR]; rfl)
        go_wp2_with fail
        go_roundw
        case rel => exact ⟨i + 1, q + q2, by omega, by go_num, HN, by first | rfl | rw [World.drewN_drewN]⟩
        case measure => simp [intOf]; omega
    · obtain rfl : i = n := by omega
      have HN := Sl.mk (show rightB p = decide (i ≤ 8) by
        unfold rightB
        rw [HI.out, List.drop_of_length_le (by rw [HL.out]; omega), HL.out]; simp)
      by_cases h8 : i ≤ 8
      · have hd : decide ((i : Int) ≤ 8) = true := by simp; omega
        have HN2 := Sl.mk (HN.out.trans (decide_eq_true h8))
        go_wp2_with fail
        go_ret
        exact ⟨by rw [HN2.out]; rfl, q, rfl⟩
      · have hd : decide ((i : Int) ≤ 8) = false := by simp; omega
        have HN2 := Sl.mk (HN.out.trans (decide_eq_false h8))
        go_wp2_with fail
        go_ret
        exact ⟨by rw [HN2.out]; rfl, q, rfl⟩

def strk (p : List ByteArray) : ByteArray := p.foldl (fun a s => a ++ ⟨#[47]⟩ ++ s) ⟨#[]⟩
theorem strk_snoc (p : List ByteArray) (s : ByteArray) : strk (p ++ [s]) = strk p ++ ⟨#[47]⟩ ++ s := by simp [strk, List.foldl_append]
theorem ba_data (a b : ByteArray) : (a ++ b).data.toList = a.data.toList ++ b.data.toList := by rw [ByteArray.data_append, Array.toList_append]
theorem fold_data (p : List ByteArray) : ∀ a : ByteArray, (p.foldl (fun a s => a ++ ⟨#[47]⟩ ++ s) a).data.toList = a.data.toList ++ p.flatMap fun s => 47 :: s.data.toList := by
  induction p with
  | nil => intro a; simp
  | cons s p ih => intro a; rw [List.foldl_cons, ih, ba_data, ba_data]; simp
theorem strk_data (p : List ByteArray) : (strk p).data.toList = p.flatMap fun s => 47 :: s.data.toList := by
  unfold strk; rw [fold_data]; rfl
theorem join_data : ∀ p : List ByteArray, p ≠ [] → 47 :: Lib.join (p.map (·.data.toList)) [47] = p.flatMap fun s => 47 :: s.data.toList
  | [], h => absurd rfl h
  | [s], _ => by simp [Lib.join_one]
  | s :: t :: p, _ => by
    have ih := join_data (t :: p) (by simp)
    rw [List.flatMap_cons, ← ih]
    simp only [List.map_cons]
    rw [Lib.join_cons, Lib.join_cons]
    simp [Lib.joinTail]
theorem strk_txt {p : List ByteArray} (h : p ≠ []) : strk p = txtF p := by
  unfold txtF
  rw [if_neg h]
  apply ByteArray.ext
  apply Array.ext'
  rw [strk_data, ba_data, ← join_data p h]
  simp [joinF]
theorem strk_size {k : Nat} : ∀ p : List ByteArray, (∀ s ∈ p, s.size ≤ k) → (strk p).size ≤ p.length * (k + 1) := by
  intro p h
  have e : (strk p).size = (strk p).data.toList.length := by simp
  rw [e, strk_data]
  clear e
  induction p with
  | nil => simp
  | cons s p ih =>
    have h1 := h s (List.mem_cons_self ..)
    have h2 := ih (fun x hx => h x (List.mem_cons_of_mem _ hx))
    rw [List.flatMap_cons, List.length_append, List.length_cons, List.length_cons, Nat.add_mul]
    have e : s.data.toList.length = s.size := by simp
    omega

set_option maxHeartbeats 1000000 in
theorem rtext_any (A : Option Addr) (n c : Nat) (p : List ByteArray) (w : World) (hn : n ≤ 1000) (hs : ∀ s ∈ p, s.size ≤ 1000) (hR : Reads w w.heap.size 1 A n (strV p)) :
    Calls Tryz.prog 34 #[.slice A n c] w fun e w' => e = .returned (.string (txtF p)) ∧ w = w' := by
  have HL := Sl.mk (strs_n hR)
  have HR := Sl.mk hR
  have HSZ := Sl.mk hs
  clear hR hs
  go_enter Tryz.func34, Tryz.ntmps34
  go_wp2_with fail
  go_loopw [3, 4] (fun s3 s4 wr => ∃ i : Nat, i ≤ n ∧ s4 = .int .i64 i ∧ s3 = .string (strk (p.take i)) ∧ w = wr) (fun _ s4 _ => n - (intOf s4).toNat)
  case atStart => exact ⟨0, Nat.zero_le _, rfl, rfl, rfl⟩
  case round =>
    obtain ⟨i, hi, rfl, rfl, rfl⟩ := hrel
    by_cases hil : i < n
    · obtain ⟨s, hs⟩ : ∃ s, p[i]? = some s := ⟨_, List.getElem?_eq_getElem (by rw [HL.out]; exact hil)⟩
      obtain ⟨ad, rfl, hb, hc⟩ := strs_at HR.out hs
      have hsz := HSZ.out s (List.mem_of_getElem? hs)
      have HT : Sl (strk (p.take (i + 1)) = strk (p.take i) ++ ⟨#[47]⟩ ++ s) := ⟨by rw [take_snoc' hs, strk_snoc]⟩
      have hT0 : (strk (p.take i)).size ≤ 1001000 := by
        have h := strk_size (k := 1000) (p.take i) (fun x hx => HSZ.out x (List.mem_of_mem_take hx))
        rw [List.length_take] at h
        have : min i p.length * (1000 + 1) ≤ 1000 * 1001 := Nat.mul_le_mul (by omega) (Nat.le_refl _)
        omega
      obtain ⟨T, hT⟩ : ∃ T, strk (p.take i) = T := ⟨_, rfl⟩
      rw [hT] at HT hT0 ⊢
      have hT1 : (T ++ ⟨#[47]⟩).size ≤ 1001001 := by rw [ByteArray.size_append]; show _ + 1 ≤ _; omega
      have hT2 : (T ++ ⟨#[47]⟩ ++ s).size ≤ 1002001 := by rw [ByteArray.size_append]; omega
      clear hs hT
      go_wp2_with fail
      go_roundw
      case rel => exact ⟨i + 1, by omega, by go_num, by rw [HT.out], trivial⟩
      case measure => simp [intOf]; omega
    · obtain rfl : i = n := by omega
      have HP := Sl.mk (show p.take i = p from List.take_of_length_le (by rw [HL.out]; omega))
      by_cases h0 : i = 0
      · have HN := Sl.mk (show txtF p = ⟨#[47]⟩ by unfold txtF; rw [if_pos (List.eq_nil_of_length_eq_zero (by rw [HL.out]; exact h0))])
        have h0' : ((i : Int) == 0) = true := by simpa using h0
        clear h0
        go_wp2_with fail
        go_ret
        exact ⟨by rw [HN.out]; rfl, rfl⟩
      · have HN := Sl.mk (show strk (p.take i) = txtF p by rw [HP.out]; exact strk_txt (fun e => h0 (by rw [← HL.out, e]; rfl)))
        have h0' : ((i : Int) == 0) = false := by simpa using h0
        clear h0
        go_wp2_with fail
        go_ret
        exact ⟨ret_str HN.out, rfl⟩

end Go.Proofs.YticcphppnmoogaaGreatDoor

namespace Go.Proofs.YticcphppnmoogaaGreatDoor
open Go.RowKit
attribute [local go_sem ↓] Go.wp_at_zero Go.wp_at_succ

theorem str_cut (s : ByteArray) (a b : Nat) (x y : Int) (hx : x = a) (hy : y = b) (h1 : a ≤ b) (h2 : b ≤ s.size) (w : World) :
    (Instr.slice 9 (.string s) (some (.int .i64 x)) (some (.int .i64 y)) none).run Tryz.prog w = .ok (.string (s.extract a b)) w := by
  subst hx hy
  rw [run_slice_string_if w 9 s .i64 .i64 (a : Int) (b : Int) Tryz.underlying9, if_pos ⟨by omega, by omega⟩, if_pos ⟨by omega, by omega⟩]
  have e : (b : Int).toNat = b := by omega
  rw [e]; rfl

/-- What the rest of the bytes makes of the parts so far. -/
def PartsSt (s : ByteArray) (q : List ByteArray) (T : ByteArray) (i : Nat) : Prop :=
  ∀ x t, Lib.split (s.data.toList.drop i) [47] = x :: t → Lib.split s.data.toList [47] = q.map (·.data.toList) ++ (T.data.toList ++ x) :: t
theorem parts_start (s : ByteArray) : PartsSt s [] ⟨#[]⟩ 0 := fun x t h => by simpa using h
theorem parts_slash {s : ByteArray} {q : List ByteArray} {T : ByteArray} {i : Nat} {c : UInt8} (h : PartsSt s q T i) (hc : s.data.toList[i]? = some c) (h47 : c = 47) : PartsSt s (q ++ [T]) ⟨#[]⟩ (i + 1) := fun x t hx => by
  have h1 := h [] (x :: t) (by rw [drop_cons1 hc, h47, split_eq, hx])
  rw [h1]; simp
theorem extract_one {s : ByteArray} {i : Nat} {c : UInt8} (hc : s.data.toList[i]? = some c) : (s.extract i (i + 1)).data.toList = [c] := by
  rw [ByteArray.data_extract, Array.toList_extract]
  simp only [List.extract_eq_take_drop]
  rw [drop_cons1 hc]
  simp
theorem parts_sign {s : ByteArray} {q : List ByteArray} {T : ByteArray} {i : Nat} {c : UInt8} (h : PartsSt s q T i) (hc : s.data.toList[i]? = some c) (h47 : c ≠ 47) : PartsSt s q (T ++ s.extract i (i + 1)) (i + 1) := fun x t hx => by
  obtain ⟨y, u, e1, e2⟩ := split_ne (s.data.toList.drop (i + 1)) h47
  rw [hx] at e1
  injection e1 with e3 e4
  subst e3 e4
  have h1 := h (c :: x) t (by rw [drop_cons1 hc, e2])
  rw [h1, ba_data, extract_one hc]; simp
theorem parts_end {s : ByteArray} {q : List ByteArray} {T : ByteArray} {i : Nat} (h : PartsSt s q T i) (hi : s.size ≤ i) : partsF s = q ++ [T] := by
  apply map_data_inj
  rw [parts_data]
  have hd : s.data.toList.drop i = [] := List.drop_of_length_le (by simpa using hi)
  have h1 := h [] [] (by rw [hd, split_nil])
  rw [h1]; simp

def PartsPost (w : World) (s : ByteArray) (e : Ending) (w' : World) : Prop :=
  ∃ A c, e = .returned (.slice A (partsF s).length c) ∧ w'.ownsRow w.heap.size 9 1 (.slice A (partsF s).length c) (partsF s).length (strV (partsF s)) ∧ Below w.heap.size w w'

set_option maxRecDepth 100000 in
set_option maxHeartbeats 2000000 in
theorem rparts_any (s : ByteArray) (w : World) (hs : s.size ≤ 1000000) : Calls Tryz.prog 29 #[.string s] w (PartsPost w s) := by
  obtain ⟨i0, hi0, hz0, hz1, hz2⟩ := info_parts strInfo
  go_enter Tryz.func29, Tryz.ntmps29
  go_wp2_with fail
  go_loopw [3, 4, 5] (fun v3 v4 v5 wr => ∃ (i m : Nat) (q : List ByteArray) (T : ByteArray), i ≤ s.size ∧ m ≤ i ∧ T.size ≤ i ∧ v5 = .int .i64 i ∧ v4 = .string T ∧ wr.ownsRow w.heap.size 9 1 v3 m (strV q) ∧ Sl (PartsSt s q T i) ∧ Below w.heap.size w wr) (fun _ _ v5 _ => s.size - (intOf v5).toNat)
  case atStart => exact ⟨0, 0, [], ⟨#[]⟩, by omega, by omega, by decide, rfl, rfl, World.ownsRow_nil _ _ _ _, ⟨parts_start s⟩, Below.refl _ _⟩
  case round =>
    obtain ⟨i, m, q, T, hi, hm, hT, rfl, rfl, hown, HP, hB⟩ := hrel
    obtain ⟨A3, c3, rfl⟩ := ownForm hown
    by_cases hlt : i < s.size
    · have hat := at_list hlt
      by_cases hc : s[i] = 47
      · have HP2 := Sl.mk (parts_slash HP.out hat hc)
        have hcc : ((s[i].toNat : Int) == 47) = true := by rw [hc]; rfl
        clear hat hc HP
        go_wp2_with (at_builtin; refine wpList_append_anyG _ rfl (.tmp 16) (.tmp 18) 38 rfl w.heap.size 9 i0 (.string ByteArray.empty) 1 16 Tryz.underlying38 hi0 hz0 hz1 hz2 rfl (by decide) (.slice A3 m c3) m (strV q) rfl (hown.alloc _) (wr.heap.size + 1) (some ⟨wr.heap.size, 0, none⟩) 1 1 [.string T] rfl (reads_new1 _ _ _ (Nat.lt_succ_self _)) (by intro u hu; simp at hu; subst hu; rfl) (by unfold maxLen; omega) (by omega) (by have := hB.size; simp; omega) ?_)
        intro v1 w1 hown2 hg1 hb1
        have hE2 := (below_al hB (.cells #[.string T] 9)).grown hg1 (by have := hB.size; simp; omega) (fun q hq => ownGe hown hq)
        have HO := Sl.mk (show w1.ownsRow w.heap.size 9 1 v1 (m + 1) (strV (q ++ [T])) by rw [strV_app]; exact hown2)
        obtain ⟨A5, c5, rfl⟩ := ownForm hown2
        clear hown hB hown2 hg1 hb1
        go_wp2_with fail
        go_roundw
        case rel => exact ⟨i + 1, m + 1, q ++ [T], ⟨#[]⟩, by omega, by omega, by show 0 ≤ _; omega, by go_num, rfl, HO.out, HP2, hE2⟩
        case measure => simp [intOf]; omega
      · have HP2 := Sl.mk (parts_sign HP.out hat hc)
        have hcc : ((s[i].toNat : Int) == 47) = false := by
          simp only [beq_eq_false_iff_ne, ne_eq]
          exact fun e => hc (UInt8.toNat_inj.1 (by have : (47 : UInt8).toNat = 47 := rfl; omega))
        have hsz : (s.extract i (i + 1)).size = 1 := by rw [ByteArray.size_extract]; omega
        obtain ⟨t, ht⟩ : ∃ t, s.extract i (i + 1) = t := ⟨_, rfl⟩
        have hsl : ∀ W, (Instr.slice 9 (.string s) (some (.int .i64 (i : Int))) (some (.int .i64 ((i : Int) + 1))) none).run Tryz.prog W = .ok (.string t) W := fun W => by rw [← ht]; exact str_cut s i (i + 1) _ _ rfl (by omega) (by omega) (by omega) W
        rw [ht] at HP2 hsz
        have hTt : (T ++ t).size ≤ i + 1 := by rw [ByteArray.size_append]; omega
        clear hat hc HP ht
        go_wp2_with fail
        go_roundw
        case rel => exact ⟨i + 1, m, q, T ++ t, by omega, by omega, hTt, by go_num, rfl, hown, HP2, hB⟩
        case measure => simp [intOf]; omega
    · obtain rfl : i = s.size := by omega
      have HE := Sl.mk (parts_end HP.out (Nat.le_refl _))
      clear HP
      go_wp2_with (at_builtin; refine wpList_append_anyG _ rfl (.tmp 27) (.tmp 29) 38 rfl w.heap.size 9 i0 (.string ByteArray.empty) 1 16 Tryz.underlying38 hi0 hz0 hz1 hz2 rfl (by decide) (.slice A3 m c3) m (strV q) rfl (hown.alloc _) (wr.heap.size + 1) (some ⟨wr.heap.size, 0, none⟩) 1 1 [.string T] rfl (reads_new1 _ _ _ (Nat.lt_succ_self _)) (by intro u hu; simp at hu; subst hu; rfl) (by unfold maxLen; omega) (by omega) (by have := hB.size; simp; omega) ?_)
      intro v1 w1 hown2 hg1 hb1
      have hE2 := (below_al hB (.cells #[.string T] 9)).grown hg1 (by have := hB.size; simp; omega) (fun q hq => ownGe hown hq)
      have HO := Sl.mk (show w1.ownsRow w.heap.size 9 1 v1 (m + 1) (strV (q ++ [T])) by rw [strV_app]; exact hown2)
      obtain ⟨A5, c5, rfl⟩ := ownForm hown2
      have hl : (partsF s).length = m + 1 := by rw [HE.out, ← strs_n (Reads.of_own HO.out)]
      have HL := Sl.mk hl
      clear hown hB hown2 hg1 hb1 hl
      go_wp2_with fail
      go_ret
      exact ⟨A5, c5, by rw [HL.out]; rfl, by rw [HL.out, HE.out]; exact HO.out, hE2⟩

end Go.Proofs.YticcphppnmoogaaGreatDoor
