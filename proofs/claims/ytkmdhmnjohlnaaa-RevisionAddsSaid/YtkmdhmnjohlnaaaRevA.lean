/-
  Revisions as lists; the contracts of path.sign and path.Name.
-/
import Derived.Test.YtkmdhmnjohlnaaaRows
import Derived.WalkLawsBesides
import Derived.Test.YtkmdhmnjohlnaaaWordsS
import Derived.WalkSpells
namespace Go.Proofs.Ytkmdhmnjohlnaaa
open Go.RowKit

/-- A revision. -/
structure Rv where
  no : Int
  seal_ : List Int
  size : Int
  h : seal_.length = 32

def rvC (r : Rv) : List Value := .int .i64 r.no :: (r.seal_.map (Value.int .u8) ++ [.int .i64 r.size])
theorem rvC_len (r : Rv) : (rvC r).length = 34 := by simp [rvC, r.h]
theorem rvC_one (r : Rv) : ∀ v ∈ rvC r, v.oneCell' = true := by
  intro v hv
  simp only [rvC, List.mem_cons, List.mem_append, List.mem_map, List.not_mem_nil, or_false] at hv
  rcases hv with rfl | ⟨x, _, rfl⟩ | rfl <;> rfl
theorem rvC_0 (r : Rv) : (rvC r)[0]? = some (.int .i64 r.no) := rfl
theorem rvC_33 (r : Rv) : (rvC r)[33]? = some (.int .i64 r.size) := by
  unfold rvC
  rw [List.getElem?_cons_succ, List.getElem?_append_right (by simp [r.h])]
  simp [r.h]

def revC (l : List Rv) : List Value := l.flatMap rvC
theorem revC_len (l : List Rv) : (revC l).length = l.length * 34 := by
  induction l with
  | nil => rfl
  | cons r l ih => simp only [revC, List.flatMap_cons, List.length_append, rvC_len, List.length_cons] at *; omega
theorem revC_one (l : List Rv) : ∀ v ∈ revC l, v.oneCell' = true := by
  intro v hv
  obtain ⟨r, _, h⟩ := List.mem_flatMap.1 hv
  exact rvC_one r v h
theorem revC_at : ∀ (l : List Rv) (i : Nat) (r : Rv), l[i]? = some r → ∀ (j : Nat) (v : Value), (rvC r)[j]? = some v → (revC l)[i * 34 + j]? = some v
  | [], i, r, h, _, _, _ => by simp at h
  | x :: l, 0, r, h, j, v, hv => by
    simp at h; subst h
    have hj : j < (rvC x).length := (List.getElem?_eq_some_iff.1 hv).1
    simp only [revC, List.flatMap_cons, Nat.zero_mul, Nat.zero_add]
    rw [List.getElem?_append_left hj, hv]
  | x :: l, i + 1, r, h, j, v, hv => by
    have h' : l[i]? = some r := by simpa using h
    have e : (i + 1) * 34 + j = (rvC x).length + (i * 34 + j) := by rw [rvC_len]; omega
    simp only [revC, List.flatMap_cons]
    rw [e, List.getElem?_append_right (by omega), Nat.add_sub_cancel_left]
    exact revC_at l i r h' j v hv
theorem revC_append (a b : List Rv) : revC (a ++ b) = revC a ++ revC b := by simp [revC]

/-- Where an element lies: its cells. -/
theorem reads_rv {w : World} {B n : Nat} {A : Option Addr} {l : List Rv} (h : Reads w B 34 A n (revC l)) {i : Nat} {r : Rv} (hi : l[i]? = some r) :
    ∃ ad, A = some ad ∧ ad.block < B ∧ ∀ j v, (rvC r)[j]? = some v → w.cell? ((ad.add (i * 34)).add j) = some v := by
  have hl := h.1
  rw [revC_len] at hl
  have hil : i < l.length := (List.getElem?_eq_some_iff.1 hi).1
  obtain ⟨ad, e, hb, hc⟩ := h.2 (by omega)
  exact ⟨ad, e, hb, fun j v hv => by rw [add_of_add]; exact hc _ _ (revC_at l i r hi j v hv)⟩
theorem reads_n {w : World} {B n : Nat} {A : Option Addr} {l : List Rv} (h : Reads w B 34 A n (revC l)) : l.length = n := by
  have hl := h.1
  rw [revC_len] at hl
  omega
theorem reads_load {w : World} {B n : Nat} {A : Option Addr} {l : List Rv} (h : Reads w B 34 A n (revC l)) {i : Nat} {r : Rv} (hi : l[i]? = some r) :
    ∃ ad, A = some ad ∧ ad.block < B ∧ (∀ j v, (rvC r)[j]? = some v → w.cell? ((ad.add (i * 34)).add j) = some v) ∧ w.cell? (ad.add (i * 34)) = some (.int .i64 r.no) := by
  obtain ⟨ad, e, hb, hc⟩ := reads_rv h hi
  exact ⟨ad, e, hb, hc, by have := hc 0 _ (rvC_0 r); simpa [Addr.add] using this⟩

def signB (c : Int) : Bool := decide (97 ≤ c ∧ c ≤ 122) || decide (48 ≤ c ∧ c ≤ 57) || c == 46 || c == 45 || c == 95
theorem sign_any (c : Int) (w : World) : Calls Try.prog 43 #[.int .u8 c] w fun e w' => e = .returned (.bool (signB c)) ∧ w = w' := by
  go_enter Try.func43, Try.ntmps43
  go_wp2
  all_goals go_ret
  all_goals exact ⟨ret_bool (by rw [Bool.eq_iff_iff]; simp [signB] <;> omega), rfl⟩

def nameB (s : ByteArray) : Bool := decide (1 ≤ s.size) && decide (s.size ≤ 24) && !(s.toList == [46]) && !(s.toList == [46, 46]) && s.data.toList.all fun c => signB (c.toNat : Nat)

theorem name_pre {s : ByteArray} (h1 : 1 ≤ s.size) (h2 : s.size ≤ 24) (h3 : (s.toList == [46]) = false) (h4 : (s.toList == [46, 46]) = false) : nameB s = s.data.toList.all fun c => signB (c.toNat : Nat) := by
  unfold nameB; rw [h3, h4]; simp [h1, h2]
theorem at_list {s : ByteArray} {i : Nat} (h : i < s.size) : s.data.toList[i]? = some s[i] := by
  have : i < s.data.toList.length := by simpa using h
  rw [List.getElem?_eq_getElem this]; rfl

theorem nm1 {s : ByteArray} (h : (s.size : Int) < 1) : nameB s = false := by unfold nameB; rw [show decide (1 ≤ s.size) = false from decide_eq_false (by omega)]; rfl
theorem nm2 {s : ByteArray} (h : 24 < (s.size : Int)) : nameB s = false := by unfold nameB; rw [show decide (s.size ≤ 24) = false from decide_eq_false (by omega)]; simp
theorem nm3 {s : ByteArray} (h : s.toList = [46]) : nameB s = false := by unfold nameB; rw [h]; simp
theorem nm4 {s : ByteArray} (h : s.toList = [46, 46]) : nameB s = false := by unfold nameB; rw [h]; simp
theorem nm5 {s : ByteArray} {i : Nat} (hi : i < s.size) (hc : signB ((s[i].toNat : Nat) : Int) = false) : nameB s = false := by
  unfold nameB
  rw [show (s.data.toList.all fun c => signB (c.toNat : Nat)) = false from List.all_eq_false.2 ⟨s[i], List.mem_of_getElem? (at_list hi), by rw [hc]; simp⟩]
  simp

set_option maxHeartbeats 1000000 in
theorem name_any (s : ByteArray) (w : World) (hs : s.size ≤ 9223372036854775807) : Calls Try.prog 33 #[.string s] w fun e w' => e = .returned (.bool (nameB s)) ∧ w = w' := by
  by_cases h1 : (s.size : Int) < 1
  · have HN := Sl.mk (nm1 h1)
    go_enter Try.func33, Try.ntmps33
    go_wp2
    go_step3
    go_wp2
    rw [Exit.noGoto_ret]
    go_ret
    exact ⟨by rw [HN.out]; rfl, rfl⟩
  by_cases h2 : 24 < (s.size : Int)
  · have HN := Sl.mk (nm2 h2)
    go_enter Try.func33, Try.ntmps33
    go_wp2
    go_step3
    go_wp2
    rw [Exit.noGoto_ret]
    go_ret
    exact ⟨by rw [HN.out]; rfl, rfl⟩
  by_cases h3 : s.toList = [46]
  · have HN := Sl.mk (nm3 h3)
    go_enter Try.func33, Try.ntmps33
    go_wp2
    go_step3
    go_wp2
    rw [Exit.noGoto_ret]
    go_ret
    exact ⟨by rw [HN.out]; rfl, rfl⟩
  have h3' : (s.toList == [46]) = false := by simpa using h3
  by_cases h4 : s.toList = [46, 46]
  · have HN := Sl.mk (nm4 h4)
    go_enter Try.func33, Try.ntmps33
    go_wp2
    go_step3
    go_wp2
    rw [Exit.noGoto_ret]
    go_ret
    exact ⟨by rw [HN.out]; rfl, rfl⟩
  have h4' : (s.toList == [46, 46]) = false := by simpa using h4
  have HN := Sl.mk (name_pre (s := s) (by omega) (by omega) h3' h4')
  go_enter Try.func33, Try.ntmps33
  go_wp2
  go_step3
  go_wp2
  go_step3
  go_wp2
  go_loopw [3, 22] (fun s3 s22 wr => ∃ i : Nat, i ≤ s.size ∧ s22 = .int .i64 i ∧ wr = w ∧ Hid (∀ j, j < i → ∃ c, s.data.toList[j]? = some c ∧ signB (c.toNat : Nat) = true)) (fun s3 s22 _ => s.size - (intOf s22).toNat)
  case atStart => exact ⟨0, Nat.zero_le _, rfl, rfl, fun j hj => absurd hj (Nat.not_lt_zero _)⟩
  case round =>
    obtain ⟨i, hi, rfl, rfl, HI⟩ := hrel
    by_cases hlt : i < s.size
    · have hib : (i : Int) < (s.size : Int) := by omega
      cases hc : signB ((s[i].toNat : Nat) : Int)
      · have H5 := Sl.mk (nm5 hlt hc)
        go_wp2_with fail
        refine (sign_any _ _).mono ?_
        rintro e w' ⟨rfl, rfl⟩
        rw [hc]
        go_wp2_with fail
        rw [Exit.noGoto_ret]
        go_ret
        exact ⟨by rw [H5.out]; rfl, rfl⟩
      · have HX := Sl.mk (show ∀ j, j < i + 1 → ∃ c, s.data.toList[j]? = some c ∧ signB (c.toNat : Nat) = true from fun j hj => by
          rcases Nat.lt_or_ge j i with h | h
          · exact HI j h
          · obtain rfl : j = i := by omega
            exact ⟨_, at_list hlt, hc⟩)
        go_wp2_with fail
        refine (sign_any _ _).mono ?_
        rintro e w' ⟨rfl, rfl⟩
        rw [hc]
        go_wp2_with fail
        exact ⟨⟨i + 1, by omega, by go_num, trivial, HX.out⟩, by simp [intOf]; omega⟩
    · obtain rfl : i = s.size := by omega
      have HA := Sl.mk (show (s.data.toList.all fun c => signB (c.toNat : Nat)) = true from List.all_eq_true.2 fun c hc => by
        obtain ⟨j, hj, e⟩ := List.mem_iff_getElem.1 hc
        obtain ⟨c', h1, h2⟩ := HI j (by simpa using hj)
        rw [List.getElem?_eq_getElem hj, e] at h1
        injection h1 with h1
        subst h1
        exact h2)
      go_wp2_with fail
      rw [Exit.noGoto_ret]
      go_ret
      exact ⟨by rw [HN.out, HA.out]; rfl, rfl⟩

end Go.Proofs.Ytkmdhmnjohlnaaa
