/-
  The reference's Hex and Unhex, in plain terms.
-/
import Derived.Test.YtaffjcenojikjaaDoorDigUnhex
namespace Go.Proofs.YtaffjcenojikjaaDoor
open Go.RowKit

def signs16 : ByteArray := ⟨#[48, 49, 50, 51, 52, 53, 54, 55, 56, 57, 97, 98, 99, 100, 101, 102]⟩
theorem signs_cut : ∀ a : Fin 16, signs16.extract a.val (a.val + 1) = ⟨#[UInt8.ofNat (signF a.val)]⟩ := by decide +kernel
theorem signs_at : ∀ a : Fin 16, (signs16.data.toList.getD a.val 0).toNat = signF a.val := by decide +kernel
theorem sign_four : ∀ a : Fin 16, fourB (signF a.val) = true ∧ fourV (signF a.val) = a.val := by decide +kernel
theorem four_sign {c : Nat} (h : fourB c = true) : signF (fourV c) = c := by
  unfold fourB at h
  unfold signF fourV
  have h := of_decide_eq_true h
  split
  · rw [if_pos (by omega)]; omega
  · rename_i h1
    have h2 : 97 ≤ c ∧ c ≤ 102 := by omega
    rw [if_pos h2, if_neg (by omega)]; omega
theorem hexS_snoc (D : List Nat) (x : Nat) : hexS (D ++ [x]) = hexS D ++ ⟨#[UInt8.ofNat (signF (x / 16))]⟩ ++ ⟨#[UInt8.ofNat (signF (x % 16))]⟩ := by
  apply ByteArray.ext
  apply Array.toList_inj.1
  simp [hexS, hexF_snoc]
theorem nums_hexS (D : List Nat) (h : ∀ x ∈ D, x < 256) : nums (hexS D) = hexF D := by
  have hlt : ∀ y ∈ hexF D, y < 256 := by
    intro y hy
    simp only [hexF, List.mem_flatMap, List.mem_cons, List.not_mem_nil, or_false] at hy
    obtain ⟨x, hx, hy⟩ := hy
    have := h x hx
    have hs : ∀ a, a < 16 → signF a < 256 := fun a ha => by unfold signF; split <;> omega
    rcases hy with rfl | rfl
    · exact hs _ (by omega)
    · exact hs _ (by omega)
  unfold nums hexS
  rw [List.map_map]
  conv => rhs; rw [← List.map_id (hexF D)]
  apply List.map_congr_left
  intro y hy
  have := hlt y hy
  simp [Nat.mod_eq_of_lt this]

def stepR (D : List Nat) (c i : Nat) : List Nat := if fourB c = true then D.set (i / 2) (16 * (D.getD (i / 2) 0 % 16) + fourV c) else D
def refD (l : List Nat) : Nat → List Nat
  | 0 => List.replicate 32 0
  | i + 1 => stepR (refD l i) (l.getD i 0) i
theorem stepR_len (D : List Nat) (c i : Nat) : (stepR D c i).length = D.length := by unfold stepR; split <;> simp
theorem refD_len (l : List Nat) (i : Nat) : (refD l i).length = 32 := by
  induction i with
  | zero => rfl
  | succ i ih => exact (stepR_len _ _ _).trans ih
theorem stepR_lt {D : List Nat} (h : ∀ x ∈ D, x < 256) (c i : Nat) : ∀ x ∈ stepR D c i, x < 256 := by
  unfold stepR
  split
  · intro x hx
    rcases List.mem_or_eq_of_mem_set hx with hx | rfl
    · exact h x hx
    · have := fourV_lt c; omega
  · exact h
theorem refD_lt (l : List Nat) (i : Nat) : ∀ x ∈ refD l i, x < 256 := by
  induction i with
  | zero => intro x hx; have := List.eq_of_mem_replicate hx; omega
  | succ i ih => exact stepR_lt ih _ _

theorem refD_ok {l : List Nat} (h : hexOK l = true) : ∀ m, m ≤ 32 → refD l (2 * m) = (List.range m).map (unF l) ++ List.replicate (32 - m) 0 := by
  unfold hexOK at h
  rw [Bool.and_eq_true, List.all_eq_true] at h
  obtain ⟨hl, hall⟩ := h
  have hl := of_decide_eq_true hl
  have hb : ∀ j, j < 64 → fourB (l.getD j 0) = true := fun j hj => by
    have hj2 : j < l.length := by omega
    have e : l.getD j 0 = l[j] := by simp [hj2]
    rw [e]; exact hall _ (List.getElem_mem hj2)
  intro m
  induction m with
  | zero => intro _; rfl
  | succ m ih =>
    intro hm
    have ih := ih (by omega)
    rw [show 2 * (m + 1) = 2 * m + 1 + 1 from by omega]
    show stepR (stepR (refD l (2 * m)) (l.getD (2 * m) 0) (2 * m)) (l.getD (2 * m + 1) 0) (2 * m + 1) = _
    rw [ih]
    obtain ⟨q, hq⟩ : ∃ q, 32 - m = q + 1 := ⟨31 - m, by omega⟩
    have hlen : ((List.range m).map (unF l)).length = m := by simp
    rw [hq, show 32 - (m + 1) = q from by omega, List.replicate_succ]
    have e1 : 2 * m / 2 = m := by omega
    have e2 : (2 * m + 1) / 2 = m := by omega
    have g1 : (((List.range m).map (unF l)) ++ 0 :: List.replicate q 0).getD m 0 = 0 := by
      rw [List.getD, List.getElem?_append_right (by omega), hlen, Nat.sub_self]; rfl
    have s1 : stepR ((List.range m).map (unF l) ++ 0 :: List.replicate q 0) (l.getD (2 * m) 0) (2 * m) = (List.range m).map (unF l) ++ fourV (l.getD (2 * m) 0) :: List.replicate q 0 := by
      unfold stepR
      rw [if_pos (hb _ (by omega)), e1, g1, List.set_append_right _ _ (by omega), hlen, Nat.sub_self]
      simp
    have g2 : (((List.range m).map (unF l)) ++ fourV (l.getD (2 * m) 0) :: List.replicate q 0).getD m 0 = fourV (l.getD (2 * m) 0) := by
      rw [List.getD, List.getElem?_append_right (by omega), hlen, Nat.sub_self]; rfl
    rw [s1]
    unfold stepR
    rw [if_pos (hb _ (by omega)), e2, g2, List.set_append_right _ _ (by omega), hlen, Nat.sub_self, Nat.mod_eq_of_lt (fourV_lt _)]
    simp [List.range_succ, unF]

theorem hex_of_ok {l : List Nat} (h : hexOK l = true) : hexF (unD l) = l := by
  unfold hexOK at h
  rw [Bool.and_eq_true, List.all_eq_true] at h
  obtain ⟨hl, hall⟩ := h
  have hl := of_decide_eq_true hl
  have hb : ∀ j, j < 64 → fourB (l.getD j 0) = true := fun j hj => by
    have hj2 : j < l.length := by omega
    have e : l.getD j 0 = l[j] := by simp [hj2]
    rw [e]; exact hall _ (List.getElem_mem hj2)
  have key : ∀ m, m ≤ 32 → hexF ((List.range m).map (unF l)) = l.take (2 * m) := by
    intro m
    induction m with
    | zero => intro _; rfl
    | succ m ih =>
      intro hm
      rw [List.range_succ, List.map_append, List.map_singleton, hexF_snoc, ih (by omega), show 2 * (m + 1) = 2 * m + 1 + 1 from by omega, take_succ_getD (d := 0) (by omega), take_succ_getD (d := 0) (by omega)]
      have h1 := fourV_lt (l.getD (2 * m) 0)
      have h2 := fourV_lt (l.getD (2 * m + 1) 0)
      have d1 : unF l m / 16 = fourV (l.getD (2 * m) 0) := by unfold unF; omega
      have d2 : unF l m % 16 = fourV (l.getD (2 * m + 1) 0) := by unfold unF; omega
      rw [d1, d2, four_sign (hb _ (by omega)), four_sign (hb _ (by omega))]
      simp
  unfold unD
  rw [key 32 (by omega), List.take_of_length_le (by omega)]
theorem ok_hex {D : List Nat} (hD : D.length = 32) (h : ∀ x ∈ D, x < 256) : hexOK (hexF D) = true := by
  unfold hexOK
  rw [Bool.and_eq_true, List.all_eq_true]
  refine ⟨by rw [hexF_len, hD]; rfl, fun y hy => ?_⟩
  simp only [hexF, List.mem_flatMap, List.mem_cons, List.not_mem_nil, or_false] at hy
  obtain ⟨x, hx, hy⟩ := hy
  have := h x hx
  rcases hy with rfl | rfl
  · exact (sign_four ⟨x / 16, by omega⟩).1
  · exact (sign_four ⟨x % 16, by omega⟩).1

theorem hexS_inj {s : ByteArray} {l : List Nat} (h : nums s = l) : s = ⟨(l.map fun n : Nat => UInt8.ofNat n).toArray⟩ := by
  subst h
  apply ByteArray.ext
  apply Array.toList_inj.1
  simp only [nums, List.map_map]
  conv => lhs; rw [← List.map_id s.data.toList]
  apply List.map_congr_left
  intro c _
  simp
theorem un_lt (l : List Nat) : ∀ x ∈ unD l, x < 256 := by
  intro x hx
  simp only [unD, List.mem_map] at hx
  obtain ⟨i, -, rfl⟩ := hx
  have h1 := fourV_lt (l.getD (2 * i) 0)
  have h2 := fourV_lt (l.getD (2 * i + 1) 0)
  unfold unF; omega
theorem unD_len (l : List Nat) : (unD l).length = 32 := by simp [unD]
theorem ref_yes {s : ByteArray} (h : hexOK (nums s) = true) : refD (nums s) 64 = unD (nums s) ∧ hexS (unD (nums s)) = s := by
  have h1 := refD_ok h 32 (Nat.le_refl _)
  refine ⟨by simpa [unD] using h1, ?_⟩
  exact (hexS_inj (hex_of_ok h).symm).symm
theorem ref_no {s : ByteArray} (h : hexOK (nums s) = false) {D : List Nat} (hD : D.length = 32) (hb : ∀ x ∈ D, x < 256) : hexS D ≠ s := by
  rintro rfl
  rw [nums_hexS D hb, ok_hex hD hb] at h
  cases h
/-- There and back. -/
theorem un_hex {D : List Nat} (hD : D.length = 32) (hb : ∀ x ∈ D, x < 256) : unhexV (hexS D) = .tuple #[.agg (u8s D).toArray, .int .i64 0] := by
  have hok := ok_hex hD hb
  unfold unhexV
  rw [nums_hexS D hb, if_pos hok]
  have h2 : hexF (unD (hexF D)) = hexF D := hex_of_ok hok
  have : unD (hexF D) = D := by
    have inj : ∀ (X Y : List Nat), X.length = Y.length → (∀ x ∈ X, x < 256) → (∀ y ∈ Y, y < 256) → hexF X = hexF Y → X = Y := by
      intro X
      induction X with
      | nil => intro Y h _ _ _; cases Y with
        | nil => rfl
        | cons y Y => simp at h
      | cons x X ih =>
        intro Y h hx hy he
        cases Y with
        | nil => simp at h
        | cons y Y =>
          have e : hexF (x :: X) = [signF (x / 16), signF (x % 16)] ++ hexF X := by simp [hexF]
          have e' : hexF (y :: Y) = [signF (y / 16), signF (y % 16)] ++ hexF Y := by simp [hexF]
          rw [e, e'] at he
          simp only [List.cons_append, List.nil_append, List.cons.injEq] at he
          obtain ⟨h1, h2, h3⟩ := he
          have hx0 := hx x (List.mem_cons_self ..)
          have hy0 := hy y (List.mem_cons_self ..)
          have sj : ∀ a b, a < 16 → b < 16 → signF a = signF b → a = b := fun a b ha hb h => by
            have := (sign_four ⟨a, ha⟩).2
            have h5 := (sign_four ⟨b, hb⟩).2
            simp only at this h5
            rw [← this, ← h5, h]
          have d1 := sj _ _ (by omega) (by omega) h1
          have d2 := sj _ _ (by omega) (by omega) h2
          have : x = y := by omega
          rw [this, ih Y (by simpa using h) (fun z hz => hx z (List.mem_cons_of_mem _ hz)) (fun z hz => hy z (List.mem_cons_of_mem _ hz)) h3]
    exact inj _ _ (by rw [unD_len, hD]) (un_lt _) hb h2
  rw [this]

end Go.Proofs.YtaffjcenojikjaaDoor
