/-
  The contracts of creelref01.Same and creellaw05.Few.
-/
import Derived.Test.YticcphppnmoogaaGreatDoorBy7

namespace Go.Proofs.YticcphppnmoogaaGreatDoor
open Go.RowKit
attribute [local go_sem ↓] Go.wp_at_zero Go.wp_at_succ

def eqB (p q : List Nat) : Bool := decide (p = q)
theorem bytes_at {w : World} {B n : Nat} {A : Option Addr} {p : List Nat} (h : Reads w B 1 A n (u8s p)) {i : Nat} {s : Nat} (hi : p[i]? = some s) :
    ∃ ad, A = some ad ∧ ad.block < B ∧ w.cell? (ad.add i) = some (.int .u8 (s : Int)) := by
  have hl := bytes_n h
  have hil : i < p.length := (List.getElem?_eq_some_iff.1 hi).1
  obtain ⟨ad, e, hb, hc⟩ := h.2 (by omega)
  exact ⟨ad, e, hb, hc i _ (by simp [u8s, hi])⟩

set_option maxHeartbeats 1000000 in
theorem bsame_any (A1 A2 : Option Addr) (n c m d : Nat) (p q : List Nat) (w : World) (hn : n ≤ 1000000000) (hm : m ≤ 1000000000) (hR1 : Reads w w.heap.size 1 A1 n (u8s p)) (hR2 : Reads w w.heap.size 1 A2 m (u8s q)) :
    Calls Tryz.prog 13 #[.slice A1 n c, .slice A2 m d] w fun e w' => e = .returned (.bool (eqB p q)) ∧ ∃ k, w' = w.drewN k := by
  have HL1 := Sl.mk (bytes_n hR1)
  have HL2 := Sl.mk (bytes_n hR2)
  have HR1 := Sl.mk hR1
  have HR2 := Sl.mk hR2
  clear hR1 hR2
  by_cases hnm : n = m
  · subst hnm
    go_enter Tryz.func13, Tryz.ntmps13
    go_wp2_with fail
    go_loopw [5] (fun s5 wr => ∃ i k : Nat, i ≤ n ∧ s5 = .int .i64 i ∧ Sl (p.take i = q.take i) ∧ wr = w.drewN k) (fun s5 _ => n - (intOf s5).toNat)
    case atStart => exact ⟨0, 0, Nat.zero_le _, rfl, ⟨rfl⟩, rfl⟩
    case round =>
      obtain ⟨i, k, hi, rfl, HT, rfl⟩ := hrel
      by_cases hil : i < n
      · obtain ⟨s, hs⟩ : ∃ s, p[i]? = some s := ⟨_, List.getElem?_eq_getElem (by rw [HL1.out]; exact hil)⟩
        obtain ⟨t, ht⟩ : ∃ t, q[i]? = some t := ⟨_, List.getElem?_eq_getElem (by rw [HL2.out]; exact hil)⟩
        obtain ⟨a1, rfl, hb1, hc1⟩ := bytes_at HR1.out hs
        obtain ⟨a2, rfl, hb2, hc2⟩ := bytes_at HR2.out ht
        by_cases hst : s = t
        · subst hst
          have HT2 := Sl.mk (show p.take (i + 1) = q.take (i + 1) by rw [take_snoc' hs, take_snoc' ht, HT.out])
          clear hs ht
          go_wp2_with fail
          go_quiet (fail)
          go_wp2_with fail
          go_roundw
          case rel => exact ⟨i + 1, _, by omega, by go_num, HT2, rfl⟩
          case measure => simp [intOf]; omega
        · have HF := Sl.mk (show eqB p q = false from decide_eq_false fun e => hst (by rw [e, ht] at hs; injection hs with hs; exact hs.symm))
          have hbb : ((s : Int) == (t : Int)) = false := by simp; omega
          have hbn : ((s : Int) != (t : Int)) = true := by simp; omega
          clear hs ht hst
          go_wp2_with fail
          go_quiet (fail)
          go_wp2_with fail
          go_ret
          exact ⟨by rw [HF.out]; rfl, k + nq, by rw [World.drewN_drewN]⟩
      · obtain rfl : i = n := by omega
        have HF := Sl.mk (show eqB p q = true by
          have h := HT.out
          rw [List.take_of_length_le (by rw [HL1.out]; omega), List.take_of_length_le (by rw [HL2.out]; omega)] at h
          exact decide_eq_true h)
        go_wp2_with fail
        go_ret
        exact ⟨by rw [HF.out]; rfl, k, rfl⟩
  · have HF := Sl.mk (show eqB p q = false from decide_eq_false fun e => hnm (by rw [← HL1.out, ← HL2.out, e]))
    have h1 : ((n : Int) != (m : Int)) = true := by simp; omega
    have h2 : ((n : Int) == (m : Int)) = false := by simp; omega
    clear hnm
    go_enter Tryz.func13, Tryz.ntmps13
    go_wp2_with fail
    go_ret
    exact ⟨by rw [HF.out]; rfl, 0, rfl⟩

def FewPost (w : World) (e : Ending) (w' : World) : Prop :=
  ∃ (A : Option Addr) (n c : Nat) (q : List ByteArray), e = .returned (.slice A n c) ∧ w'.ownsRow w.heap.size 9 1 (.slice A n c) n (strV q) ∧ n ≤ 12 ∧ (∀ s ∈ q, s.size ≤ 40) ∧ Below w.heap.size w w'

theorem few_step {q : List ByteArray} {t : ByteArray} (h : ∀ s ∈ q, s.size ≤ 40) (ht : t.size ≤ 40) : ∀ s ∈ q ++ [t], s.size ≤ 40 := fun x hx => by
  rcases List.mem_append.1 hx with h1 | h1
  · exact h x h1
  · simp at h1; subst h1; exact ht

set_option maxRecDepth 100000 in
set_option maxHeartbeats 2000000 in
theorem few_any (A : Option Addr) (n c : Nat) (p : List ByteArray) (w : World) (hn : n ≤ 9223372036854775807) (hs : ∀ s ∈ p, s.size ≤ 9223372036854775807) (hR : Reads w w.heap.size 1 A n (strV p)) :
    Calls Tryz.prog 32 #[.slice A n c] w (FewPost w) := by
  have HL := Sl.mk (strs_n hR)
  have HR := Sl.mk hR
  have HS := Sl.mk hs
  obtain ⟨i0, hi0, hz0, hz1, hz2⟩ := info_parts strInfo
  clear hR hs
  go_enter Tryz.func32, Tryz.ntmps32
  go_wp2_with fail
  go_loopw [3, 4] (fun v3 v4 wr => ∃ (i : Nat) (q : List ByteArray), i ≤ n ∧ i ≤ 12 ∧ v4 = .int .i64 i ∧ wr.ownsRow w.heap.size 9 1 v3 i (strV q) ∧ Sl (∀ s ∈ q, s.size ≤ 40) ∧ Below w.heap.size w wr) (fun _ v4 _ => 12 - (intOf v4).toNat)
  case atStart => exact ⟨0, [], by omega, by omega, rfl, World.ownsRow_nil _ _ _ _, ⟨fun s hs => by cases hs⟩, Below.refl _ _⟩
  case round =>
    obtain ⟨i, q, hi, hi12, rfl, hown, HQ, hB⟩ := hrel
    obtain ⟨A3, c3, rfl⟩ := ownForm hown
    by_cases hlt : i < n
    · by_cases h12 : i < 12
      · obtain ⟨s, hs⟩ : ∃ s, p[i]? = some s := ⟨_, List.getElem?_eq_getElem (by rw [HL.out]; exact hlt)⟩
        obtain ⟨ad, rfl, hb, hc⟩ := strs_at (HR.out.below hB) hs
        have hsz := HS.out s (List.mem_of_getElem? hs)
        clear hs
        go_wp2_with fail
        obtain ⟨t, ht⟩ : ∃ t, s.extract 0 (min (s.size : Int) 40).toNat = t := ⟨_, rfl⟩
        have ht40 : t.size ≤ 40 := by rw [← ht, ByteArray.size_extract]; omega
        have hm0 : (0 : Int) ≤ min (s.size : Int) 40 := by omega
        have hm1 : ¬ ((s.size : Int) < min (s.size : Int) 40) := by omega
        obtain ⟨wd, hwd⟩ : ∃ wd, wr.drew = wd := ⟨_, rfl⟩
        have hown1 : wd.ownsRow w.heap.size 9 1 (.slice A3 i c3) i (strV q) := by rw [← hwd]; exact hown
        have hB1 : Below w.heap.size w wd := by rw [← hwd]; exact hB.drew
        have hcd : wd.cell? (ad.add i) = some (.string s) := by rw [← hwd]; exact hc
        have hcb : ad.block < wd.heap.size := Nat.lt_of_lt_of_le hb hB1.size
        have HSF : Sl (∀ W, Below wd.heap.size wd W → W.cell? (ad.add i) = some (.string s)) := Sl.mk (fun W hW => (hW.cell (p := ad.add i) (by rw [block_of_add]; exact hcb)).trans hcd)
        refine wp_region_X (fun W => Below wd.heap.size wd W) [13, 14] (by kernel_rfl) (by rw [hwd]; exact Below.refl _ _) (fun hS => ?_)
        rw [hwd] at hS ⊢
        clear hwd hc hown hB hcd
        refine wpAnyX_S (i := 0) (v := ?_) rfl (by kernel_rfl) (by kernel_rfl) (by kernel_rfl) (by kernel_rfl) (fun _ _ _ h => h) (Or.inl ⟨by rfl, ?_⟩) hS ?_
        rotate_left 1
        · (intro w' hw'; (first | rw [hw'] | (have hw2 := HSF.out w' hw') | skip); go_simp; (try with_reducible rfl))
        simp only [Act.put, List.setIfInBounds_toArray, List.set_cons_zero, List.set_cons_succ]
        refine wpAnyX_S (i := 1) (v := ?_) rfl (by kernel_rfl) (by kernel_rfl) (by kernel_rfl) (by kernel_rfl) (fun _ _ _ h => h) (Or.inl ⟨by rfl, ?_⟩) hS ?_
        rotate_left 1
        · (intro w' hw'; (first | rw [hw'] | (have hw2 := HSF.out w' hw') | skip); go_simp; (try with_reducible rfl))
        simp only [Act.put, List.setIfInBounds_toArray, List.set_cons_zero, List.set_cons_succ]
        refine wpAnyX_S (i := 2) (v := ?_) rfl (by kernel_rfl) (by kernel_rfl) (by kernel_rfl) (by kernel_rfl) (fun _ _ _ h => h) (Or.inl ⟨by rfl, ?_⟩) hS ?_
        rotate_left 1
        · (intro w' hw'; (first | rw [hw'] | (have hw2 := HSF.out w' hw') | skip); go_simp; (try with_reducible rfl))
        simp only [Act.put, List.setIfInBounds_toArray, List.set_cons_zero, List.set_cons_succ]
        refine wpAnyX_S (i := 3) (v := ?_) rfl (by kernel_rfl) (by kernel_rfl) (by kernel_rfl) (by kernel_rfl) (fun _ _ _ h => h) (Or.inl ⟨by rfl, ?_⟩) hS ?_
        rotate_left 1
        · (intro w' hw'; (first | rw [hw'] | (have hw2 := HSF.out w' hw') | skip); go_simp; (try with_reducible rfl))
        simp only [Act.put, List.setIfInBounds_toArray, List.set_cons_zero, List.set_cons_succ]
        refine wpAnyX_S (i := 4) (v := ?_) rfl (by kernel_rfl) (by kernel_rfl) (by kernel_rfl) (by kernel_rfl) (fun _ _ _ h => h) (Or.inl ⟨by rfl, ?_⟩) hS ?_
        rotate_left 1
        · (intro w' hw'; (first | rw [hw'] | (have hw2 := HSF.out w' hw') | skip); go_simp; (try with_reducible rfl))
        simp only [Act.put, List.setIfInBounds_toArray, List.set_cons_zero, List.set_cons_succ]
        refine wpAnyX_S (i := 5) (v := ?_) rfl (by kernel_rfl) (by kernel_rfl) (by kernel_rfl) (by kernel_rfl) (fun _ _ _ h => h) (Or.inl ⟨by rfl, ?_⟩) hS ?_
        rotate_left 1
        · (intro w' hw'; (first | rw [hw'] | (have hw2 := HSF.out w' hw') | skip); go_simp; (try with_reducible rfl))
        simp only [Act.put, List.setIfInBounds_toArray, List.set_cons_zero, List.set_cons_succ]
        refine wpAnyX_S (i := 6) (v := ?_) rfl (by kernel_rfl) (by kernel_rfl) (by kernel_rfl) (by kernel_rfl) (fun _ _ _ h => h) (Or.inl ⟨by rfl, ?_⟩) hS ?_
        rotate_left 1
        · (intro w' hw'; (first | rw [hw'] | (have hw2 := HSF.out w' hw') | skip); go_simp; (try with_reducible rfl))
        simp only [Act.put, List.setIfInBounds_toArray, List.set_cons_zero, List.set_cons_succ]
        refine wpAnyX_S (i := 7) (v := ?_) rfl (by kernel_rfl) (by kernel_rfl) (by kernel_rfl) (by kernel_rfl) (fun _ _ _ h => h) (Or.inl ⟨by rfl, ?_⟩) hS ?_
        rotate_left 1
        · (intro w' hw'; (first | rw [hw'] | (have hw2 := HSF.out w' hw') | skip); go_simp; (try with_reducible rfl))
        simp only [Act.put, List.setIfInBounds_toArray, List.set_cons_zero, List.set_cons_succ]
        refine wpAnyX_S (i := 8) (v := ?_) rfl (by kernel_rfl) (by kernel_rfl) (by kernel_rfl) (by kernel_rfl) (fun _ _ _ h => h) (Or.inl ⟨by rfl, ?_⟩) hS ?_
        rotate_left 1
        · (intro w' hw'; (first | rw [hw'] | (have hw2 := HSF.out w' hw') | skip); go_simp; (try with_reducible rfl))
        simp only [Act.put, List.setIfInBounds_toArray, List.set_cons_zero, List.set_cons_succ]
        refine wpAnyX_S (i := 9) (v := ?_) rfl (by kernel_rfl) (by kernel_rfl) (by kernel_rfl) (by kernel_rfl) (fun _ _ _ h => h) (Or.inl ⟨by rfl, ?_⟩) hS ?_
        rotate_left 1
        · (intro w' hw'; (first | rw [hw'] | (have hw2 := HSF.out w' hw') | skip); go_simp; (try with_reducible rfl))
        simp only [Act.put, List.setIfInBounds_toArray, List.set_cons_zero, List.set_cons_succ]
        refine wpAnyX_S (i := 10) (v := ?_) rfl (by kernel_rfl) (by kernel_rfl) (by kernel_rfl) (by kernel_rfl) (fun _ _ _ h => h) (Or.inl ⟨by rfl, ?_⟩) hS ?_
        rotate_left 1
        · (intro w' hw'; (first | rw [hw'] | (have hw2 := HSF.out w' hw') | skip); go_simp; (try with_reducible rfl))
        simp only [Act.put, List.setIfInBounds_toArray, List.set_cons_zero, List.set_cons_succ]
        refine wpAnyX_S (i := 11) (v := .string t) rfl (by kernel_rfl) (by kernel_rfl) (by kernel_rfl) (by kernel_rfl) (fun _ _ _ h => h) (.inl ⟨by rfl, fun w' _ => by go_simp⟩) hS ?_
        simp only [Act.put, List.setIfInBounds_toArray, List.set_cons_zero, List.set_cons_succ]
        refine wpAnyX_oneL (k := 12) rfl (by kernel_rfl) rfl ?_
        refine wp_of_run (v := .slice (some ⟨wd.heap.size, 0, none⟩) 1 1) (w' := wd.alloc (.cells #[.string t] 9)) (by go_simp) ⟨fun _ => (Below.refl _ _).alloc (Nat.le_refl _) _, ?_⟩
        simp only [Act.put, List.setIfInBounds_toArray, List.set_cons_zero, List.set_cons_succ]
        refine wpAnyX_tailF [13, 14] (by kernel_rfl) (by rfl) (by rfl) (by rfl) ?_
        simp only [List.filterMap_cons, List.filterMap_nil, List.getElem?_cons_succ, List.getElem?_cons_zero]
        refine wpList_append_anyG _ rfl (.tmp 15) (.tmp 27) 38 rfl w.heap.size 9 i0 (.string ByteArray.empty) 1 16 Tryz.underlying38 hi0 hz0 hz1 hz2 rfl (by decide) (.slice A3 i c3) i (strV q) rfl (hown1.alloc _) (wd.heap.size + 1) (some ⟨wd.heap.size, 0, none⟩) 1 1 [.string t] rfl (reads_new1 _ _ _ (Nat.lt_succ_self _)) (by intro u hu; simp at hu; subst hu; rfl) (by unfold maxLen; omega) (by omega) (by have := hB1.size; simp; omega) ?_
        intro v1 w1 hown2 hg1 hb1
        have hE2 := (below_al hB1 (.cells #[.string t] 9)).grown hg1 (by have := hB1.size; simp; omega) (fun q hq => ownGe hown1 hq)
        have HQ2 := Sl.mk (few_step HQ.out ht40)
        have HO := Sl.mk (show w1.ownsRow w.heap.size 9 1 v1 (i + 1) (strV (q ++ [t])) by rw [strV_app]; exact hown2)
        obtain ⟨A5, c5, rfl⟩ := ownForm hown2
        clear hown1 hB1 hown2 hg1 hb1 HSF
        go_wp2_with fail
        refine NoPanic.normal ?_
        go_wp2_with fail
        go_roundw
        case rel => exact ⟨i + 1, q ++ [t], by omega, by omega, by go_num, HO.out, HQ2, hE2⟩
        case measure => simp [intOf]; omega
      · obtain rfl : i = 12 := by omega
        have h1 : decide ((12 : Int) < (n : Int)) = true := by simp; omega
        go_wp2_with fail
        go_ret
        exact ⟨A3, 12, c3, q, rfl, hown, by omega, HQ.out, hB⟩
    · obtain rfl : i = n := by omega
      go_wp2_with fail
      go_ret
      exact ⟨A3, i, c3, q, rfl, hown, hi12, HQ.out, hB⟩

end Go.Proofs.YticcphppnmoogaaGreatDoor
