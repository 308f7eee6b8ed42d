/-
  The contract of path.step: a path under construction.
-/
import Derived.Test.YticcphppnmoogaaDoorPthD
namespace Go.Proofs.YticcphppnmoogaaDoor
open Go.RowKit
attribute [local go_sem ↓] Go.wp_at_zero Go.wp_at_succ

/-- A path under construction: a row of the call's own, or the clipped beginning of one. -/
structure PP (w : World) (base : Nat) (A : Option Addr) (c : Nat) (p : List ByteArray) : Prop where
  cap : p.length ≤ c ∧ c ≤ 9223372036854775807
  row : w.ownsRow base 9 1 (.slice A p.length c) p.length (strV p) ∨
    (c = p.length ∧ ∃ ad, A = some ad ∧ base ≤ ad.block ∧ ad.block < w.heap.size ∧ ∀ j u, (strV p)[j]? = some u → w.cell? (ad.add j) = some u)

def stepF (p : List ByteArray) (s : ByteArray) : Option (List ByteArray) :=
  if s.toList = [46] then some p else if s.toList = [46, 46] then (if p = [] then none else some p.dropLast) else if nameB s = true ∧ p.length < 8 then some (p ++ [s]) else none

theorem PP.of_own {w : World} {base : Nat} {A : Option Addr} {c : Nat} {p : List ByteArray} (h : w.ownsRow base 9 1 (.slice A p.length c) p.length (strV p)) : PP w base A c p := by
  refine ⟨?_, .inl h⟩
  obtain ⟨A', c', e, h1, h2⟩ := ownCap h
  injection e with _ _ e
  subst e
  unfold maxLen at h2
  exact ⟨h1, by omega⟩
theorem PP.reads {w : World} {base : Nat} {A : Option Addr} {c : Nat} {p : List ByteArray} (h : PP w base A c p) : Reads w w.heap.size 1 A p.length (strV p) := by
  rcases h.row with h | ⟨-, ad, rfl, -, hb, hc⟩
  · exact Reads.of_own h
  · exact ⟨by rw [strV_len, Nat.mul_one], fun _ => ⟨ad, rfl, hb, hc⟩⟩
theorem PP.below {w w' : World} {base : Nat} {A : Option Addr} {c : Nat} {p : List ByteArray} (h : PP w base A c p) (hb : Below w.heap.size w w') : PP w' base A c p := by
  refine ⟨h.cap, ?_⟩
  rcases h.row with h | ⟨hc, ad, rfl, h1, h2, h3⟩
  · exact .inl (own_below h hb)
  · exact .inr ⟨hc, ad, rfl, h1, Nat.lt_of_lt_of_le h2 hb.size, fun j u hu => (hb.cell (p := ad.add j) (by rw [block_of_add]; exact h2)).trans (h3 j u hu)⟩
theorem PP.ge {w : World} {base : Nat} {A : Option Addr} {c : Nat} {p : List ByteArray} (h : PP w base A c p) {g : Nat} (hg : A.map (·.block) = some g) : base ≤ g := by
  rcases h.row with h | ⟨-, ad, rfl, h1, -, -⟩
  · exact ownGe h (g := g) (by cases A with
      | none => simp at hg
      | some ad => simpa [Value.ownBlock] using hg)
  · have : ad.block = g := by simpa using hg
    omega
theorem dropLast_at {p : List ByteArray} {j : Nat} {u : Value} (h : (strV p.dropLast)[j]? = some u) : (strV p)[j]? = some u := by
  simp only [strV, List.getElem?_map] at h ⊢
  rw [List.getElem?_dropLast] at h
  split at h
  · exact h
  · simp at h
theorem PP.cut {w : World} {base : Nat} {A : Option Addr} {c : Nat} {p : List ByteArray} (h : PP w base A c p) (hp : p ≠ []) : PP w base A p.dropLast.length p.dropLast := by
  have hl : 0 < p.length := List.length_pos_iff.2 hp
  refine ⟨⟨Nat.le_refl _, ?_⟩, .inr ⟨rfl, ?_⟩⟩
  · have := h.cap; rw [List.length_dropLast]; omega
  · rcases h.row with h | ⟨-, ad, rfl, h1, h2, h3⟩
    · obtain ⟨g, c', e, hb, hg, hcells⟩ := ownCells h hl
      injection e with e
      subst e
      refine ⟨_, rfl, hb, hg, fun j u hu => ?_⟩
      have hadd : (⟨g, 0, none⟩ : Addr).add j = ⟨g, j, none⟩ := by unfold Addr.add; split <;> simp_all
      rw [hadd]
      exact hcells j u (dropLast_at hu)
    · exact ⟨ad, rfl, h1, h2, fun j u hu => h3 j u (dropLast_at hu)⟩

def StepPost (w : World) (base : Nat) (A : Option Addr) (p : List ByteArray) (s : ByteArray) (e : Ending) (w' : World) : Prop :=
  ∃ (A' : Option Addr) (k c' : Nat), e = .returned (.tuple #[.slice A' k c', .bool (stepF p s).isSome]) ∧ w.grownBy w' (A.map (·.block)) ∧
    (∀ g, g < w.heap.size → A.map (·.block) ≠ some g → A'.map (·.block) ≠ some g) ∧ ∀ q, stepF p s = some q → k = q.length ∧ PP w' base A' c' q

theorem own_mono {w : World} {b b' : Nat} {e : TypeId} {size n : Nat} {v : Value} {xs : List Value} (h : w.ownsRow b e size v n xs) (hb : b' ≤ b) : w.ownsRow b' e size v n xs := by
  refine ⟨h.1, ?_⟩
  rcases h.2 with h | ⟨g, cap, cur, h1, h2, h3⟩
  · exact .inl h
  · exact .inr ⟨g, cap, cur, h1, by omega, h3⟩
theorem own_map {A : Option Addr} {n c : Nat} : (Value.slice A n c).ownBlock = A.map (·.block) := by cases A <;> rfl

theorem step_close {w w1 : World} {base n c1 : Nat} {A A1 : Option Addr} {p : List ByteArray} {s : ByteArray} {b : Bool} (hF : stepF p s = if nameB s = true ∧ p.length < 8 then some (p ++ [s]) else none) (hl : p.length = n) (hW : w.grownBy w1 (A.map (·.block)))
    (hN : ∀ g, g < w.heap.size → A.map (·.block) ≠ some g → A1.map (·.block) ≠ some g) (hown : w1.ownsRow base 9 1 (.slice A1 (n + 1) c1) (n + 1) (strV p ++ [.string s])) (hb : b = (nameB s && decide (n < 8))) :
    StepPost w base A p s (.returned (.tuple #[.slice A1 (n + 1) c1, .bool b])) w1 := by
  subst hl
  by_cases h : nameB s = true ∧ p.length < 8
  · rw [if_pos h] at hF
    refine ⟨A1, p.length + 1, c1, by rw [hF, hb, h.1]; simp [h.2], hW, hN, fun q hq => ?_⟩
    rw [hF] at hq
    injection hq with hq
    subst hq
    have h2 : (p ++ [s]).length = p.length + 1 := by simp
    refine ⟨h2.symm, PP.of_own ?_⟩
    rw [h2, strV_app]
    exact hown
  · rw [if_neg h] at hF
    refine ⟨A1, p.length + 1, c1, ?_, hW, hN, fun q hq => by rw [hF] at hq; cases hq⟩
    rw [hF, hb]
    have : (nameB s && decide (p.length < 8)) = false := by
      cases hn : nameB s
      · rfl
      · simp only [Bool.true_and, decide_eq_false_iff_not]
        exact fun h8 => h ⟨hn, h8⟩
    rw [this]; rfl

set_option maxHeartbeats 2000000 in
theorem step_any (base : Nat) (A : Option Addr) (n c : Nat) (p : List ByteArray) (s : ByteArray) (w : World) (hn : p.length = n) (hn8 : n ≤ 8) (hs : s.size ≤ 9223372036854775807) (hb : base ≤ w.heap.size) (hP : PP w base A c p) :
    Calls Tryd.prog 76 #[.slice A n c, .string s] w (StepPost w base A p s) := by
  have HN := Sl.mk hn
  have hcap := hP.cap
  rw [hn] at hcap
  by_cases h1 : s.toList = [46]
  · have HF := Sl.mk (show stepF p s = some p from if_pos h1)
    have HP := Sl.mk hP
    clear hP hn
    go_enter Tryd.func76, Tryd.ntmps76
    go_wp2_with fail
    go_ret2
    exact ⟨A, n, c, by rw [HF.out]; rfl, only_refl _ _, fun g _ h => h, fun q hq => by rw [HF.out] at hq; injection hq with hq; subst hq; exact ⟨HN.out.symm, HP.out⟩⟩
  have h1' : (s.toList == [46]) = false := by simpa using h1
  by_cases h2 : s.toList = [46, 46]
  · by_cases h0 : n = 0
    · subst h0
      have hp : p = [] := List.eq_nil_of_length_eq_zero hn
      have HF := Sl.mk (show stepF p s = none by unfold stepF; rw [if_neg h1, if_pos h2, if_pos hp])
      clear hP hn
      go_enter Tryd.func76, Tryd.ntmps76
      go_wp2_with fail
      go_ret2
      exact ⟨none, 0, 0, by rw [HF.out]; rfl, only_refl _ _, (fun g _ _ h => by cases h), (fun q hq => by rw [HF.out] at hq; cases hq)⟩
    · have h0' : ((n : Int) == 0) = false := by simp; omega
      have hp : p ≠ [] := fun e => by subst e; simp at hn; omega
      have HF := Sl.mk (show stepF p s = some p.dropLast by unfold stepF; rw [if_neg h1, if_pos h2, if_neg hp])
      have HC := Sl.mk (hP.cut hp)
      have HD := Sl.mk (show p.dropLast.length = n - 1 by rw [List.length_dropLast, hn])
      have hc1 : ((n - 1 : Nat) : Int) = (n : Int) - 1 := by omega
      obtain ⟨k, rfl⟩ : ∃ k, n = k + 1 := ⟨n - 1, by omega⟩
      clear hP hn hc1
      go_enter Tryd.func76, Tryd.ntmps76
      go_wp2_with fail
      go_ret2
      exact ⟨A, k, k, by rw [HF.out]; first | rfl | simp, only_refl _ _, fun g _ h => h, fun q hq => by rw [HF.out] at hq; injection hq with hq; subst hq; have := HD.out; have h := HC.out; rw [this] at h ⊢; exact ⟨rfl, h⟩⟩
  have h2' : (s.toList == [46, 46]) = false := by simpa using h2
  have HF := Sl.mk (show stepF p s = if nameB s = true ∧ p.length < 8 then some (p ++ [s]) else none by unfold stepF; rw [if_neg h1, if_neg h2])
  obtain ⟨i0, hi0, hz0, hz1, hz2⟩ := info_parts strInfo
  have hone : ∀ u ∈ [Value.string s], u.oneCell' = true := by intro u hu; simp at hu; subst hu; rfl
  rcases hP.row with hown | ⟨hcn, ad, rfl, hb1, hb2, hcl⟩
  · rw [hn] at hown
    have HONE := Sl.mk hone
    clear hone hP hn h1 h2
    cases eN : nameB s
    all_goals
      by_cases h8 : n < 8
    all_goals
      have hd : decide ((n : Int) < 8) = decide (n < 8) := by rw [decide_eq_decide]; omega
      go_enter Tryd.func76, Tryd.ntmps76
      go_wp2_with (at_builtin; refine wpList_append_any _ rfl (.tmp 23) (.tmp 25) 31 rfl base 9 i0 (.string ByteArray.empty) 1 16 Tryd.underlying31 hi0 hz0 hz1 hz2 rfl (by decide) _ _ _ rfl (hown.alloc _) (w.heap.size + 1) (some ⟨w.heap.size, 0, none⟩) 1 1 [.string s] rfl (reads_new1 _ _ _ (Nat.lt_succ_self _)) HONE.out (by unfold maxLen; omega) (by omega) (by simp; omega) ?_)
      intro v' w1 hown1 hg1 hb1
      obtain ⟨A1, c1, rfl⟩ := ownForm hown1
      have hW : w.grownBy w1 (A.map (·.block)) := by
        rw [← own_map (n := n) (c := c)]
        exact only_trans (only_alloc (only_refl w _) _) hg1
      have hN : ∀ g, g < w.heap.size → A.map (·.block) ≠ some g → A1.map (·.block) ≠ some g := fun g hg hne => by
        rw [own_map, own_map] at hb1
        rcases hb1 with e | e
        · rw [e]; exact hne
        · rw [e]; intro e2; injection e2 with e2; have e3 : (w.alloc (.cells #[.string s] 9)).heap.size = w.heap.size + 1 := by simp
          omega
      have HK := Sl.mk (And.intro hW (And.intro hN hown1))
      clear hW hN hown1 hg1 hb1 hown
      go_wp2_with fail
      refine (name_any s _ hs).mono ?_
      rintro e w' ⟨rfl, rfl⟩
      rw [eN]
      go_wp2_with fail
      go_ret2
      obtain ⟨hW, hN, hown1⟩ := HK.out
      exact step_close HF.out HN.out hW hN hown1 (by rw [eN]; first | rfl | simp [h8])
  · rw [hn] at hcn
    subst hcn
    have HONE := Sl.mk hone
    have HCL := Sl.mk (show ∀ b, some ad = some b → ∀ j u, (strV p)[j]? = some u → (w.alloc (.cells #[.string s] 9)).cell? (b.add j) = some u from fun b e j u hu => by
      rw [← Option.some.inj e]
      exact (World.cell?_alloc_lt w _ (ad.add j) (by rw [block_of_add]; exact hb2)).trans (hcl j u hu))
    have HNW := Sl.mk (show ∀ j u, [Value.string s][j]? = some u → (w.alloc (.cells #[.string s] 9)).cell? ((⟨w.heap.size, 0, none⟩ : Addr).add j) = some u from fun j u hu => ((reads_new1 w (.string s) 9 (Nat.lt_succ_self _)).2 (by omega)).elim fun ad' h => by
      obtain ⟨e, _, h⟩ := h
      rw [Option.some.inj e]
      exact h j u hu)
    have hlen : (strV p).length = c * 1 := by rw [strV_len, hn, Nat.mul_one]
    have HLEN := Sl.mk hlen
    clear hone hP hn h1 h2 hcl hlen
    cases eN : nameB s
    all_goals
      by_cases h8 : c < 8
    all_goals
      have hd : decide ((c : Int) < 8) = decide (c < 8) := by rw [decide_eq_decide]; omega
      go_enter Tryd.func76, Tryd.ntmps76
      go_wp2_with (at_builtin; refine wpList_append_grows _ rfl (.tmp 23) (.tmp 25) 31 rfl 9 i0 (.string ByteArray.empty) 1 16 Tryd.underlying31 hi0 hz0 hz1 hz2 rfl (by decide) (some ad) c c (strV p) rfl (fun e => by cases e) HLEN.out HCL.out ⟨w.heap.size, 0, none⟩ 1 1 [.string s] rfl rfl HNW.out HONE.out (by omega) (by unfold maxLen; omega) (by omega) ?_)
      intro v' w1 hown1 hg1
      obtain ⟨A1, c1, rfl⟩ := ownForm hown1
      have hW : w.grownBy w1 ((some ad).map (·.block)) := only_trans (only_alloc (only_refl w _) _) ⟨hg1.os, hg1.tape, hg1.output, hg1.size, fun i hi _ => hg1.block i hi (by simp)⟩
      have hge : ∀ g, A1.map (·.block) = some g → w.heap.size ≤ g := fun g hg => by
        have h3 := ownGe hown1 (g := g) (by rw [own_map]; exact hg)

        omega
      have hN : ∀ g, g < w.heap.size → (some ad).map (·.block) ≠ some g → A1.map (·.block) ≠ some g := fun g hg _ e => by have := hge g e; omega
      have hown2 := own_mono (b' := base) hown1 (by omega)
      have HK := Sl.mk (And.intro hW (And.intro hN hown2))
      clear hW hN hown1 hg1 hown2 hge
      go_wp2_with fail
      refine (name_any s _ hs).mono ?_
      rintro e w' ⟨rfl, rfl⟩
      rw [eN]
      go_wp2_with fail
      go_ret2
      obtain ⟨hW, hN, hown1⟩ := HK.out
      exact step_close HF.out HN.out hW hN hown1 (by rw [eN]; first | rfl | simp [h8])

end Go.Proofs.YticcphppnmoogaaDoor
