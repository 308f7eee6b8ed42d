/-
  The contracts of (store.Rev).right and store.Check.
-/
import Derived.Test.YtkmdhmnjohlnaaaRevA
namespace Go.Proofs.Ytkmdhmnjohlnaaa
open Go.RowKit

theorem Blk.rv0 {w : World} {g : Nat} {t : TypeId} {r : Rv} (h : Blk w g t (rvC r).toArray) : w.cell? ⟨g, 0, none⟩ = some (.int .i64 r.no) := by
  rw [h.cell]; simpa using rvC_0 r
theorem Blk.rv33 {w : World} {g : Nat} {t : TypeId} {r : Rv} (h : Blk w g t (rvC r).toArray) : w.cell? ⟨g, 33, none⟩ = some (.int .i64 r.size) := by
  rw [h.cell]; simpa using rvC_33 r

def rightB (r : Rv) (b : Int) : Bool := decide (b < r.no) && decide (r.no ≤ 999999) && decide (0 ≤ r.size) && decide (r.size ≤ 131072)

theorem right_any (r : Rv) (b : Int) (w : World) : Calls Try.prog 34 #[.agg (rvC r).toArray, .int .i64 b] w fun e w' => e = .returned (.bool (rightB r b)) ∧ Below w.heap.size w w' := by
  have hX := Blk.new w 36 (rvC r).toArray
  have c0 := hX.rv0
  have c1 := hX.rv33
  clear hX
  go_enter Try.func34, Try.ntmps34
  go_wp2
  all_goals go_ret
  all_goals exact ⟨ret_bool (by rw [Bool.eq_iff_iff]; simp [rightB] <;> omega), below_al (Below.refl _ _) _⟩

def rv0 : Rv := ⟨0, List.replicate 32 0, 0, by simp⟩
theorem infoRv : (Try.prog.info? 36).map (·.size) = some 34 := by kernel_rfl

def lastF (l : List Rv) : Int := l.foldl (fun _ r => r.no) 0
def goodF : Int → List Rv → Bool
  | _, [] => true
  | b, r :: l => rightB r b && goodF r.no l
def hasF (a : Int) (l : List Rv) : Bool := l.any fun r => r.no == a
theorem has_snoc (a : Int) (l : List Rv) (r : Rv) : hasF a (l ++ [r]) = (hasF a l || r.no == a) := by simp [hasF]
def checkF (s1 s2 : ByteArray) (a : Int) (l : List Rv) : Nat :=
  if (!nameB s1 || !nameB s2) = true then 10 else if l.length = 0 ∨ 3 < l.length then 2 else if goodF 0 l = false then 1 else if hasF a l = false then 7 else 0
theorem lastF_snoc (l : List Rv) (r : Rv) : lastF (l ++ [r]) = r.no := by simp [lastF]
theorem take_snoc {l : List Rv} {i : Nat} {r : Rv} (h : l[i]? = some r) : l.take (i + 1) = l.take i ++ [r] := by rw [List.take_add_one, h]; rfl
theorem drop_cons' {l : List Rv} {i : Nat} {r : Rv} (h : l[i]? = some r) : l.drop i = r :: l.drop (i + 1) := by
  have hi := (List.getElem?_eq_some_iff.1 h).1
  rw [List.drop_eq_getElem_cons hi]
  rw [List.getElem?_eq_getElem hi] at h
  injection h with h
  rw [h]

/-- A package as a value. -/
def pkV (s1 s2 : ByteArray) (a : Int) (v : Value) : Array Value := #[.string s1, .string s2, .int .i64 a, v]

set_option maxHeartbeats 4000000 in
theorem check_any (s1 s2 : ByteArray) (a : Int) (A : Option Addr) (n c : Nat) (l : List Rv) (w : World) (h1 : s1.size ≤ 9223372036854775807) (h2 : s2.size ≤ 9223372036854775807) (hn : n ≤ 9223372036854775807) (hR : Reads w w.heap.size 34 A n (revC l)) :
    Calls Try.prog 15 #[.agg #[.string s1, .string s2, .int .i64 a, .slice A n c]] w fun e w' => e = .returned (.int .i64 (checkF s1 s2 a l)) ∧ Below w.heap.size w w' := by
  have hl := reads_n hR
  cases e1 : nameB s1
  · have HC := Sl.mk (show checkF s1 s2 a l = 10 by unfold checkF; rw [e1]; rfl)
    clear hR
    go_enter Try.func15, Try.ntmps15
    go_wp2_with ((go_at_call 33; refine (name_any _ _ (by assumption)).mono ?_; rintro e w' ⟨rfl, rfl⟩; rw [e1]))
    go_ret
    exact ⟨by rw [HC.out]; rfl, below_al (Below.refl _ _) _⟩
  cases e2 : nameB s2
  · have HC := Sl.mk (show checkF s1 s2 a l = 10 by unfold checkF; rw [e1, e2]; rfl)
    clear hR
    go_enter Try.func15, Try.ntmps15
    go_wp2_with ((go_at_call 33; refine (name_any _ _ (by assumption)).mono ?_; rintro e w' ⟨rfl, rfl⟩; first | rw [e1] | rw [e2]))
    go_ret
    exact ⟨by rw [HC.out]; rfl, below_al (Below.refl _ _) _⟩
  by_cases h3 : l.length = 0 ∨ 3 < l.length
  · have HC := Sl.mk (show checkF s1 s2 a l = 2 by unfold checkF; rw [e1, e2, if_neg (by simp), if_pos h3])
    clear hR
    rw [hl] at h3
    rcases h3 with rfl | h3
    · go_enter Try.func15, Try.ntmps15
      go_wp2_with ((go_at_call 33; refine (name_any _ _ (by assumption)).mono ?_; rintro e w' ⟨rfl, rfl⟩; first | rw [e1] | rw [e2]))
      go_ret
      exact ⟨by rw [HC.out]; rfl, below_al (Below.refl _ _) _⟩
    · have h3a : ((n : Int) == 0) = false := by simp; omega
      have h3b : decide ((3 : Int) < n) = true := by simp; omega
      go_enter Try.func15, Try.ntmps15
      go_wp2_with ((go_at_call 33; refine (name_any _ _ (by assumption)).mono ?_; rintro e w' ⟨rfl, rfl⟩; first | rw [e1] | rw [e2]))
      go_ret
      exact ⟨by rw [HC.out]; rfl, below_al (Below.refl _ _) _⟩
  have HC := Sl.mk (show checkF s1 s2 a l = if goodF 0 l = false then 1 else if hasF a l = false then 7 else 0 by unfold checkF; rw [e1, e2, if_neg (by simp), if_neg h3])
  have h3a : ((n : Int) == 0) = false := by simp; omega
  have h3b : decide ((3 : Int) < n) = false := by simp; omega
  have h3c : n ≤ 3 := by omega
  have HL := Sl.mk hl
  clear h3 hl
  have hX := Blk.new w 30 #[.string s1, .string s2, .int .i64 a, .slice A n c]
  go_enter Try.func15, Try.ntmps15
  go_wp2_with ((go_at_call 33; refine (name_any _ _ (by assumption)).mono ?_; rintro e w' ⟨rfl, rfl⟩; first | rw [e1] | rw [e2]))
  go_loopw [3, 4, 32] (fun s3 s4 s32 wr => ∃ i : Nat, i ≤ n ∧ s32 = .int .i64 i ∧ s3 = .int .i64 (lastF (l.take i)) ∧ s4 = .bool (hasF a (l.take i)) ∧ Hid (goodF 0 l = goodF (lastF (l.take i)) (l.drop i)) ∧
      Blk wr w.heap.size 30 #[.string s1, .string s2, .int .i64 a, .slice A n c] ∧ Below w.heap.size w wr) (fun _ _ s32 _ => n - (intOf s32).toNat)
  case atStart => exact ⟨0, Nat.zero_le _, rfl, rfl, rfl, rfl, hX, below_al (Below.refl _ _) _⟩
  case round =>
    obtain ⟨i, hi, rfl, rfl, rfl, HG, hXr, hB⟩ := hrel
    clear hX
    obtain ⟨c0, c1, c2, c3⟩ := hXr.c4
    by_cases hil : i < n
    · obtain ⟨r, hr⟩ : ∃ r, l[i]? = some r := ⟨_, List.getElem?_eq_getElem (by rw [HL.out]; exact hil)⟩
      obtain ⟨ad, rfl, hbl, hld, hd0⟩ := reads_load (hR.below hB) hr
      have HT := Sl.mk (take_snoc hr)
      have HD := Sl.mk (drop_cons' hr)
      clear hr
      go_wp2_with (first
        | refine wpList_load_at rfl 36 (.tmp 34) rfl _ rfl (rvC r) _ hld Try.underlying36 rfl (by rw [infoRv, rvC_len]) ?_
        | refine wpList_store_fresh rfl 36 (.tmp 6) (.tmp 35) rfl 36 (rvC rv0) (rvC r) _ (by rfl) rfl rfl (by simp [rvC_len]) (by rw [infoRv, rvC_len]) (rvC_one r) ?_)
      intro w1 hS1 hB1 hs1
      have hX1 := hXr.be hB1
      have hE1 := below_tr hB hB1
      clear hXr hB hld hd0 c0 c1 c2 c3
      obtain ⟨c0, c1, c2, c3⟩ := hX1.c4
      have d0 := hS1.rv0
      go_wp2_with (refine wpList_load_row rfl 36 (.tmp 6) rfl _ rfl 36 (rvC r).toArray (0, 0) _ hS1 Try.underlying36 rfl (by rw [infoRv]; simp [rvC_len]) ?_)
      refine (right_any r _ _).mono ?_
      rintro e w2 ⟨rfl, hB2⟩
      have hX2 := hX1.be hB2
      have hS2 := hS1.be hB2
      have hE2 := below_tr hE1 hB2
      clear hX1 hS1 hE1 c0 c1 c2 c3 d0
      obtain ⟨c0, c1, c2, c3⟩ := hX2.c4
      have d0 := hS2.rv0
      have HS := Sl.mk (has_snoc a (l.take i) r)
      cases eR : rightB r (lastF (l.take i))
      · have HF := Sl.mk (show goodF 0 l = false by rw [HG.out, HD.out, goodF, eR]; rfl)
        go_wp2_with fail
        go_ret
        exact ⟨by rw [HC.out, if_pos HF.out]; rfl, hE2⟩
      · have HG2 := Sl.mk (show goodF 0 l = goodF (lastF (l.take (i + 1))) (l.drop (i + 1)) by rw [HG.out, HD.out, goodF, eR, HT.out, lastF_snoc]; rfl)
        cases eH : hasF a (l.take i)
        · go_wp2_with fail
          go_roundw
          case rel => exact ⟨i + 1, by omega, by go_num, by rw [HT.out, lastF_snoc], by rw [HT.out, HS.out, eH]; rfl, HG2.out, hX2, hE2⟩
          case measure => simp [intOf]; omega
        · go_wp2_with fail
          go_roundw
          case rel => exact ⟨i + 1, by omega, by go_num, by rw [HT.out, lastF_snoc], by rw [HT.out, HS.out, eH]; rfl, HG2.out, hX2, hE2⟩
          case measure => simp [intOf]; omega
    · obtain rfl : i = n := by omega
      have HF := Sl.mk (show goodF 0 l = true by rw [HG.out, List.drop_of_length_le (by rw [HL.out]; omega)]; rfl)
      have ht : l.take i = l := List.take_of_length_le (by rw [HL.out]; omega)
      rw [ht]
      clear ht hR
      cases eH : hasF a l
      · go_wp2_with fail
        go_ret
        exact ⟨by rw [HC.out, HF.out, eH]; rfl, hB⟩
      · go_wp2_with fail
        go_ret
        exact ⟨by rw [HC.out, HF.out, eH]; rfl, hB⟩

end Go.Proofs.Ytkmdhmnjohlnaaa
