/-
  The contracts of Kept, slices.Max, Next, To, Back.
-/
import Derived.Test.YtkmdhmnjohlnaaaRevD
namespace Go.Proofs.Ytkmdhmnjohlnaaa
open Go.RowKit

def nosV (l : List Rv) : List Value := l.map fun r => .int .i64 r.no
theorem nosV_snoc (l : List Rv) (r : Rv) : nosV (l ++ [r]) = nosV l ++ [.int .i64 r.no] := by simp [nosV]
theorem intInfo : (Try.prog.info? 3).map (fun i => (i.zero, i.size, i.bytes)) = some (some (.int .i64 0), 1, 8) := by kernel_rfl

set_option maxHeartbeats 4000000 in
theorem kept_any (s1 s2 : ByteArray) (a : Int) (A : Option Addr) (n c : Nat) (l : List Rv) (w : World) (hn : n ≤ 1000000) (hR : Reads w w.heap.size 34 A n (revC l)) :
    Calls Try.prog 24 #[.agg #[.string s1, .string s2, .int .i64 a, .slice A n c]] w fun e w' => ∃ A' c', e = .returned (.slice A' n c') ∧ w'.ownsRow w.heap.size 3 1 (.slice A' n c') n (nosV l) ∧ Below w.heap.size w w' := by
  have HL := Sl.mk (reads_n hR)
  obtain ⟨i0, hi0, hz0, hz1, hz2⟩ := info_parts intInfo
  have hX := Blk.new w 30 #[.string s1, .string s2, .int .i64 a, .slice A n c]
  go_enter Try.func24, Try.ntmps24
  go_wp2_with fail
  go_loopw [3, 5, 9] (fun s3 _ s9 wr => ∃ (i : Nat) (A' : Option Addr) (c' : Nat), i ≤ n ∧ s9 = .int .i64 i ∧ s3 = .slice A' i c' ∧ wr.ownsRow w.heap.size 3 1 (.slice A' i c') i (nosV (l.take i)) ∧ Below w.heap.size w wr) (fun _ _ s9 _ => n - (intOf s9).toNat)
  case atStart => exact ⟨0, none, 0, Nat.zero_le _, rfl, rfl, World.ownsRow_nil _ _ _ _, below_al (Below.refl _ _) _⟩
  case round =>
    obtain ⟨i, A', c', hi, rfl, rfl, hown, hB⟩ := hrel
    by_cases hil : i < n
    · obtain ⟨r, hr⟩ : ∃ r, l[i]? = some r := ⟨_, List.getElem?_eq_getElem (by rw [HL.out]; exact hil)⟩
      obtain ⟨ad, rfl, hbl, hld, hd0⟩ := reads_load (hR.below hB) hr
      have HT := Sl.mk (take_snoc hr)
      clear hr hX
      go_wp2_with (first | refine ld_el hld rfl (.tmp 11) rfl rfl ?_ | refine st_new (by rfl) rfl (.tmp 5) (.tmp 12) rfl r rfl rfl ?_)
      intro w1 hS1 hB1 hs1
      have hE1 := below_tr hB hB1
      have hown1 := own_below hown hB1
      clear hown hB hld hd0 hs1
      have d0 := hS1.rv0
      go_wp2_with (at_builtin; refine wpList_append_anyG _ rfl (.tmp 13) (.tmp 16) 50 rfl w.heap.size 3 i0 (.int .i64 0) 1 8 Try.underlying50 hi0 hz0 hz1 hz2 rfl (by decide) _ i _ rfl (hown1.alloc _) (w1.heap.size + 1) _ 1 1 [.int .i64 r.no] rfl (reads_new1 w1 _ _ (by omega)) (by simp [Value.oneCell']) (by unfold maxLen; omega) (by omega) (by have := hE1.size; simp; omega) ?_)
      intro v2 w2 hown2 hG2 hb2
      obtain ⟨A2, c2, rfl⟩ := ownForm hown2
      have hE2 := (below_al hE1 (.cells #[.int .i64 r.no] 3)).grown hG2 (by simp; have := hE1.size; omega) (fun x hx => ownGe hown1 hx)
      go_wp2_with fail
      go_roundw
      case rel => exact ⟨i + 1, _, _, by omega, by go_num, rfl, by rw [HT.out, nosV_snoc]; exact hown2, hE2⟩
      case measure => simp [intOf]; omega
    · obtain rfl : i = n := by omega
      have ht : l.take i = l := List.take_of_length_le (by rw [HL.out]; omega)
      rw [ht] at hown
      clear ht hR hX
      go_wp2_with fail
      go_ret
      exact ⟨_, _, rfl, hown, hB⟩


def maxF : List Int → Int
  | [] => 0
  | x :: l => l.foldl max x
theorem maxF_snoc (x : Int) (l : List Int) (y : Int) : maxF (x :: l ++ [y]) = max (maxF (x :: l)) y := by simp [maxF]

set_option maxHeartbeats 1000000 in
theorem max_any (A : Option Addr) (n c : Nat) (l : List Int) (w : World) (h0 : 0 < n) (hn : n ≤ 1000000) (hR : Reads w w.heap.size 1 A n (l.map (Value.int .i64))) :
    Calls Try.prog 35 #[.slice A n c] w fun e w' => e = .returned (.int .i64 (maxF l)) ∧ w = w' := by
  have hl : l.length = n := by simpa using hR.1
  have HL := Sl.mk hl
  obtain ⟨ad, u, rfl, hb, hu, hc0⟩ := hR.at_ h0
  obtain ⟨x, l', rfl⟩ : ∃ x l', l = x :: l' := by
    cases l with
    | nil => simp at hl; omega
    | cons x l' => exact ⟨_, _, rfl⟩
  obtain rfl : u = .int .i64 x := by simpa using hu.symm
  have hc : w.cell? ad = some (.int .i64 x) := by simpa [Addr.add] using hc0
  have h1' : ¬ ((n : Int) < 1) := by omega
  clear hu hc0 hl
  go_enter Try.func35, Try.ntmps35
  go_wp2_with fail
  go_loopw [3, 4] (fun s3 s4 wr => ∃ i : Nat, 1 ≤ i ∧ i ≤ n ∧ s4 = .int .i64 i ∧ s3 = .int .i64 (maxF ((x :: l').take i)) ∧ w = wr) (fun _ s4 _ => n - (intOf s4).toNat)
  case atStart => exact ⟨1, Nat.le_refl _, h0, rfl, rfl, rfl⟩
  case round =>
    obtain ⟨i, h1, hi, rfl, rfl, rfl⟩ := hrel
    by_cases hil : i < n
    · obtain ⟨_, u, hA, -, hu, hcu⟩ := hR.at_ hil
      injection hA with hA
      subst hA
      obtain ⟨y, hy⟩ : ∃ y, (x :: l')[i]? = some y := ⟨_, List.getElem?_eq_getElem (by rw [HL.out]; exact hil)⟩
      obtain rfl : u = .int .i64 y := by rw [List.getElem?_map, hy] at hu; simpa using hu.symm
      have HM := Sl.mk (show maxF ((x :: l').take (i + 1)) = max (maxF ((x :: l').take i)) y by
        rw [List.take_add_one, hy]
        obtain ⟨k, rfl⟩ : ∃ k, i = k + 1 := ⟨i - 1, by omega⟩
        exact maxF_snoc _ _ _)
      clear hu hy
      go_wp2_with fail
      go_roundw
      case rel => exact ⟨i + 1, by omega, by omega, by go_num, by rw [HM.out]; go_num, trivial⟩
      case measure => simp [intOf]; omega
    · obtain rfl : i = n := by omega
      have ht : (x :: l').take i = x :: l' := List.take_of_length_le (by rw [HL.out]; omega)
      rw [ht]
      clear ht
      go_wp2_with fail
      go_ret
      exact ⟨rfl, rfl⟩

theorem nosV_eq (l : List Rv) : nosV l = (l.map (·.no)).map (Value.int .i64) := by simp [nosV]
theorem maxF_good : ∀ (l : List Rv) (b : Int), goodF b l = true → ∀ x, x ≤ b → (l.map (·.no)).foldl max x = (if l = [] then x else lastF l)
  | [], _, _, _, _ => rfl
  | r :: l, b, h, x, hx => by
    have h1 : rightB r b = true ∧ goodF r.no l = true := by simpa [goodF] using h
    have hb : b < r.no := by have := h1.1; simp [rightB] at this; omega
    have := maxF_good l r.no h1.2 r.no (Int.le_refl _)
    simp only [List.map_cons, List.foldl_cons]
    rw [show max x r.no = r.no by omega, this, show (if r :: l = [] then x else lastF (r :: l)) = lastF (r :: l) from if_neg (by simp)]
    by_cases hl : l = []
    · subst hl; rfl
    · rw [if_neg hl]
      obtain ⟨s, l2, rfl⟩ : ∃ s l2, l = s :: l2 := by cases l with
        | nil => exact absurd rfl hl
        | cons s l2 => exact ⟨_, _, rfl⟩
      simp [lastF]
theorem last_le : ∀ (l : List Rv) (b : Int), b ≤ 999999 → goodF b l = true → ∀ r ∈ l, b < r.no ∧ r.no ≤ 999999
  | [], _, _, _, r, hr => by cases hr
  | s :: l, b, hb, h, r, hr => by
    have h1 : rightB s b = true ∧ goodF s.no l = true := by simpa [goodF] using h
    have h2 : b < s.no ∧ s.no ≤ 999999 := by have := h1.1; simp [rightB] at this; omega
    rcases List.mem_cons.1 hr with rfl | hr
    · exact h2
    · have := last_le l s.no h2.2 h1.2 r hr
      omega
theorem lastF_mem : ∀ (l : List Rv), l ≠ [] → ∃ r ∈ l, lastF l = r.no := by
  intro l hl
  obtain ⟨l', r, rfl⟩ : ∃ l' r, l = l' ++ [r] := ⟨l.dropLast, l.getLast hl, (List.dropLast_concat_getLast hl).symm⟩
  exact ⟨r, by simp, lastF_snoc _ _⟩
theorem lastF_le (l : List Rv) (h : goodF 0 l = true) : 0 ≤ lastF l ∧ lastF l ≤ 999999 := by
  by_cases hl : l = []
  · subst hl; simp [lastF]
  · obtain ⟨r, hr, e⟩ := lastF_mem l hl
    have := last_le l 0 (by omega) h r hr
    omega

set_option maxHeartbeats 1000000 in
theorem next_any (s1 s2 : ByteArray) (a : Int) (A : Option Addr) (n c : Nat) (l : List Rv) (w : World) (hn : n ≤ 1000000) (hR : Reads w w.heap.size 34 A n (revC l)) (hg : goodF 0 l = true) :
    Calls Try.prog 16 #[.agg #[.string s1, .string s2, .int .i64 a, .slice A n c]] w fun e w' => e = .returned (.int .i64 (lastF l + 1)) ∧ Below w.heap.size w w' := by
  have hl := reads_n hR
  have hX := Blk.new w 30 #[.string s1, .string s2, .int .i64 a, .slice A n c]
  have hE := below_al (Below.refl w.heap.size w) (.cells #[.string s1, .string s2, .int .i64 a, .slice A n c] 30)
  obtain ⟨w0, hw0⟩ : ∃ w0, w.alloc (.cells #[.string s1, .string s2, .int .i64 a, .slice A n c] 30) = w0 := ⟨_, rfl⟩
  have hR0 := Sl.mk ((hR.below hE).more hE.size)
  rw [hw0] at hX hE hR0
  clear hR
  obtain ⟨c0, c1, c2, c3⟩ := hX.c4
  by_cases h0 : n = 0
  · subst h0
    obtain rfl : l = [] := List.eq_nil_of_length_eq_zero hl
    go_enter Try.func16, Try.ntmps16
    go_wp2_with fail
    go_ret
    exact ⟨rfl, hE⟩
  · have h0' : ((n : Int) == 0) = false := by simp; omega
    have hm := maxF_good l 0 hg 0 (Int.le_refl _)
    have hle := lastF_le l hg
    have hne : l ≠ [] := fun e => by subst e; simp at hl; omega
    rw [if_neg hne] at hm
    have HM := Sl.mk (show maxF (l.map (·.no)) = lastF l by
      obtain ⟨r, l2, rfl⟩ : ∃ r l2, l = r :: l2 := by cases l with
        | nil => exact absurd rfl hne
        | cons s l2 => exact ⟨_, _, rfl⟩
      have h1 : 0 < r.no := (last_le _ 0 (by omega) hg r (by simp)).1
      simp only [List.map_cons, List.foldl_cons] at hm
      rw [show max 0 r.no = r.no by omega] at hm
      exact hm)
    clear hm hne hg
    go_enter Try.func16, Try.ntmps16
    go_wp2_with (refine ld_pk hX rfl (.tmp 1) rfl rfl rfl ?_)
    clear hw0
    refine (kept_any s1 s2 a A n c l _ hn hR0.out).mono ?_
    rintro e w1 ⟨A', c', rfl, hown, hB1⟩
    have hE1 := below_tr hE hB1
    go_wp2_with fail
    have hr : Reads w1 w1.heap.size 1 A' n ((l.map (·.no)).map (Value.int .i64)) := by rw [← nosV_eq]; exact Reads.of_own hown
    refine (max_any A' n c' (l.map (·.no)) w1 (by omega) hn hr).mono ?_
    rintro e w2 ⟨rfl, rfl⟩
    rw [HM.out]
    go_wp2_with fail
    go_ret
    exact ⟨by go_num, hE1⟩

end Go.Proofs.Ytkmdhmnjohlnaaa
