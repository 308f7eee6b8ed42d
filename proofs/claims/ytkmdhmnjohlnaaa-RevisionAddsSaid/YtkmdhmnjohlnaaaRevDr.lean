/-
  The contracts of slices.Index, slices.Contains at ints; Drop's predicate; what Drop comes to, in plain words.
-/
import Derived.Test.YtkmdhmnjohlnaaaRevKP
namespace Go.Proofs.Ytkmdhmnjohlnaaa
open Go.RowKit

def hasN (x : Int) (ns : List Int) : Bool := ns.any fun y => x == y
def idxN (x : Int) : List Int → Nat
  | [] => 0
  | y :: l => if x = y then 0 else idxN x l + 1
theorem idxN_has (x : Int) : ∀ ns : List Int, hasN x ns = decide (idxN x ns < ns.length)
  | [] => by simp [hasN]
  | y :: l => by
    have ih := idxN_has x l
    by_cases h : x = y
    · simp [hasN, idxN, h]
    · have e : hasN x (y :: l) = hasN x l := by simp [hasN, h]
      rw [e, ih]
      simp [idxN, h]
theorem drop_consN {l : List Int} {i : Nat} {r : Int} (h : l[i]? = some r) : l.drop i = r :: l.drop (i + 1) := by
  have hi := (List.getElem?_eq_some_iff.1 h).1
  rw [List.drop_eq_getElem_cons hi]
  rw [List.getElem?_eq_getElem hi] at h
  injection h with h
  rw [h]

set_option maxHeartbeats 1000000 in
theorem indexN_any (x : Int) (A : Option Addr) (n c : Nat) (ns : List Int) (w : World) (hn : n ≤ 9223372036854775807) (hR : Reads w w.heap.size 1 A n (ns.map (Value.int .i64))) :
    Calls Try.prog 44 #[.slice A n c, .int .i64 x] w fun e w' => e = .returned (.int .i64 (if idxN x ns < n then (idxN x ns : Int) else -1)) ∧ w = w' := by
  have hl : ns.length = n := by simpa using hR.1
  have HL := Sl.mk hl
  obtain ⟨F, hF⟩ : ∃ F : Int, (if idxN x ns < n then (idxN x ns : Int) else -1) = F := ⟨_, rfl⟩
  have HF := Sl.mk hF
  rw [hF]
  clear hl hF
  go_enter Try.func44, Try.ntmps44
  go_wp2_with fail
  go_loopw [5, 8] (fun _ s8 wr => ∃ i : Nat, i ≤ n ∧ s8 = .int .i64 i ∧ Hid (idxN x ns = i + idxN x (ns.drop i)) ∧ w = wr) (fun _ s8 _ => n - (intOf s8).toNat)
  case atStart => exact ⟨0, Nat.zero_le _, rfl, by simp [Hid], rfl⟩
  case round =>
    obtain ⟨i, hi, rfl, HI, rfl⟩ := hrel
    by_cases hil : i < n
    · obtain ⟨y, hy⟩ : ∃ y, ns[i]? = some y := ⟨_, List.getElem?_eq_getElem (by rw [HL.out]; exact hil)⟩
      obtain ⟨ad, u, rfl, hbl, hu, hcx⟩ := hR.at_ hil
      obtain rfl : u = .int .i64 y := by rw [List.getElem?_map, hy] at hu; simpa using hu.symm
      have HD := Sl.mk (drop_consN hy)
      clear hy hu
      cases eY : (x == y)
      · have hne : ¬ x = y := by simpa using eY
        have HN := Sl.mk (show idxN x ns = (i + 1) + idxN x (ns.drop (i + 1)) by rw [HI.out, HD.out, idxN, if_neg hne]; omega)
        clear hne
        go_wp2_with fail
        go_roundw
        case rel => exact ⟨i + 1, by omega, by go_num, HN.out, trivial⟩
        case measure => simp [intOf]; omega
      · have he : x = y := by simpa using eY
        have HN := Sl.mk (show F = i by
          have h : idxN x ns = i := by rw [HI.out, HD.out, idxN, if_pos he]; omega
          rw [← HF.out, h, if_pos hil])
        clear he
        go_wp2_with fail
        go_ret
        exact ⟨by rw [HN.out]; rfl, rfl⟩
    · obtain rfl : i = n := by omega
      have HN := Sl.mk (show F = -1 by
        have h : ns.drop i = [] := List.drop_of_length_le (by rw [HL.out]; omega)
        have h0 := HI.out
        rw [h] at h0
        rw [← HF.out, if_neg (by rw [h0]; simp [idxN])])
      go_wp2_with fail
      go_ret
      exact ⟨by rw [HN.out]; rfl, rfl⟩

theorem contains_any (x : Int) (A : Option Addr) (n c : Nat) (ns : List Int) (w : World) (hn : n ≤ 9223372036854775807) (hR : Reads w w.heap.size 1 A n (ns.map (Value.int .i64))) :
    Calls Try.prog 37 #[.slice A n c, .int .i64 x] w fun e w' => e = .returned (.bool (hasN x ns)) ∧ w = w' := by
  have hl : ns.length = n := by simpa using hR.1
  have hh := idxN_has x ns
  rw [hl] at hh
  by_cases h : idxN x ns < n
  · have HH := Sl.mk (show hasN x ns = true by rw [hh]; simpa using h)
    obtain ⟨k, hk⟩ : ∃ k, idxN x ns = k := ⟨_, rfl⟩
    have hi := indexN_any x A n c ns w hn hR
    rw [if_pos h, hk] at hi
    clear hh h hk hR
    go_enter Try.func37, Try.ntmps37
    go_wp2_with fail
    refine hi.mono ?_
    rintro e w' ⟨rfl, rfl⟩
    go_wp2_with fail
    go_ret
    exact ⟨by rw [HH.out]; simp, rfl⟩
  · have HH := Sl.mk (show hasN x ns = false by rw [hh]; simpa using h)
    have hi := indexN_any x A n c ns w hn hR
    rw [if_neg h] at hi
    clear hh h hR
    go_enter Try.func37, Try.ntmps37
    go_wp2_with fail
    refine hi.mono ?_
    rintro e w' ⟨rfl, rfl⟩
    go_wp2_with fail
    go_ret
    exact ⟨by rw [HH.out]; rfl, rfl⟩

set_option maxHeartbeats 1000000 in
theorem dropc_any (gs : Nat) (r : Rv) (A : Option Addr) (n c : Nat) (ns : List Int) (w : World) (hn : n ≤ 9223372036854775807) (hg : gs < w.heap.size) (hc : w.cell? ⟨gs, 0, none⟩ = some (.slice A n c)) (hR : Reads w w.heap.size 1 A n (ns.map (Value.int .i64))) :
    Calls Try.prog 38 #[.agg (rvC r).toArray, .pointer (some ⟨gs, 0, none⟩)] w fun e w' => e = .returned (.bool (hasN r.no ns)) ∧ Below w.heap.size w w' := by
  have hX := Blk.new w 36 (rvC r).toArray
  have c0 := hX.rv0
  have c1 := (World.cell?_alloc_lt w (.cells (rvC r).toArray 36) ⟨gs, 0, none⟩ hg).trans hc
  have hR1 := Sl.mk ((hR.alloc (Nat.le_refl _) (.cells (rvC r).toArray 36)).more (B' := (w.alloc (.cells (rvC r).toArray 36)).heap.size) (by simp))
  clear hX hc hR
  go_enter Try.func38, Try.ntmps38
  go_wp2_with fail
  refine (contains_any r.no A n c ns _ hn hR1.out).mono ?_
  rintro e w' ⟨rfl, rfl⟩
  go_wp2_with fail
  go_ret
  exact ⟨rfl, below_al (Below.refl _ _) _⟩

/-! In plain words. -/
theorem sel_filter {b : Nat → Bool} {p : Rv → Bool} {l : List Rv} (v : Bool) (h : ∀ i r, l[i]? = some r → b i = p r) : selF b v l l.length = l.filter fun r => p r == v := by
  have gen : ∀ i, i ≤ l.length → selF b v l i = (l.take i).filter fun r => p r == v := by
    intro i
    induction i with
    | zero => intro _; rfl
    | succ i ih =>
      intro hi
      obtain ⟨r, hr⟩ : ∃ r, l[i]? = some r := ⟨_, List.getElem?_eq_getElem (by omega)⟩
      rw [take_snoc hr, List.filter_append, ← ih (by omega)]
      have hb := h i r hr
      by_cases e : b i = v
      · rw [sel_yes hr e]
        rw [hb] at e
        simp [e]
      · rw [sel_no e]
        rw [hb] at e
        simp [e]
  have := gen l.length (Nat.le_refl _)
  rw [List.take_length] at this
  exact this
theorem good_mono : ∀ (l : List Rv) (b b' : Int), b' ≤ b → goodF b l = true → goodF b' l = true
  | [], _, _, _, _ => rfl
  | r :: l, b, b', hb, h => by
    have h1 : rightB r b = true ∧ goodF r.no l = true := by simpa [goodF] using h
    have h2 : rightB r b' = true := by have := h1.1; unfold rightB at this ⊢; simp at this ⊢; omega
    simp [goodF, h2, h1.2]
theorem good_filter (q : Rv → Bool) : ∀ (l : List Rv) (b : Int), goodF b l = true → goodF b (l.filter q) = true
  | [], _, _ => rfl
  | r :: l, b, h => by
    have h1 : rightB r b = true ∧ goodF r.no l = true := by simpa [goodF] using h
    have ih := good_filter q l r.no h1.2
    by_cases hq : q r = true
    · rw [List.filter_cons_of_pos hq]; simp [goodF, h1.1, ih]
    · rw [List.filter_cons_of_neg hq]
      exact good_mono _ r.no b (by have := h1.1; unfold rightB at this; simp at this; omega) ih

def dropE (s1 s2 : ByteArray) (a : Int) (l : List Rv) (ns : List Int) : Nat :=
  if checkF s1 s2 a l ≠ 0 then checkF s1 s2 a l else if (ns.all fun n => hasF n l) = false then 7 else if hasN a ns = true then 15 else 0
/-- Those that go (true), those that stay (false). -/
def dropL (v : Bool) (l : List Rv) (ns : List Int) : List Rv := l.filter fun r => hasN r.no ns == v
def DropPost (w : World) (s1 s2 : ByteArray) (a : Int) (l : List Rv) (ns : List Int) (e : Ending) (w' : World) : Prop :=
  Below w.heap.size w w' ∧
    ((dropE s1 s2 a l ns ≠ 0 ∧ e = .returned (.tuple #[.agg #[.string { data := #[] }, .string { data := #[] }, .int .i64 0, .slice none 0 0], .slice none 0 0, .int .i64 (dropE s1 s2 a l ns)])) ∨
     (dropE s1 s2 a l ns = 0 ∧ ∃ A1 c1 A2 c2, e = .returned (.tuple #[.agg #[.string s1, .string s2, .int .i64 a, .slice A2 (dropL false l ns).length c2], .slice A1 (dropL true l ns).length c1, .int .i64 0]) ∧
       Rows2 w' w.heap.size (.slice A1 (dropL true l ns).length c1) (dropL true l ns) (.slice A2 (dropL false l ns).length c2) (dropL false l ns)))

end Go.Proofs.Ytkmdhmnjohlnaaa
