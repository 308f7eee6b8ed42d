/-
  Library contracts: those of MfLays.
  The contract of path.Text; where a link leads, as a function; the contract of path.step.
  The contract of path.step: a path under construction.
  The contract of path.Lead.
  The contract of path.Parse.
  Manifests as plain data: what is right, a text's manifest, a manifest's text.
-/
import Derived.Test.YtmgblbkmbiiofaaDoorMd3
import Derived.Test.YtmgblbkmbiiofaaDoorMd2
import Derived.ArgAppend
import Derived.Test.YtmgblbkmbiiofaaDoorMd1
import Derived.Lib.IndexMore
import Derived.Lib.ItoaNum
import Derived.Lib.Split



namespace Go.Proofs.YtmgblbkmbiiofaaDoor
open Go.RowKit
attribute [local go_sem ↓] Go.wp_at_zero Go.wp_at_succ

theorem addr_lit {w : World} {ad : Addr} {v : Value} (h : w.cell? (ad.add 0) = some v) : ad = ⟨ad.block, ad.off, none⟩ := by
  obtain ⟨b, o, s⟩ := ad
  have : s = none := by simpa [Addr.add] using World.cell?_spot h
  subst this
  rfl
theorem reads_lit {w : World} {B n : Nat} {ad : Addr} {xs : List Value} (h : Reads w B 1 (some ad) n xs) (hn : 0 < n) : ∃ b o, ad = ⟨b, o, none⟩ ∧ b < B ∧ ∀ j u, xs[j]? = some u → w.cell? ⟨b, o + j, none⟩ = some u := by
  obtain ⟨ad', e, hb, hc⟩ := h.2 hn
  injection e with e
  subst e
  have hl : 0 < xs.length := by have := h.1; omega
  have e := addr_lit (hc 0 _ (List.getElem?_eq_getElem hl))
  refine ⟨ad.block, ad.off, e, hb, fun j u hu => ?_⟩
  have := hc j u hu
  rw [e, Addr.add_lit] at this
  exact this

def joinF (p : List ByteArray) : ByteArray := ⟨(Lib.join (p.map (·.data.toList)) [47]).toArray⟩
def txtF (p : List ByteArray) : ByteArray := if p = [] then ⟨#[47]⟩ else ⟨#[47]⟩ ++ joinF p
theorem lens_le {k : Nat} : ∀ (p : List ByteArray), (∀ s ∈ p, s.size ≤ k) → Lib.lens (p.map (·.data.toList)) ≤ p.length * k
  | [], _ => by simp [Lib.lens]
  | s :: p, h => by
    have h1 := lens_le p (fun t ht => h t (List.mem_cons_of_mem _ ht))
    have h2 := h s (List.mem_cons_self ..)
    have h3 : s.data.toList.length = s.size := by simp
    have h4 : Lib.lens ((s :: p).map (·.data.toList)) = s.data.toList.length + Lib.lens (p.map (·.data.toList)) := by simp [Lib.lens]
    rw [h4, h3, List.length_cons, Nat.add_mul]
    omega
theorem join_le {k : Nat} (p : List ByteArray) (h : ∀ s ∈ p, s.size ≤ k) : (Lib.join (p.map (·.data.toList)) [47]).length ≤ p.length * (k + 1) := by
  cases p with
  | nil => simp [Lib.join_nil]
  | cons s p =>
    rw [List.map_cons, Lib.join_length]
    have := lens_le (s :: p) h
    rw [List.map_cons] at this
    simp only [List.length_cons, List.length_nil, List.length_map, Nat.mul_add] at *
    omega
theorem joinF_size (p : List ByteArray) : (joinF p).size = (Lib.join (p.map (·.data.toList)) [47]).length := by simp [joinF, ByteArray.size]
theorem txtF_size {k : Nat} (p : List ByteArray) (h : ∀ s ∈ p, s.size ≤ k) : (txtF p).size ≤ p.length * (k + 1) + 1 := by
  unfold txtF
  split
  · show 1 ≤ _; omega
  · rw [ByteArray.size_append, joinF_size]
    have := join_le p h
    show 1 + _ ≤ _
    omega


end Go.Proofs.YtmgblbkmbiiofaaDoor

namespace Go.Proofs.YtmgblbkmbiiofaaDoor
open Go.RowKit
attribute [local go_sem ↓] Go.wp_at_zero Go.wp_at_succ

/-- A path under construction: a row of the call's own, or the clipped beginning of one. -/
structure PP (w : World) (base : Nat) (A : Option Addr) (c : Nat) (p : List ByteArray) : Prop where
  cap : p.length ≤ c ∧ c ≤ 9223372036854775807
  row : w.ownsRow base 9 1 (.slice A p.length c) p.length (strV p) ∨
    (c = p.length ∧ ∃ ad, A = some ad ∧ base ≤ ad.block ∧ ad.block < w.heap.size ∧ ∀ j u, (strV p)[j]? = some u → w.cell? (ad.add j) = some u)

def stepF (p : List ByteArray) (s : ByteArray) : Option (List ByteArray) :=
  if s.toList = [46] then some p else if s.toList = [46, 46] then (if p = [] then none else some p.dropLast) else if nameB s = true ∧ p.length < 8 then some (p ++ [s]) else none

theorem PP.of_own {w : World} {base : Nat} {A : Option Addr} {c : Nat} {p : List ByteArray} (h : w.ownsRow base 9 1 (.slice A p.length c) p.length (strV p)) : PP w base A c p := by
  refine ⟨?_, .inl h⟩
  obtain ⟨A', c', e, h1, h2⟩ := ownCap h
  injection e with _ _ e
  subst e
  unfold maxLen at h2
  exact ⟨h1, by omega⟩
theorem PP.reads {w : World} {base : Nat} {A : Option Addr} {c : Nat} {p : List ByteArray} (h : PP w base A c p) : Reads w w.heap.size 1 A p.length (strV p) := by
  rcases h.row with h | ⟨-, ad, rfl, -, hb, hc⟩
  · exact Reads.of_own h
  · exact ⟨by rw [strV_len, Nat.mul_one], fun _ => ⟨ad, rfl, hb, hc⟩⟩
theorem PP.below {w w' : World} {base : Nat} {A : Option Addr} {c : Nat} {p : List ByteArray} (h : PP w base A c p) (hb : Below w.heap.size w w') : PP w' base A c p := by
  refine ⟨h.cap, ?_⟩
  rcases h.row with h | ⟨hc, ad, rfl, h1, h2, h3⟩
  · exact .inl (own_below h hb)
  · exact .inr ⟨hc, ad, rfl, h1, Nat.lt_of_lt_of_le h2 hb.size, fun j u hu => (hb.cell (p := ad.add j) (by rw [block_of_add]; exact h2)).trans (h3 j u hu)⟩
theorem PP.ge {w : World} {base : Nat} {A : Option Addr} {c : Nat} {p : List ByteArray} (h : PP w base A c p) {g : Nat} (hg : A.map (·.block) = some g) : base ≤ g := by
  rcases h.row with h | ⟨-, ad, rfl, h1, -, -⟩
  · exact ownGe h (g := g) (by cases A with
      | none => simp at hg
      | some ad => simpa [Value.ownBlock] using hg)
  · have : ad.block = g := by simpa using hg
    omega
theorem dropLast_at {p : List ByteArray} {j : Nat} {u : Value} (h : (strV p.dropLast)[j]? = some u) : (strV p)[j]? = some u := by
  simp only [strV, List.getElem?_map] at h ⊢
  rw [List.getElem?_dropLast] at h
  split at h
  · exact h
  · simp at h
theorem PP.cut {w : World} {base : Nat} {A : Option Addr} {c : Nat} {p : List ByteArray} (h : PP w base A c p) (hp : p ≠ []) : PP w base A p.dropLast.length p.dropLast := by
  have hl : 0 < p.length := List.length_pos_iff.2 hp
  refine ⟨⟨Nat.le_refl _, ?_⟩, .inr ⟨rfl, ?_⟩⟩
  · have := h.cap; rw [List.length_dropLast]; omega
  · rcases h.row with h | ⟨-, ad, rfl, h1, h2, h3⟩
    · obtain ⟨g, c', e, hb, hg, hcells⟩ := ownCells h hl
      injection e with e
      subst e
      refine ⟨_, rfl, hb, hg, fun j u hu => ?_⟩
      have hadd : (⟨g, 0, none⟩ : Addr).add j = ⟨g, j, none⟩ := by unfold Addr.add; split <;> simp_all
      rw [hadd]
      exact hcells j u (dropLast_at hu)
    · exact ⟨ad, rfl, h1, h2, fun j u hu => h3 j u (dropLast_at hu)⟩

def StepPost (w : World) (base : Nat) (A : Option Addr) (p : List ByteArray) (s : ByteArray) (e : Ending) (w' : World) : Prop :=
  ∃ (A' : Option Addr) (k c' : Nat), e = .returned (.tuple #[.slice A' k c', .bool (stepF p s).isSome]) ∧ w.grownBy w' (A.map (·.block)) ∧
    (∀ g, g < w.heap.size → A.map (·.block) ≠ some g → A'.map (·.block) ≠ some g) ∧ ∀ q, stepF p s = some q → k = q.length ∧ PP w' base A' c' q

theorem own_mono {w : World} {b b' : Nat} {e : TypeId} {size n : Nat} {v : Value} {xs : List Value} (h : w.ownsRow b e size v n xs) (hb : b' ≤ b) : w.ownsRow b' e size v n xs := by
  refine ⟨h.1, ?_⟩
  rcases h.2 with h | ⟨g, cap, cur, h1, h2, h3⟩
  · exact .inl h
  · exact .inr ⟨g, cap, cur, h1, by omega, h3⟩
theorem own_map {A : Option Addr} {n c : Nat} : (Value.slice A n c).ownBlock = A.map (·.block) := by cases A <;> rfl

theorem step_close {w w1 : World} {base n c1 : Nat} {A A1 : Option Addr} {p : List ByteArray} {s : ByteArray} {b : Bool} (hF : stepF p s = if nameB s = true ∧ p.length < 8 then some (p ++ [s]) else none) (hl : p.length = n) (hW : w.grownBy w1 (A.map (·.block)))
    (hN : ∀ g, g < w.heap.size → A.map (·.block) ≠ some g → A1.map (·.block) ≠ some g) (hown : w1.ownsRow base 9 1 (.slice A1 (n + 1) c1) (n + 1) (strV p ++ [.string s])) (hb : b = (nameB s && decide (n < 8))) :
    StepPost w base A p s (.returned (.tuple #[.slice A1 (n + 1) c1, .bool b])) w1 := by
  subst hl
  by_cases h : nameB s = true ∧ p.length < 8
  · rw [if_pos h] at hF
    refine ⟨A1, p.length + 1, c1, by rw [hF, hb, h.1]; simp [h.2], hW, hN, fun q hq => ?_⟩
    rw [hF] at hq
    injection hq with hq
    subst hq
    have h2 : (p ++ [s]).length = p.length + 1 := by simp
    refine ⟨h2.symm, PP.of_own ?_⟩
    rw [h2, strV_app]
    exact hown
  · rw [if_neg h] at hF
    refine ⟨A1, p.length + 1, c1, ?_, hW, hN, fun q hq => by rw [hF] at hq; cases hq⟩
    rw [hF, hb]
    have : (nameB s && decide (p.length < 8)) = false := by
      cases hn : nameB s
      · rfl
      · simp only [Bool.true_and, decide_eq_false_iff_not]
        exact fun h8 => h ⟨hn, h8⟩
    rw [this]; rfl


end Go.Proofs.YtmgblbkmbiiofaaDoor

namespace Go.Proofs.YtmgblbkmbiiofaaDoor
open Go.RowKit
attribute [local go_sem ↓] Go.wp_at_zero Go.wp_at_succ

def isAbs (s : ByteArray) : Bool := Lib.hasPrefix s.data.toList [47]
def cutF (s : ByteArray) : ByteArray := ⟨(Lib.trimPrefix s.data.toList [47]).toArray⟩
def partsF (s : ByteArray) : List ByteArray := Lib.splitB ⟨#[47]⟩ 0 (Lib.countB s ⟨#[47]⟩) s
def leadL : List ByteArray → List ByteArray → Option (List ByteArray)
  | p, [] => some p
  | p, s :: l => match stepF p s with
    | none => none
    | some q => leadL q l
def leadR (fr : List ByteArray) (s : ByteArray) : Option (List ByteArray) := if rightB fr = false ∨ 160 < s.size then none else leadL (if isAbs s = true then [] else fr) (partsF (cutF s))
def leadE (fr : List ByteArray) (s : ByteArray) : Int := if rightB fr = false then 10 else if 160 < s.size then 2 else if (leadR fr s).isSome = true then 0 else 10

theorem cutF_size (s : ByteArray) : (cutF s).size ≤ s.size := by
  show (Lib.trimPrefix s.data.toList [47]).toArray.size ≤ s.size
  unfold Lib.trimPrefix
  split
  · simp only [List.size_toArray, List.length_drop]
    have : s.data.toList.length = s.size := by simp
    omega
  · simp
theorem split_size (k : Nat) : ∀ s : ByteArray, ∀ x ∈ Lib.splitB ⟨#[47]⟩ 0 k s, x.size ≤ s.size := by
  induction k with
  | zero => intro s x hx; rw [Lib.splitB_zero] at hx; simp at hx; subst hx; exact Nat.le_refl _
  | succ k ih =>
    intro s x hx
    unfold Lib.splitB at hx
    split at hx
    · simp at hx; subst hx; exact Nat.le_refl _
    · rcases List.mem_cons.1 hx with rfl | hx
      · rw [ByteArray.size_extract]; omega
      · have := ih _ x hx
        rw [ByteArray.size_extract] at this
        omega
theorem partsF_size {s x : ByteArray} (h : x ∈ partsF s) : x.size ≤ s.size := split_size _ s x h
theorem partsF_len (s : ByteArray) : (partsF s).length = Lib.countB s ⟨#[47]⟩ + 1 := Lib.splitB_all ⟨#[47]⟩ (by decide) 0 _ s rfl
theorem partsF_le (s : ByteArray) : (partsF s).length ≤ s.size + 1 := by
  rw [partsF_len]
  have := Lib.countB_le ⟨#[47]⟩ (by decide) s.size s (Nat.le_refl _)
  omega

/-- The library's variable MaxLen holds some number. -/
def Mx (w : World) : Prop := ∃ m : Int, w.cell? ⟨0, 0, none⟩ = some (.int .i64 m)
theorem Mx.be {w w' : World} (h : Mx w) (hb : Below w.heap.size w w') : Mx w' := by
  obtain ⟨m, h⟩ := h
  exact ⟨m, (hb.cell (p := ⟨0, 0, none⟩) (cell_lt' h)).trans h⟩
theorem split_any (s : ByteArray) (w : World) (hs : s.size ≤ 1000000) (hM : Mx w) :
    Calls Tryd.prog 19 #[.string s, .string ⟨#[47]⟩] w fun e w' => e = .returned (.slice (some ⟨w.heap.size, 0, none⟩) (partsF s).length (partsF s).length) ∧ w' = w.alloc (.cells (strV (partsF s)).toArray 9) := by
  obtain ⟨m, hm⟩ := hM
  have h := strings_Split s ⟨#[47]⟩ m w (by omega) hm (by decide)
  rw [partsF_len]
  exact h
theorem cutp_any (s : ByteArray) (w : World) : Calls Tryd.prog 65 #[.string s, .string ⟨#[47]⟩] w fun e w' => e = .returned (.tuple #[.string (cutF s), .bool (isAbs s)]) ∧ w' = w := strings_CutPrefix s ⟨#[47]⟩ w

theorem ownNeLt' {w : World} {base n size : Nat} {e : TypeId} {v : Value} {xs : List Value} (h : w.ownsRow base e size v n xs) {g : Nat} (hg : w.heap.size ≤ g) : v.ownBlock ≠ some g := by
  rcases h.2 with ⟨rfl, _⟩ | ⟨g', cap, cur, rfl, hb, hh, _⟩
  · simp [Value.ownBlock]
  · intro e
    have e' : g' = g := by simpa [Value.ownBlock] using e
    have : g' < w.heap.size := Blk.lt (t := _) (cs := cur) hh
    omega

def LeadPost (w : World) (fr : List ByteArray) (s : ByteArray) (e : Ending) (w' : World) : Prop :=
  ∃ (A' : Option Addr) (k c' : Nat), e = .returned (.tuple #[.slice A' k c', .int .i64 (leadE fr s)]) ∧ Below w.heap.size w w' ∧ (leadR fr s = none → k = 0) ∧
    ∀ q, leadR fr s = some q → k = q.length ∧ k ≤ c' ∧ c' ≤ 9223372036854775807 ∧ q.length ≤ 8 ∧ Reads w' w'.heap.size 1 A' k (strV q)

theorem step_len {p q : List ByteArray} {s : ByteArray} (h : stepF p s = some q) (h8 : p.length ≤ 8) : q.length ≤ 8 := by
  unfold stepF at h
  split at h
  · injection h with h; subst h; exact h8
  · split at h
    · split at h
      · cases h
      · injection h with h; subst h; rw [List.length_dropLast]; omega
    · split at h
      · rename_i hc
        injection h with h; subst h; rw [List.length_append]; simp; omega
      · cases h


end Go.Proofs.YtmgblbkmbiiofaaDoor

namespace Go.Proofs.YtmgblbkmbiiofaaDoor
open Go.RowKit
attribute [local go_sem ↓] Go.wp_at_zero Go.wp_at_succ

def parseP (s : ByteArray) : List ByteArray := if cutF s = ⟨#[]⟩ then [] else partsF (cutF s)
def parseE (s : ByteArray) : Int := if 160 < s.size then 2 else if isAbs s = false then 10 else if rightB (parseP s) = true then 0 else 10
def ParsePost (w : World) (s : ByteArray) (e : Ending) (w' : World) : Prop :=
  Below w.heap.size w w' ∧ ((parseE s ≠ 0 ∧ e = .returned (.tuple #[.slice none 0 0, .int .i64 (parseE s)])) ∨
    (parseE s = 0 ∧ ∃ A c, e = .returned (.tuple #[.slice A (parseP s).length c, .int .i64 0]) ∧ w'.ownsRow w.heap.size 9 1 (.slice A (parseP s).length c) (parseP s).length (strV (parseP s))))

set_option maxRecDepth 100000 in
set_option maxHeartbeats 4000000 in
theorem parse_any (s : ByteArray) (w : World) (hs : s.size ≤ 1000000) (hM : Mx w) : Calls Tryd.prog 49 #[.string s] w (ParsePost w s) := by
  have HM := Sl.mk hM
  clear hM
  by_cases h160 : 160 < s.size
  · have HE := Sl.mk (show parseE s = 2 from if_pos h160)
    have hgt : (s.size : Int) > 160 := by omega
    clear h160
    go_enter Tryd.func49, Tryd.ntmps49
    go_wp2_with fail
    refine (cutp_any s _).mono ?_
    rintro e w1 ⟨rfl, rfl⟩
    go_wp2_with fail
    go_ret2
    exact ⟨Below.refl _ _, .inl ⟨by rw [HE.out]; decide, by rw [HE.out]; rfl⟩⟩
  · have hgt : ¬ (s.size : Int) > 160 := by omega
    cases hA : isAbs s
    · have HE := Sl.mk (show parseE s = 10 by unfold parseE; rw [if_neg h160, if_pos hA])
      clear h160
      go_enter Tryd.func49, Tryd.ntmps49
      go_wp2_with fail
      refine (cutp_any s _).mono ?_
      rintro e w1 ⟨rfl, rfl⟩
      rw [hA]
      go_wp2_with fail
      go_ret2
      exact ⟨Below.refl _ _, .inl ⟨by rw [HE.out]; decide, by rw [HE.out]; rfl⟩⟩
    · have hE0 : parseE s = if rightB (parseP s) = true then 0 else 10 := by unfold parseE; rw [if_neg h160, if_neg (by rw [hA]; decide)]
      have hcs := cutF_size s
      obtain ⟨C, hC⟩ : ∃ C, cutF s = C := ⟨_, rfl⟩
      have HC := Sl.mk hC
      by_cases h0 : C = ⟨#[]⟩
      · have hP : parseP s = [] := by unfold parseP; rw [hC, if_pos h0]
        have HE := Sl.mk (show parseE s = 0 by rw [hE0, hP]; decide)
        have HP := Sl.mk hP
        subst h0
        clear h160 hE0 hP hC hcs
        go_enter Tryd.func49, Tryd.ntmps49
        go_wp2_with fail
        refine (cutp_any s _).mono ?_
        rintro e w1 ⟨rfl, rfl⟩
        rw [hA, HC.out]
        go_wp2_with fail
        go_ret2
        exact ⟨Below.refl _ _, .inr ⟨HE.out, none, 0, by rw [HP.out]; rfl, by rw [HP.out]; exact World.ownsRow_nil _ _ _ _⟩⟩
      · have hP : parseP s = partsF C := by unfold parseP; rw [hC, if_neg h0]
        have HSP := Sl.mk (fun (W : World) (hW : Mx W) => split_any C W (by rw [← hC]; omega) hW)
        have hsz : ∀ x ∈ partsF C, x.size ≤ 9223372036854775807 := fun x hx => by have := partsF_size hx; rw [← hC] at this; omega
        have hpl : (partsF C).length ≤ 1000000 := by have := partsF_le C; rw [← hC] at this ⊢; omega
        rw [hP] at hE0
        have hne : (C.toList == []) = false := by have h := str_ne h0; rw [show (⟨#[]⟩ : ByteArray).toList = [] from by decide +kernel] at h; exact h
        have HP := Sl.mk hP
        have HE0 := Sl.mk hE0
        have HSZ := Sl.mk hsz
        clear h160 hE0 hP hC hcs hsz h0
        go_enter Tryd.func49, Tryd.ntmps49
        go_wp2_with fail
        refine (cutp_any s _).mono ?_
        rintro e w1 ⟨rfl, rfl⟩
        rw [hA, HC.out]
        go_wp2_with fail
        refine (HSP.out _ HM.out).mono ?_
        rintro e w2 ⟨rfl, rfl⟩
        have hown : (w1.alloc (.cells (strV (partsF C)).toArray 9)).ownsRow w1.heap.size 9 1 (.slice (some ⟨w1.heap.size, 0, none⟩) (partsF C).length (partsF C).length) (partsF C).length (strV (partsF C)) :=
          ⟨by rw [strV_len, Nat.mul_one], .inr ⟨w1.heap.size, (partsF C).length, (strV (partsF C)).toArray, rfl, Nat.le_refl _, heap_alloc_new w1 _, Nat.le_refl _, by unfold maxLen; omega, by simp [strV], List.take_of_length_le (by simp [strV])⟩⟩
        have HO := Sl.mk hown
        have HRT := Sl.mk (right_any _ _ (partsF C).length (partsF C) _ hpl HSZ.out (Reads.of_own hown))
        have HB := Sl.mk (below_al (Below.refl w1.heap.size w1) (.cells (strV (partsF C)).toArray 9))
        obtain ⟨Q, hQ⟩ : ∃ Q, partsF C = Q := ⟨_, rfl⟩
        rw [hQ] at HRT HO HB HP HE0 ⊢
        clear hown hQ HSZ hpl
        go_wp2_with fail
        refine HRT.out.mono ?_
        rintro e w2 ⟨rfl, rfl⟩
        cases eR : rightB Q
        · have HE := Sl.mk (show parseE s = 10 by rw [HE0.out, eR]; rfl)
          clear eR
          go_wp2_with fail
          go_ret2
          exact ⟨HB.out, .inl ⟨by rw [HE.out]; decide, by rw [HE.out]; rfl⟩⟩
        · have HE := Sl.mk (show parseE s = 0 by rw [HE0.out, eR]; rfl)
          clear eR
          go_wp2_with fail
          go_ret2
          exact ⟨HB.out, .inr ⟨HE.out, _, _, by rw [HP.out]; rfl, by rw [HP.out]; exact HO.out⟩⟩

end Go.Proofs.YtmgblbkmbiiofaaDoor

namespace Go.Proofs.YtmgblbkmbiiofaaDoor

/-- An item: two words. -/
structure It where
  a : Bs
  b : Bs
deriving DecidableEq, Inhabited
/-- A manifest. -/
structure Mf where
  pkg : Bs
  pub : Bs
  rev : Int
  p : List It
  s : List It
  h : List It
  w : List It
deriving DecidableEq, Inhabited
def Mf.at (m : Mf) : Nat → List It
  | 0 => m.p
  | 1 => m.s
  | 2 => m.h
  | _ => m.w
def Mf.add (m : Mf) (k : Nat) (x : It) : Mf := match k with
  | 0 => { m with p := m.p ++ [x] }
  | 1 => { m with s := m.s ++ [x] }
  | 2 => { m with h := m.h ++ [x] }
  | _ => { m with w := m.w ++ [x] }
def mf0 : Mf := ⟨[], [], 0, [], [], [], []⟩

def hw0 : Bs := [112, 97, 99, 107, 97, 103, 101]
def hw1 : Bs := [112, 117, 98, 108, 105, 115, 104, 101, 114]
def hw2 : Bs := [114, 101, 118, 105, 115, 105, 111, 110]
def wPlug : Bs := [112, 108, 117, 103]
def wSlot : Bs := [115, 108, 111, 116]
def wHook : Bs := [104, 111, 111, 107]
def wWant : Bs := [119, 97, 110, 116]
def wInst : Bs := [105, 110, 115, 116, 97, 108, 108]
def wRefr : Bs := [114, 101, 102, 114, 101, 115, 104]
def wReve : Bs := [114, 101, 118, 101, 114, 116]
def wRemo : Bs := [114, 101, 109, 111, 118, 101]
def wGet : Bs := [103, 101, 116]
def wPut : Bs := [112, 117, 116]
def wRead : Bs := [114, 101, 97, 100]
def wWrit : Bs := [119, 114, 105, 116, 101]
def wRun : Bs := [114, 117, 110]
def wl : List Bs := [wPlug, wSlot, wHook, wWant]
def evL : List Bs := [wInst, wRefr, wReve, wRemo]
def gpL : List Bs := [wGet, wPut]
def rwL : List Bs := [wRead, wWrit, wRun]

/-! ### Right items -/
def nmL (s : Bs) : Bool := nameB (bsS s)
def paE (s : Bs) : Int := parseE (bsS s)
def paN (s : Bs) : Bool := !(parseP (bsS s)).isEmpty
def keyM (s : Bs) : Bool := (Lib.cut s [46]).2.2 && nmL (Lib.cut s [46]).1 && nmL (Lib.cut s [46]).2.1
def rightM (i : Nat) (x : It) : Bool :=
  if i < 2 then nmL x.a && nmL x.b
  else if i = 2 then evL.contains x.a && (paE x.b == 0 && paN x.b)
  else if gpL.contains x.a = true then keyM x.b
  else rwL.contains x.a && paE x.b == 0
def lessL (a b : Bs) : Bool := decide (a < b)
def lessI (x y : It) : Bool := lessL x.a y.a || (x.a == y.a && lessL x.b y.b)
/-- What is wrong with the items of a list from a place on, behind an item. -/
def eachG (i : Nat) : Option It → List It → Int
  | _, [] => 0
  | none, x :: r => if rightM i x = true then eachG i (some x) r else 3
  | some q, x :: r => if rightM i x = true then (if lessI q x = true then eachG i (some x) r else 8) else 3
def dupM (l : List It) : Bool := !decide (l.map (·.a)).Nodup
def checkM (m : Mf) : Int :=
  if nmL m.pkg = true ∧ nmL m.pub = true then
    (if m.rev < 1 ∨ 999999 < m.rev then 1
    else if 20 < m.p.length + m.s.length + m.h.length + m.w.length then 2
    else if eachG 0 none m.p ≠ 0 then eachG 0 none m.p
    else if eachG 1 none m.s ≠ 0 then eachG 1 none m.s
    else if eachG 2 none m.h ≠ 0 then eachG 2 none m.h
    else if eachG 3 none m.w ≠ 0 then eachG 3 none m.w
    else if dupM (m.p ++ m.s) = true ∨ dupM m.h = true then 8 else 0)
  else 10

/-! ### Texts -/
def dgB (c : UInt8) : Bool := decide (48 ≤ c.toNat) && decide (c.toNat ≤ 57)
def dcF (s : Bs) : Nat := s.foldl (fun a c => 10 * a + (c.toNat - 48)) 0
def nuOk (s : Bs) : Bool := decide (1 ≤ s.length) && decide (s.length ≤ 6) && !(s.getD 0 0 == 48 && decide (1 < s.length)) && s.all dgB
def numM (s : Bs) : Option Nat := if nuOk s = true then some (dcF s) else none
def headM (w l : Bs) : Option Bs := match Lib.split l [32] with
  | [a, b] => if a = w then some b else none
  | _ => none
def findW (at_ : Nat) (a : Bs) : Option Nat := match wl.findIdx? (· == a) with
  | some k => if at_ ≤ k then some k else none
  | none => none
def restM (m : Mf) (at_ : Nat) (l : Bs) : Option (Mf × Nat) := match Lib.split l [32] with
  | [a, b, c] => (match findW at_ a with
    | some k => some (m.add k ⟨b, c⟩, k)
    | none => none)
  | _ => none
def restsM : Mf → Nat → List Bs → Nat → Mf × Bool × Nat
  | m, _, [], no => (m, true, no + 1)
  | m, at_, l :: r, no => match restM m at_ l with
    | none => (m, false, no + 1)
    | some q => restsM q.1 q.2 r (no + 1)
def scanM : List Bs → Mf × Bool × Nat
  | [] => (mf0, false, 1)
  | a :: r => match headM hw0 a with
    | none => (mf0, false, 1)
    | some x => match r with
      | [] => (mf0, false, 2)
      | b :: r => match headM hw1 b with
        | none => (mf0, false, 2)
        | some y => match r with
          | [] => (mf0, false, 3)
          | c :: r => match (headM hw2 c).bind numM with
            | none => (mf0, false, 3)
            | some n => restsM ⟨x, y, (n : Nat), [], [], [], []⟩ 0 r 3
def whB (s : Bs) : Bool := [10].isSuffixOf s
def bodyM (s : Bs) : Bs := if whB s = true then s.dropLast else s
def linesM (s : Bs) : List Bs := Lib.split (bodyM s) [10]
def parseM (s : Bs) : Mf × Int × Int :=
  if 4096 < s.length then (mf0, 0, 2)
  else if whB s = false then (mf0, (min (scanM (linesM s)).2.2 (linesM s).length : Nat), 3)
  else if (scanM (linesM s)).2.1 = false then (mf0, ((scanM (linesM s)).2.2 : Nat), 3)
  else if checkM (scanM (linesM s)).1 ≠ 0 then (mf0, 0, checkM (scanM (linesM s)).1)
  else ((scanM (linesM s)).1, 0, 0)
def sp2 (a b : Bs) : Bs := a ++ 32 :: b
def itL (w : Bs) (x : It) : Bs := w ++ 32 :: (x.a ++ 32 :: x.b)
def rowsM (m : Mf) : List Bs := m.p.map (itL wPlug) ++ m.s.map (itL wSlot) ++ m.h.map (itL wHook) ++ m.w.map (itL wWant)
def bodyL (m : Mf) : List Bs := sp2 hw0 m.pkg :: sp2 hw1 m.pub :: sp2 hw2 (Lib.itoa m.rev) :: rowsM m
def endL (L : List Bs) : Bs := L.flatMap (· ++ [10])
def textM (m : Mf) : Bs := endL (bodyL m)
end Go.Proofs.YtmgblbkmbiiofaaDoor
