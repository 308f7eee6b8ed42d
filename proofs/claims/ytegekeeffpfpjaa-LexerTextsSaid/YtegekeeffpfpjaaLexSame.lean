/-
  The contracts of Same's closure, of slices.EqualFunc at tokens, and of Same.
-/
import Derived.Test.YtegekeeffpfpjaaLexKnown
namespace Go.Proofs.Ytegekeeffpfpjaa
open Go.RowKit

def sameB (k1 : Int) (t1 : ByteArray) (k2 : Int) (t2 : ByteArray) : Bool := (k1 == k2) && (t1.toList == t2.toList)

theorem same1_any (k1 k2 n1 n2 : Int) (t1 t2 : ByteArray) (w : World) :
    Calls Try.prog 16 #[.agg #[.int .i64 k1, .string t1, .int .i64 n1], .agg #[.int .i64 k2, .string t2, .int .i64 n2]] w fun e w' => e = .returned (.bool (sameB k1 t1 k2 t2)) ∧ Below w.heap.size w w' := by
  cases h1 : k1 == k2
  · have hr : sameB k1 t1 k2 t2 = false := by unfold sameB; rw [h1]; rfl
    have HR := hide hr
    clear hr
    go_enter Try.func16, Try.ntmps16
    go_wp2_with fail
    go_ret
    exact ⟨ret_bool HR.out.symm, below_al (below_al (Below.refl _ _) _) _⟩
  · cases h2 : t1.toList == t2.toList
    · have hr : sameB k1 t1 k2 t2 = false := by unfold sameB; rw [h1, h2]; rfl
      have HR := hide hr
      clear hr
      go_enter Try.func16, Try.ntmps16
      go_wp2_with fail
      go_ret
      exact ⟨ret_bool HR.out.symm, below_al (below_al (Below.refl _ _) _) _⟩
    · have hr : sameB k1 t1 k2 t2 = true := by unfold sameB; rw [h1, h2]; rfl
      have HR := hide hr
      clear hr
      go_enter Try.func16, Try.ntmps16
      go_wp2_with fail
      go_ret
      exact ⟨ret_bool HR.out.symm, below_al (below_al (Below.refl _ _) _) _⟩

def sameT : List Tok → List Tok → Bool
  | [], [] => true
  | x :: l, y :: m => sameB x.1 ⟨x.2.1.toArray⟩ y.1 ⟨y.2.1.toArray⟩ && sameT l m
  | _, _ => false

theorem cellsT_at {l : List Tok} {i : Nat} {t : Tok} (h : l[i]? = some t) : (cellsT l)[i * 3]? = some (.int .i64 t.1) ∧ (cellsT l)[i * 3 + 1]? = some (.string ⟨t.2.1.toArray⟩) ∧ (cellsT l)[i * 3 + 2]? = some (.int .i64 t.2.2) := by
  induction l generalizing i with
  | nil => simp at h
  | cons x l ih =>
    cases i with
    | zero => simp at h; subst h; exact ⟨rfl, rfl, rfl⟩
    | succ i =>
      simp at h
      obtain ⟨h1, h2, h3⟩ := ih h
      have e : cellsT (x :: l) = [.int .i64 x.1, .string ⟨x.2.1.toArray⟩, .int .i64 x.2.2] ++ cellsT l := rfl
      rw [e, List.getElem?_append_right (by simp; omega), List.getElem?_append_right (by simp; omega), List.getElem?_append_right (by simp; omega)]
      refine ⟨?_, ?_, ?_⟩
      · rw [← h1]; congr 1; simp; omega
      · rw [← h2]; congr 1; simp; omega
      · rw [← h3]; congr 1; simp; omega

/-- A slice of tokens, as a list, at the head of a block. -/
def Toks (w : World) (A : Option Addr) (l : List Tok) : Prop := l ≠ [] → ∃ g, A = some ⟨g, 0, none⟩ ∧ g < w.heap.size ∧ ∀ j u, (cellsT l)[j]? = some u → w.cell? ⟨g, j, none⟩ = some u
theorem Toks.below {w w' : World} {A : Option Addr} {l : List Tok} (h : Toks w A l) (hb : Below w.heap.size w w') : Toks w' A l := fun hn => by
  obtain ⟨g, rfl, hg, hc⟩ := h hn
  exact ⟨g, rfl, Nat.lt_of_lt_of_le hg hb.size, fun j u hj => (hb.cell (p := ⟨g, j, none⟩) hg).trans (hc j u hj)⟩
theorem toks_of_own {w : World} {base : Nat} {e : TypeId} {A : Option Addr} {n c : Nat} {l : List Tok} (h : w.ownsRow base e 3 (.slice A n c) n (cellsT l)) : Toks w A l ∧ n = l.length := by
  have hl := h.1
  rw [cellsT_len] at hl
  refine ⟨fun hn => ?_, by omega⟩
  have : 0 < l.length := List.length_pos_iff.2 hn
  obtain ⟨g, c', hv, -, hg, hc⟩ := own_cells h (by omega)
  injection hv with hv
  exact ⟨g, hv, hg, hc⟩

theorem drop_cons' {l : List Tok} {k : Nat} (h : k < l.length) : ∃ t, l[k]? = some t ∧ l.drop k = t :: l.drop (k + 1) := ⟨l[k], List.getElem?_eq_getElem h, List.drop_eq_getElem_cons h⟩

set_option maxHeartbeats 2000000 in
theorem equal_same (A1 A2 : Option Addr) (c1 c2 : Nat) (l1 l2 : List Tok) (w : World) (h1 : Toks w A1 l1) (h2 : Toks w A2 l2) (hm : l1.length ≤ 1000000) (hl : l1.length = l2.length) :
    Calls Try.prog 15 #[.slice A1 l1.length c1, .slice A2 l1.length c2, .func (.func 16) #[] #[]] w
      fun e w' => e = .returned (.bool (sameT l1 l2)) ∧ Below w.heap.size w w' := by
  obtain ⟨n, hn⟩ : ∃ n, l1.length = n := ⟨_, rfl⟩
  have hS0 : sameT l1 l2 = sameT (l1.drop 0) (l2.drop 0) := rfl
  have HS0 := hide hS0
  have HL := hide hl
  have HN := hide hn
  rw [hn] at hm ⊢
  clear hS0 hl hn
  go_enter Try.func15, Try.ntmps15
  go_wp2_with fail
  go_loopw [17] (fun v17 wr => ∃ k : Nat, k ≤ n ∧ v17 = .int .i64 k ∧ Hid (sameT l1 l2 = sameT (l1.drop k) (l2.drop k)) ∧ Below w.heap.size w wr) (fun v17 _ => n - (intOf v17).toNat)
  case atStart => exact ⟨0, by omega, rfl, HS0, Below.refl _ _⟩
  case round =>
    obtain ⟨k, hk, rfl, HS, hB⟩ := hrel
    by_cases hlt : k < n
    · obtain ⟨x, ex, dx⟩ := drop_cons' (l := l1) (k := k) (by rw [HN.out]; exact hlt)
      obtain ⟨y, ey, dy⟩ := drop_cons' (l := l2) (k := k) (by rw [← HL.out, HN.out]; exact hlt)
      obtain ⟨g1, rfl, hg1, hc1⟩ := h1.below hB (by intro e; rw [e] at ex; simp at ex)
      obtain ⟨g2, rfl, hg2, hc2⟩ := h2.below hB (by intro e; rw [e] at ey; simp at ey)
      obtain ⟨x0, x1, x2⟩ := cellsT_at ex
      obtain ⟨y0, y1, y2⟩ := cellsT_at ey
      have q0 := hc1 _ _ x0
      have q1 := hc1 _ _ x1
      have q2 := hc1 _ _ x2
      have r0 := hc2 _ _ y0
      have r1 := hc2 _ _ y1
      have r2 := hc2 _ _ y2
      have HS2 : Hid (sameT l1 l2 = (sameB x.1 ⟨x.2.1.toArray⟩ y.1 ⟨y.2.1.toArray⟩ && sameT (l1.drop (k + 1)) (l2.drop (k + 1)))) := by
        have := HS.out
        rw [dx, dy] at this
        exact hide this
      clear ex ey dx dy hc1 hc2 x0 x1 x2 y0 y1 y2 h1 h2 HS HS0
      cases hb : sameB x.1 ⟨x.2.1.toArray⟩ y.1 ⟨y.2.1.toArray⟩
      · have HS3 : Hid (sameT l1 l2 = false) := by have := HS2.out; rw [hb] at this; exact hide this
        go_wp2_with fail
        refine (same1_any _ _ _ _ _ _ _).mono ?_
        rintro e w2 ⟨rfl, hB2⟩
        rw [hb]
        go_wp2_with fail
        go_ret
        exact ⟨ret_bool HS3.out.symm, below_tr (below_al (below_al hB _) _) hB2⟩
      · have HS3 : Hid (sameT l1 l2 = sameT (l1.drop (k + 1)) (l2.drop (k + 1))) := by have := HS2.out; rw [hb] at this; exact hide this
        go_wp2_with fail
        refine (same1_any _ _ _ _ _ _ _).mono ?_
        rintro e w2 ⟨rfl, hB2⟩
        rw [hb]
        go_wp2_with fail
        go_roundw
        case rel => exact ⟨k + 1, by omega, by go_num, HS3, below_tr (below_al (below_al hB _) _) hB2⟩
        case measure => simp [intOf]; omega
    · obtain rfl : k = n := by omega
      have HS3 : Hid (sameT l1 l2 = true) := by
        have := HS.out
        rw [List.drop_eq_nil_of_le (by rw [HN.out]; omega), List.drop_eq_nil_of_le (by rw [← HL.out, HN.out]; omega)] at this
        exact hide this
      go_wp2_with fail
      go_ret
      exact ⟨ret_bool HS3.out.symm, hB⟩

theorem Same_any (A1 A2 : Option Addr) (c1 c2 : Nat) (l1 l2 : List Tok) (w : World) (h1 : Toks w A1 l1) (h2 : Toks w A2 l2) (hm : l1.length ≤ 1000000) (hl : l1.length = l2.length) :
    Calls Try.prog 9 #[.slice A1 l1.length c1, .slice A2 l1.length c2] w fun e w' => e = .returned (.bool (sameT l1 l2)) ∧ Below w.heap.size w w' := by
  have HL := hide hl
  clear hl
  go_enter Try.func9, Try.ntmps9
  go_wp2_with fail
  refine (equal_same A1 A2 c1 c2 l1 l2 _ h1 h2 hm HL.out).mono ?_
  rintro e w2 ⟨rfl, hB2⟩
  go_wp2_with fail
  go_ret
  exact ⟨rfl, hB2⟩

end Go.Proofs.Ytegekeeffpfpjaa
