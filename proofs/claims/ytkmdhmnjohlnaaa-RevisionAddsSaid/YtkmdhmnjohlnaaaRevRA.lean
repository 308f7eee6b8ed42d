/-
  The contract of creelref23.Add: plain facts.
-/
import Derived.Test.YtkmdhmnjohlnaaaRevRD
import Derived.Test.YtkmdhmnjohlnaaaRevI
import Derived.Test.YtkmdhmnjohlnaaaWordsU
namespace Go.Proofs.Ytkmdhmnjohlnaaa
open Go.RowKit
attribute [local go_sem ↓] Go.wp_at_zero Go.wp_at_succ

theorem sel_none {b : Nat → Bool} {l : List Rv} (h : ∀ i, b i = false) : ∀ i, i ≤ l.length → selF b true l i = [] ∧ selF b false l i = l.take i
  | 0, _ => by simp [selF]
  | i + 1, hi => by
    obtain ⟨r, hr⟩ : ∃ r, l[i]? = some r := ⟨_, List.getElem?_eq_getElem (show i < l.length by omega)⟩
    obtain ⟨h1, h2⟩ := sel_none (l := l) h i (by omega)
    rw [sel_no (by rw [h]; simp), sel_yes hr (h i), h1, h2, take_snoc hr]
    exact ⟨rfl, rfl⟩
theorem addL_small {a : Int} {l : List Rv} {r : Rv} (h : l.length ≤ 2) : addL true a l r = [] ∧ addL false a l r = l ++ [r] := by
  have hb : ∀ i, goesF (((l.length + 1 : Nat) : Int) - 3) a r.no (l ++ [r]) i = false := fun i => by
    unfold goesF goB
    have := moreF_le (((l.length + 1 : Nat) : Int) - 3) a r.no (l ++ [r]) i
    have hd : decide (0 < moreF (((l.length + 1 : Nat) : Int) - 3) a r.no (l ++ [r]) i) = false := decide_eq_false (by omega)
    rw [hd]; rfl
  obtain ⟨h1, h2⟩ := sel_none (l := l ++ [r]) hb (l.length + 1) (by simp)
  unfold addL
  refine ⟨h1, h2.trans ?_⟩
  exact List.take_of_length_le (by simp)
theorem addL_one {a : Int} {x0 x1 x2 r : Rv} (h0 : (x0.no == a) = true) (h1 : (x1.no == a) = false) (h2 : (x1.no == r.no) = false) : addL true a [x0, x1, x2] r = [x1] ∧ addL false a [x0, x1, x2] r = [x0, x2, r] := by
  simp at h0 h1 h2
  simp [addL, selF, goesF, moreF, goB, h0, h1, h2]
theorem addL_zero {a : Int} {x0 x1 x2 r : Rv} (h0 : (x0.no == a) = false) (h2 : (x0.no == r.no) = false) : addL true a [x0, x1, x2] r = [x0] ∧ addL false a [x0, x1, x2] r = [x1, x2, r] := by
  simp at h0 h2
  simp [addL, selF, goesF, moreF, goB, h0, h2]
/-- Three are kept: the one at i goes. -/
theorem addL_at {a : Int} {l : List Rv} {r y : Rv} (hg : goodF 0 l = true) (h3 : l.length = 3) (hnr : ∀ x ∈ l, x.no ≠ r.no) {i : Nat} (hi : i ≤ 1) (hp : i = 1 → ∀ x, (l ++ [r])[0]? = some x → x.no = a) (hy : (l ++ [r])[i]? = some y) (hya : (y.no == a) = false) :
    addL true a l r = [y] ∧ addL false a l r = (l ++ [r]).take i ++ (l ++ [r]).drop (i + 1) := by
  match l, h3 with
  | [x0, x1, x2], _ =>
    have n0 : (x0.no == r.no) = false := by simpa using hnr x0 (by simp)
    have n1 : (x1.no == r.no) = false := by simpa using hnr x1 (by simp)
    rcases Nat.le_one_iff_eq_zero_or_eq_one.1 hi with rfl | rfl
    · simp at hy; subst hy
      exact addL_zero hya n0
    · simp at hy; subst hy
      have h0 : (x0.no == a) = true := by simpa using hp rfl x0 (by simp)
      exact addL_one h0 hya n1
/-- The first two are not both the active one. -/
theorem good_two {a : Int} {l : List Rv} {r y : Rv} (hg : goodF 0 l = true) (h3 : l.length = 3) (h0 : ∀ x, (l ++ [r])[0]? = some x → x.no = a) (hy : (l ++ [r])[1]? = some y) : (y.no == a) = false := by
  match l, h3 with
  | [x0, x1, x2], _ =>
    simp at hy; subst hy
    have h := h0 x0 (by simp)
    simp [goodF, rightB] at hg
    simp; omega
theorem last_ge : ∀ (l : List Rv) (b : Int), goodF b l = true → b ≤ l.foldl (fun _ r => r.no) b
  | [], b, _ => Int.le_refl _
  | r :: l, b, h => by
    simp only [goodF, Bool.and_eq_true] at h
    have := last_ge l r.no h.2
    have h1 := h.1
    simp [rightB] at h1
    rw [List.foldl_cons]
    omega
theorem last_no {l : List Rv} {k : Nat} {rl : Rv} (hk : l.length = k + 1) (hr : l[k]? = some rl) : lastF l = rl.no := by
  have := take_snoc hr
  rw [List.take_of_length_le (by omega)] at this
  rw [this, lastF_snoc]
theorem not_has {no : Int} {l : List Rv} (h : ¬ idxR no l < l.length) : ∀ x ∈ l, x.no ≠ no := fun x hx e =>
  h (has_idx no l (List.any_eq_true.2 ⟨x, hx, by simp [e]⟩))

def badB (r rl : Rv) : Bool := decide (r.no ≤ rl.no) || decide (999999 < r.no) || decide (r.size < 0) || decide (131072 < r.size)
theorem addE_of {s1 s2 : ByteArray} {a : Int} {l : List Rv} {r rl : Rv} {k : Nat} (hc : checkF s1 s2 a l = 0) (hi : ¬ idxR r.no l < l.length) (hk : l.length = k + 1) (hr : l[k]? = some rl) : addE s1 s2 a l r = if badB r rl = true then 1 else 0 := by
  obtain ⟨h1, h2, h3, h4, h5, h6⟩ := check_parts hc
  have hlast := last_no hk hr
  have hge : 0 ≤ lastF l := last_ge l 0 h5
  unfold addE
  rw [if_neg (by rw [hc]; simp), if_neg hi, hlast]
  rw [hlast] at hge
  have hgr : goodF 0 [r] = rightB r 0 := by simp [goodF]
  by_cases hb : badB r rl = true
  · rw [if_pos hb, if_pos]
    by_cases hle : r.no < rl.no + 1
    · exact .inr hle
    · refine .inl ?_
      have : rightB r 0 = false := by
        simp [badB] at hb
        cases hR : rightB r 0
        · rfl
        · simp [rightB] at hR; omega
      unfold checkF
      rw [h1, h2, if_neg (by simp), if_neg (by simp), hgr, this, if_pos rfl]
      simp
  · rw [if_neg hb, if_neg]
    simp [badB] at hb
    rintro (h | h)
    · exact h (check_of h1 h2 (by simp) (by simp) (by rw [hgr]; simp [rightB]; omega) (by simp [hasF]))
    · omega

theorem reads_takeS {w : World} {B size : Nat} {A : Option Addr} {n k : Nat} {xs : List Value} (h : Reads w B size A n xs) (hk : k ≤ n) : Reads w B size A k (xs.take (k * size)) := by
  have hl := h.1
  have hm : k * size ≤ n * size := Nat.mul_le_mul_right _ hk
  refine ⟨by rw [List.length_take]; omega, fun hp => ?_⟩
  obtain ⟨ad, e, hb, hc⟩ := h.2 (by omega)
  refine ⟨ad, e, hb, fun j u hj => hc j u ?_⟩
  rw [List.getElem?_take] at hj
  split at hj
  · exact hj
  · cases hj
theorem revC_take (l : List Rv) (i : Nat) : (revC l).take (i * 34) = revC (l.take i) := by
  induction l generalizing i with
  | nil => simp [revC]
  | cons r l ih =>
    cases i with
    | zero => simp [revC]
    | succ i =>
      have h : (i + 1) * 34 = (rvC r).length + i * 34 := by rw [rvC_len]; omega
      simp only [revC, List.flatMap_cons, List.take_succ_cons] at ih ⊢
      rw [h, List.take_length_add_append, ih]
theorem revC_drop (l : List Rv) (i : Nat) : (revC l).drop (i * 34) = revC (l.drop i) := by
  induction l generalizing i with
  | nil => simp [revC]
  | cons r l ih =>
    cases i with
    | zero => simp [revC]
    | succ i =>
      have h : (i + 1) * 34 = (rvC r).length + i * 34 := by rw [rvC_len]; omega
      simp only [revC, List.flatMap_cons, List.drop_succ_cons] at ih ⊢
      rw [h, List.drop_length_add_append, ih]

/-- What the document's Add leaves as it is, beside its two rows. -/
structure AK (w wr : World) (s1 s2 : ByteArray) (a : Int) (A : Option Addr) (n c : Nat) (r : Rv) (A1 : Option Addr) (G : List Rv) (c1 : Nat) (A2 : Option Addr) (K : List Rv) (c2 : Nat) : Prop where
  P : Blk wr w.heap.size 24 #[.string s1, .string s2, .int .i64 a, .slice A n c]
  V : Blk wr (w.heap.size + 1) 27 (rvC r).toArray
  Z : Blk wr (w.heap.size + 2) 24 #[.string { data := #[] }, .string { data := #[] }, .int .i64 0, .slice none 0 0]
  rows : Rows2R wr (w.heap.size + 3) (.slice A1 G.length c1) G (.slice A2 K.length c2) K
  below : Below w.heap.size w wr
section
variable {w wr w' : World} {s1 s2 : ByteArray} {a : Int} {A : Option Addr} {n c : Nat} {r : Rv} {A1 : Option Addr} {G : List Rv} {c1 : Nat} {A2 : Option Addr} {K : List Rv} {c2 : Nat}
theorem AK.be (h : AK w wr s1 s2 a A n c r A1 G c1 A2 K c2) (hb : Below wr.heap.size wr w') : AK w w' s1 s2 a A n c r A1 G c1 A2 K c2 :=
  ⟨h.P.be hb, h.V.be hb, h.Z.be hb, h.rows.below hb, below_tr h.below hb⟩
theorem AK.dr (h : AK w wr s1 s2 a A n c r A1 G c1 A2 K c2) (q : Nat) : AK w (wr.drewN q) s1 s2 a A n c r A1 G c1 A2 K c2 :=
  h.be (below_drN (Below.refl _ _) q)
end
def RAddPost (w : World) (s1 s2 : ByteArray) (a : Int) (l : List Rv) (r : Rv) (e : Ending) (w' : World) : Prop :=
  Below w.heap.size w w' ∧
    ((addE s1 s2 a l r ≠ 0 ∧ e = .returned (.tuple #[.agg #[.string { data := #[] }, .string { data := #[] }, .int .i64 0, .slice none 0 0], .slice none 0 0, .int .i64 (addE s1 s2 a l r)])) ∨
     (addE s1 s2 a l r = 0 ∧ ∃ A1 c1 A2 c2, e = .returned (.tuple #[.agg #[.string s1, .string s2, .int .i64 r.no, .slice A2 (addL false a l r).length c2], .slice A1 (addL true a l r).length c1, .int .i64 0]) ∧
       Rows2R w' w.heap.size (.slice A1 (addL true a l r).length c1) (addL true a l r) (.slice A2 (addL false a l r).length c2) (addL false a l r)))

/-- append to an own row, at the level of one operation. -/
theorem wp_apR {o : Oper} {a : Act} {K : Act → World → Prop} {Q : Exit → Act → World → Prop} (s x : Operand) (ho : o.op = .call { callee := .builtin .append, args := #[s, x], argTypes := #[22, 22] })
    {b n1 m N c B : Nat} {W : World} {v : Value} {l1 l2 : List Rv} {A : Option Addr} (hs : a.eval s = v) (hown : W.ownsRow b 27 34 v n1 (revC l1)) (hx : a.eval x = .slice A m c) (hr : Reads W B 34 A m (revC l2))
    (hN : n1 + m = N) (hm : N ≤ 1000000) (hbase : b ≤ W.heap.size)
    (h : ∀ A' c' W', W'.ownsRow b 27 34 (.slice A' N c') N (revC (l1 ++ l2)) → Below b W W' → W.grownBy W' v.ownBlock → K (a.put o.dst (.slice A' N c')) W') : o.wp Try.prog a W K Q := by
  obtain ⟨i0, hi0, hz0, hz1, hz2⟩ := info_parts rvInfoR
  subst hN
  refine wp_append_any _ s x 22 ho b 27 i0 zeroRv 34 48 Try.underlying22 hi0 hz0 hz1 hz2 (by rfl) (by decide) v n1 (revC l1) hs hown B A m c (revC l2) hx hr (revC_one l2) (by unfold maxLen; omega) (by omega) hbase ?_
  intro v' W' h2 h3 _
  obtain ⟨A', c', rfl⟩ := ownForm h2
  exact h A' c' W' (by rw [revC_append]; exact h2) ((Below.refl _ W).grown h3 hbase (fun x hx => ownGe hown hx)) h3
theorem reads_blkR {W : World} {g : Nat} {t : TypeId} {r : Rv} (h : Blk W g t (rvC r).toArray) : Reads W (g + 1) 34 (some ⟨g, 0, none⟩) 1 (revC [r]) := by
  refine ⟨by simp [revC, rvC_len], fun _ => ⟨_, rfl, by simp, fun j u hj => ?_⟩⟩
  have hadd : (⟨g, 0, none⟩ : Addr).add j = ⟨g, j, none⟩ := by unfold Addr.add; split <;> simp_all
  rw [hadd, h.cell j]
  simpa [revC] using hj
theorem own_cap {w : World} {b size n : Nat} {e : TypeId} {v : Value} {xs : List Value} (h : w.ownsRow b e size v n xs) (hn : 0 < n) : ∃ g c, v = .slice (some ⟨g, 0, none⟩) n c ∧ n ≤ c ∧ b ≤ g ∧ g < w.heap.size := by
  rcases h.2 with ⟨rfl, rfl⟩ | ⟨g, cap, cur, rfl, h1, h2, h3, _⟩
  · omega
  · exact ⟨g, cap, rfl, h3, h1, by
      have := own_lt h (g := g) (by simp [Value.ownBlock])
      exact this⟩

end Go.Proofs.Ytkmdhmnjohlnaaa
