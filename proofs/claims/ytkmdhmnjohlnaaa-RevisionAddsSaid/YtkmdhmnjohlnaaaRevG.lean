/-
  The contract of Back.
-/
import Derived.Test.YtkmdhmnjohlnaaaRevF
import Derived.Test.YtkmdhmnjohlnaaaWordsT
namespace Go.Proofs.Ytkmdhmnjohlnaaa
open Go.RowKit
attribute [local go_sem ↓] Go.wp_at_zero Go.wp_at_succ

theorem cellLt {w : World} {p : Addr} {v : Value} (h : w.cell? p = some v) : p.block < w.heap.size := by
  rcases Nat.lt_or_ge p.block w.heap.size with hlt | hge
  · exact hlt
  · have : w.heap[p.block]? = none := Array.getElem?_eq_none hge
    simp [World.cell?, this] at h
theorem froz_later {w w' : World} {p : Addr} {v : Value} (hB : Below w.heap.size w w') (hc : w.cell? p = some v) (hf : w.frozen? p = false) : w'.frozen? p = false := (hB.frozen (cellLt hc)).trans hf

theorem has_idx (a : Int) : ∀ l : List Rv, hasF a l = true → idxR a l < l.length
  | [], h => by simp [hasF] at h
  | r :: l, h => by
    unfold idxR
    by_cases hr : r.no = a
    · rw [if_pos hr]; simp
    · rw [if_neg hr]
      have : hasF a l = true := by simpa [hasF, hr] using h
      have := has_idx a l this
      simp; omega
theorem idx_at (a : Int) : ∀ l : List Rv, idxR a l < l.length → ∃ r, l[idxR a l]? = some r ∧ r.no = a
  | [], h => by simp at h
  | r :: l, h => by
    by_cases hr : r.no = a
    · exact ⟨r, by simp [idxR, hr], hr⟩
    · have e : idxR a (r :: l) = idxR a l + 1 := by simp [idxR, hr]
      rw [e] at h ⊢
      obtain ⟨x, h1, h2⟩ := idx_at a l (by simp at h; omega)
      exact ⟨x, by simpa using h1, h2⟩
theorem idx_le_of {a : Int} : ∀ {l : List Rv} {i : Nat} {r : Rv}, l[i]? = some r → r.no = a → idxR a l ≤ i
  | [], _, _, h, _ => by simp at h
  | x :: l, i, r, h, hr => by
    by_cases hx : x.no = a
    · simp [idxR, hx]
    · cases i with
      | zero => simp at h; subst h; exact absurd hr hx
      | succ i =>
        have := idx_le_of (l := l) (i := i) (r := r) (by simpa using h) hr
        simp [idxR, hx]; omega
theorem check_parts {s1 s2 : ByteArray} {a : Int} {l : List Rv} (h : checkF s1 s2 a l = 0) : nameB s1 = true ∧ nameB s2 = true ∧ 1 ≤ l.length ∧ l.length ≤ 3 ∧ goodF 0 l = true ∧ hasF a l = true := by
  unfold checkF at h
  split at h
  · cases h
  · rename_i h1
    split at h
    · cases h
    · rename_i h2
      split at h
      · cases h
      · rename_i h3
        split at h
        · cases h
        · rename_i h4
          simp at h1 h3 h4
          exact ⟨h1.1, h1.2, by omega, by omega, h3, h4⟩
theorem check_of {s1 s2 : ByteArray} {a : Int} {l : List Rv} (h1 : nameB s1 = true) (h2 : nameB s2 = true) (h3 : 1 ≤ l.length) (h4 : l.length ≤ 3) (h5 : goodF 0 l = true) (h6 : hasF a l = true) : checkF s1 s2 a l = 0 := by
  unfold checkF; rw [h1, h2, if_neg (by simp), if_neg (by omega), h5, h6]; simp

def prevNo (a : Int) (l : List Rv) : Int := ((l[idxR a l - 1]?).getD rv0).no
def backF (s1 s2 : ByteArray) (a : Int) (l : List Rv) : Nat := if checkF s1 s2 a l ≠ 0 then checkF s1 s2 a l else if idxR a l = 0 then 7 else 0

set_option maxHeartbeats 4000000 in
theorem back_any (s1 s2 : ByteArray) (a : Int) (A : Option Addr) (n c : Nat) (l : List Rv) (w : World) (h1 : s1.size ≤ 9223372036854775807) (h2 : s2.size ≤ 9223372036854775807) (hn : n ≤ 1000000) (hR : Reads w w.heap.size 34 A n (revC l)) :
    Calls Try.prog 20 #[.agg #[.string s1, .string s2, .int .i64 a, .slice A n c]] w (PkPost w (backF s1 s2 a l) s1 s2 (prevNo a l) n l) := by
  obtain ⟨w0, hw0, hR0, hE0, hX0, hZ0, hs0⟩ := two_new w s1 s2 a A n c l 30 #[.string { data := #[] }, .string { data := #[] }, .int .i64 0, .slice none 0 0] hR
  have hl := reads_n hR
  clear hR
  go_enter Try.func20, Try.ntmps20
  go_wp2_with (refine ld_pk hX0 rfl (.tmp 1) rfl rfl rfl ?_)
  clear hw0
  refine (check_any s1 s2 a A n c l _ h1 h2 (by omega) hR0.out).mono ?_
  rintro e w1 ⟨rfl, hB1⟩
  have hE1 := below_tr hE0 hB1
  have hZ1 := hZ0.be hB1
  have hX1 := hX0.be hB1
  have hR1 := Sl.mk ((hR0.out.below hB1).more hB1.size)
  have hge1 := hB1.size
  rw [hs0] at hge1
  clear hE0 hZ0 hX0 hR0 hB1
  by_cases hC : checkF s1 s2 a l = 0
  · have hp := check_parts hC
    have hi := has_idx a l hp.2.2.2.2.2
    have hpl : placeF a l = ((idxR a l : Nat) : Int) := by unfold placeF; rw [if_pos hi]
    have HC := Sl.mk hC
    rw [hC]
    clear hC hp
    obtain ⟨c0, c1, c2, c3⟩ := hX1.c4
    go_wp2_with (refine ld_pk hX1 rfl (.tmp 1) rfl rfl rfl ?_)
    refine (at_any s1 s2 a a A n c l _ hn hR1.out).mono ?_
    rintro e w2 ⟨rfl, hB2⟩
    rw [hpl]
    have hE2 := below_tr hE1 hB2
    have hZ2 := hZ1.be hB2
    have hX2 := hX1.be hB2
    have hR2 := Sl.mk ((hR1.out.below hB2).more hB2.size)
    have hge2 := Nat.le_trans hge1 hB2.size
    clear hE1 hZ1 hX1 hR1 hB2 hge1 c0 c1 c2 c3 hpl
    obtain ⟨c0, c1, c2, c3⟩ := hX2.c4
    by_cases h0 : idxR a l = 0
    · have HT := Sl.mk (show backF s1 s2 a l = 7 by unfold backF; rw [if_neg (by rw [HC.out]; simp), if_pos h0])
      rw [h0]
      clear h0 hi
      go_wp2_with (refine st_pk hZ2 rfl (.tmp 2) (.tmp 18) rfl ⟨#[]⟩ ⟨#[]⟩ 0 none 0 0 rfl rfl rfl ?_)
      intro w3 hZ3 hG3 _
      have hE3 := below_only hE2 hG3 hE2.size (by omega)
      go_wp2_with fail
      refine bodyPost_ret (res_cell_tmp Try.results20 _ _ _ rfl hZ3 Try.underlying30 infoPk rfl) rfl ?_
      exact ⟨hE3, .inl ⟨by rw [HT.out]; simp, by rw [HT.out]; rfl⟩⟩
    · have HT := Sl.mk (show backF s1 s2 a l = 0 by unfold backF; rw [if_neg (by rw [HC.out]; simp), if_neg h0])
      obtain ⟨r, hr⟩ : ∃ r, l[idxR a l - 1]? = some r := ⟨_, List.getElem?_eq_getElem (by omega)⟩
      have HP := Sl.mk (show prevNo a l = r.no by unfold prevNo; rw [hr]; rfl)
      have HF := Sl.mk (show toF s1 s2 a r.no l = 0 by
        have h1 := idx_le_of (a := r.no) hr rfl
        unfold toF; rw [if_neg (by rw [HC.out]; simp), if_pos (by omega)])
      obtain ⟨ad, rfl, hbl, hld, hd0⟩ := reads_load hR2.out hr
      obtain ⟨i, hii⟩ : ∃ i, idxR a l = i := ⟨_, rfl⟩
      rw [hii] at h0 hi hld hd0 ⊢
      have h0' : ((i : Int) == 0) = false := by simp; omega
      have hcast : ((i - 1 : Nat) : Int) = (i : Int) - 1 := by omega
      obtain ⟨k, rfl⟩ : ∃ k, i = k + 1 := ⟨i - 1, by omega⟩
      have hd1 : w2.cell? (ad.add (k * 34)) = some (.int .i64 r.no) := by simpa using hd0
      have hk : k < n := by omega
      clear hr hii h0 hld hd0 hcast
      go_wp2_with fail
      refine wp_region_quiet_line 8 (by kernel_rfl) (by kernel_rfl) ?_
      simp only [List.take_succ_cons, List.take_zero, List.drop_succ_cons, List.drop_zero]
      repeat (any_goals (first | go_big_quiet_step (fail) | quiet_step (fail)))
      refine wpQuiet_nil ?_
      intro _ hw'
      obtain ⟨nq, hw''⟩ := hw'
      subst hw''
      go_wp2_with fail
      refine (to_ok s1 s2 a r.no (some ad) n c l _ h1 h2 hn (hR2.out.drewN _) HF.out).mono ?_
      rintro e w3 ⟨A', c', rfl, hown3, hB3⟩
      have hZ3 := (hZ2.drewN nq).be hB3
      have hE3 := below_tr (below_drN hE2 nq) hB3
      have hown3' := own_mono (b' := w.heap.size + 2) hown3 hge2
      clear hZ2 hX2 hE2 hR2 c0 c1 c2 c3 hd1 hown3 hB3
      go_wp2_with (refine st_pk hZ3 rfl (.tmp 2) (.tmp 28) rfl s1 s2 r.no A' n c' rfl rfl rfl ?_)
      intro w4 hZ4 hG4 _
      have hE4 := below_only hE3 hG4 hE3.size (by omega)
      have hown4 := hown3'.kept hG4 (ownNe hown3' (by omega))
      go_wp2_with fail
      refine NoPanic.normal ?_
      go_wp2_with fail
      refine bodyPost_ret (res_cell_tmp Try.results20 _ _ _ rfl hZ4 Try.underlying30 infoPk rfl) rfl ?_
      exact ⟨hE4, .inr ⟨HT.out, _, _, by rw [HP.out]; rfl, own_mono hown4 (by omega)⟩⟩
  · have HC := Sl.mk hC
    have HT := Sl.mk (show backF s1 s2 a l = checkF s1 s2 a l by unfold backF; rw [if_pos hC])
    have hne' : (((checkF s1 s2 a l : Nat) : Int) != 0) = true := by simpa using hC
    obtain ⟨E, hE⟩ : ∃ E, ((checkF s1 s2 a l : Nat) : Int) = E := ⟨_, rfl⟩
    have HEE := Sl.mk hE
    rw [hE] at hne' ⊢
    clear hC hE
    go_wp2_with (refine st_pk hZ1 rfl (.tmp 2) (.tmp 10) rfl ⟨#[]⟩ ⟨#[]⟩ 0 none 0 0 rfl rfl rfl ?_)
    intro w3 hZ3 hG3 _
    have hE3 := below_only hE1 hG3 hE1.size (by omega)
    go_wp2_with fail
    refine bodyPost_ret (res_cell_tmp Try.results20 _ _ _ rfl hZ3 Try.underlying30 infoPk rfl) rfl ?_
    exact ⟨hE3, .inl ⟨by rw [HT.out]; exact HC.out, by rw [HT.out, HEE.out]; rfl⟩⟩

end Go.Proofs.Ytkmdhmnjohlnaaa
