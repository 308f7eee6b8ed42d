/-
  The contracts of To and Back.
-/
import Derived.Test.YtkmdhmnjohlnaaaRevE
namespace Go.Proofs.Ytkmdhmnjohlnaaa
open Go.RowKit

theorem ownNeLt {w : World} {base n size : Nat} {e : TypeId} {v : Value} {xs : List Value} (h : w.ownsRow base e size v n xs) {g : Nat} (hg : w.heap.size ≤ g) : v.ownBlock = none ∨ v.ownBlock ≠ some g := by
  rcases h.2 with ⟨rfl, _⟩ | ⟨g', cap, cur, rfl, hb, hh, _⟩
  · exact .inl rfl
  · refine .inr fun e => ?_
    have e' : g' = g := by simpa [Value.ownBlock] using e
    have : g' < w.heap.size := Blk.lt (t := _) (cs := cur) hh
    omega

/-- What a function that hands on a package comes to. -/
def PkPost (w : World) (E : Nat) (s1 s2 : ByteArray) (a : Int) (n : Nat) (l : List Rv) (e : Ending) (w' : World) : Prop :=
  Below w.heap.size w w' ∧
    ((E ≠ 0 ∧ e = .returned (.tuple #[.agg #[.string { data := #[] }, .string { data := #[] }, .int .i64 0, .slice none 0 0], .int .i64 E])) ∨
     (E = 0 ∧ ∃ A' c', e = .returned (.tuple #[.agg #[.string s1, .string s2, .int .i64 a, .slice A' n c'], .int .i64 0]) ∧ w'.ownsRow w.heap.size 36 34 (.slice A' n c') n (revC l)))

def toF (s1 s2 : ByteArray) (a no : Int) (l : List Rv) : Nat := if checkF s1 s2 a l ≠ 0 then checkF s1 s2 a l else if idxR no l < l.length then 0 else 7

set_option maxHeartbeats 4000000 in
theorem to_any (s1 s2 : ByteArray) (a no : Int) (A : Option Addr) (n c : Nat) (l : List Rv) (w : World) (h1 : s1.size ≤ 9223372036854775807) (h2 : s2.size ≤ 9223372036854775807) (hn : n ≤ 1000000) (hR : Reads w w.heap.size 34 A n (revC l)) :
    Calls Try.prog 25 #[.agg #[.string s1, .string s2, .int .i64 a, .slice A n c], .int .i64 no] w (PkPost w (toF s1 s2 a no l) s1 s2 no n l) := by
  obtain ⟨w0, hw0, hR0, hE0, hX0, hZ0, hs0⟩ := two_new w s1 s2 a A n c l 30 #[.string { data := #[] }, .string { data := #[] }, .int .i64 0, .slice none 0 0] hR
  have hl := reads_n hR
  clear hR
  go_enter Try.func25, Try.ntmps25
  go_wp2_with (refine ld_pk hX0 rfl (.tmp 2) rfl rfl rfl ?_)
  clear hw0
  refine (checked_any s1 s2 a A n c l _ h1 h2 hn hR0.out).mono ?_
  rintro e w1 ⟨hB1, hpost⟩
  have hE1 := below_tr hE0 hB1
  have hZ1 := hZ0.be hB1
  have hge1 := hB1.size
  rw [hs0] at hge1
  rcases hpost with ⟨hC, rfl⟩ | ⟨hC, A', c', rfl, hown⟩
  · have HT := Sl.mk (show toF s1 s2 a no l = checkF s1 s2 a l by unfold toF; rw [if_pos hC])
    have HC := Sl.mk hC
    have hne' : (((checkF s1 s2 a l : Nat) : Int) != 0) = true := by simpa using hC
    obtain ⟨E, hE⟩ : ∃ E, ((checkF s1 s2 a l : Nat) : Int) = E := ⟨_, rfl⟩
    have HEE := Sl.mk hE
    rw [hE] at hne' ⊢
    clear hC hE hX0 hE0 hR0 hZ0 hB1
    go_wp2_with (refine st_pkn rfl (.tmp 6) (.tmp 11) rfl ⟨#[]⟩ ⟨#[]⟩ 0 none 0 0 rfl rfl ?_)
    intro w2 hY2 hB2 hs2
    have hZ2 := hZ1.be hB2
    have hE2 := below_tr hE1 hB2
    clear hY2 hs2 hZ1 hE1
    go_wp2_with (refine st_pk hZ2 rfl (.tmp 4) (.tmp 16) rfl ⟨#[]⟩ ⟨#[]⟩ 0 none 0 0 rfl rfl rfl ?_)
    intro w3 hZ3 hG3 _
    have hE3 := below_only hE2 hG3 hE2.size (by omega)
    go_wp2_with fail
    refine bodyPost_ret (res_cell_tmp Try.results25 _ _ _ rfl hZ3 Try.underlying30 infoPk rfl) rfl ?_
    exact ⟨hE3, .inl ⟨by rw [HT.out]; exact HC.out, by rw [HT.out, HEE.out]; rfl⟩⟩
  · have HC := Sl.mk hC
    have hown1 := own_mono (b' := w.heap.size + 2) hown (by omega)
    have hne1 := ownNeLt hown1 (Nat.le_refl _)
    clear hC hX0 hE0 hR0 hZ0 hB1 hown
    go_wp2_with (refine st_pkn rfl (.tmp 6) (.tmp 11) rfl s1 s2 a A' n c' rfl rfl ?_)
    intro w2 hY2 hB2 hs2
    have hZ2 := hZ1.be hB2
    have hE2 := below_tr hE1 hB2
    have hown2 := own_below hown1 hB2
    have hR2 := (Reads.of_own hown2)
    clear hs2 hZ1 hE1
    go_wp2_with (refine ld_pk hY2 rfl (.tmp 6) rfl rfl rfl ?_)
    refine (at_any s1 s2 a no A' n c' l _ hn hR2).mono ?_
    rintro e w3 ⟨rfl, hB3⟩
    have hZ3 := hZ2.be hB3
    have hY3 := hY2.be hB3
    have hE3 := below_tr hE2 hB3
    have hown3 := own_below hown2 hB3
    clear hZ2 hY2 hE2 hown2 hR2
    by_cases hi : idxR no l < l.length
    · have HT := Sl.mk (show toF s1 s2 a no l = 0 by unfold toF; rw [if_neg (by rw [HC.out]; simp), if_pos hi])
      have hp : placeF no l = ((idxR no l : Nat) : Int) := by unfold placeF; rw [if_pos hi]
      rw [hp]
      obtain ⟨i, hii⟩ : ∃ i, idxR no l = i := ⟨_, rfl⟩
      rw [hii]
      clear hp hi hii
      have f2 := hY3.frozen 2
      obtain ⟨c0, c1, c2, c3⟩ := hY3.c4
      have hY4 : Blk (w3.setCell ⟨w1.heap.size, 2, none⟩ (.int .i64 no)) w1.heap.size 30 #[.string s1, .string s2, .int .i64 no, .slice A' n c'] := blk_set _ _ _ _ 2 _ _ hY3 rfl
      have hZ4 := hZ3.far (p := ⟨w1.heap.size, 2, none⟩) (by show _ ≠ w1.heap.size; omega) (.int .i64 no)
      have hE4 : Below w.heap.size w (w3.setCell ⟨w1.heap.size, 2, none⟩ (.int .i64 no)) := below_only hE3 (only_setCell (only_refl _ _) 2 _) hE3.size (by omega)
      have hown4 := hown3.kept (only_setCell (only_refl w3 (some w1.heap.size)) 2 (.int .i64 no)) hne1
      go_wp2_with (first | refine ld_pk hY4 rfl (.tmp 6) rfl rfl rfl ?_ | refine st_pk hZ4 rfl (.tmp 4) (.tmp 26) rfl s1 s2 no A' n c' rfl rfl rfl ?_)
      intro w5 hZ5 hG5 _
      have hE5 := below_only hE4 hG5 hE4.size (by omega)
      have hown5 := hown4.kept hG5 (ownNe hown4 (by omega))
      go_wp2_with fail
      refine bodyPost_ret (res_cell_tmp Try.results25 _ _ _ rfl hZ5 Try.underlying30 infoPk rfl) rfl ?_
      exact ⟨hE5, .inr ⟨HT.out, _, _, rfl, own_mono hown5 (by omega)⟩⟩
    · have HT := Sl.mk (show toF s1 s2 a no l = 7 by unfold toF; rw [if_neg (by rw [HC.out]; simp), if_neg hi])
      have hp : placeF no l = -1 := by unfold placeF; rw [if_neg hi]
      rw [hp]
      clear hp hi
      go_wp2_with (refine st_pk hZ3 rfl (.tmp 4) (.tmp 23) rfl ⟨#[]⟩ ⟨#[]⟩ 0 none 0 0 rfl rfl rfl ?_)
      intro w4 hZ4 hG4 _
      have hE4 := below_only hE3 hG4 hE3.size (by omega)
      go_wp2_with fail
      refine bodyPost_ret (res_cell_tmp Try.results25 _ _ _ rfl hZ4 Try.underlying30 infoPk rfl) rfl ?_
      exact ⟨hE4, .inl ⟨by rw [HT.out]; simp, by rw [HT.out]; rfl⟩⟩

theorem to_ok (s1 s2 : ByteArray) (a no : Int) (A : Option Addr) (n c : Nat) (l : List Rv) (w : World) (h1 : s1.size ≤ 9223372036854775807) (h2 : s2.size ≤ 9223372036854775807) (hn : n ≤ 1000000) (hR : Reads w w.heap.size 34 A n (revC l)) (hF : toF s1 s2 a no l = 0) :
    Calls Try.prog 25 #[.agg #[.string s1, .string s2, .int .i64 a, .slice A n c], .int .i64 no] w fun e w' => ∃ A' c', e = .returned (.tuple #[.agg #[.string s1, .string s2, .int .i64 no, .slice A' n c'], .int .i64 0]) ∧
      w'.ownsRow w.heap.size 36 34 (.slice A' n c') n (revC l) ∧ Below w.heap.size w w' :=
  (to_any s1 s2 a no A n c l w h1 h2 hn hR).mono fun e w' ⟨hB, hp⟩ => by
    rcases hp with ⟨hne, _⟩ | ⟨_, A', c', rfl, ho⟩
    · exact absurd hF hne
    · exact ⟨A', c', rfl, ho, hB⟩

end Go.Proofs.Ytkmdhmnjohlnaaa
