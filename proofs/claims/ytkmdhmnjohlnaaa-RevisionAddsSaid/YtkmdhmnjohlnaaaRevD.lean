/-
  The contracts of at, Find, First.
-/
import Derived.Test.YtkmdhmnjohlnaaaRevC
namespace Go.Proofs.Ytkmdhmnjohlnaaa
open Go.RowKit

theorem atc_any (r : Rv) (no : Int) (g : Nat) (w : World) (hg : g < w.heap.size) (hc : w.cell? ⟨g, 0, none⟩ = some (.int .i64 no)) :
    Calls Try.prog 42 #[.agg (rvC r).toArray, .pointer (some ⟨g, 0, none⟩)] w fun e w' => e = .returned (.bool (r.no == no)) ∧ Below w.heap.size w w' := by
  have hX := Blk.new w 36 (rvC r).toArray
  have c0 := hX.rv0
  have c1 := (World.cell?_alloc_lt w (.cells (rvC r).toArray 36) ⟨g, 0, none⟩ hg).trans hc
  clear hX hc
  go_enter Try.func42, Try.ntmps42
  go_wp2
  go_ret
  exact ⟨rfl, below_al (Below.refl _ _) _⟩

def idxR (no : Int) : List Rv → Nat
  | [] => 0
  | r :: l => if r.no = no then 0 else idxR no l + 1
def placeF (no : Int) (l : List Rv) : Int := if idxR no l < l.length then idxR no l else -1
theorem idxR_le (no : Int) : ∀ l : List Rv, idxR no l ≤ l.length
  | [] => Nat.le_refl _
  | r :: l => by unfold idxR; split <;> simp [idxR_le no l]

set_option maxHeartbeats 1000000 in
theorem index_any (no : Int) (g : Nat) (A : Option Addr) (n c : Nat) (l : List Rv) (w : World) (hn : n ≤ 1000000) (hR : Reads w w.heap.size 34 A n (revC l)) (hg : g < w.heap.size) (hc : w.cell? ⟨g, 0, none⟩ = some (.int .i64 no)) :
    Calls Try.prog 41 #[.slice A n c, .func (.func 42) #[] #[.pointer (some ⟨g, 0, none⟩)]] w fun e w' => e = .returned (.int .i64 (placeF no l)) ∧ Below w.heap.size w w' := by
  have HL := Sl.mk (reads_n hR)
  go_enter Try.func41, Try.ntmps41
  go_wp2_with fail
  go_loopw [5, 8] (fun _ s8 wr => ∃ i : Nat, i ≤ n ∧ s8 = .int .i64 i ∧ Hid (idxR no l = i + idxR no (l.drop i)) ∧ Below w.heap.size w wr) (fun _ s8 _ => n - (intOf s8).toNat)
  case atStart => exact ⟨0, Nat.zero_le _, rfl, by simp [Hid], Below.refl _ _⟩
  case round =>
    obtain ⟨i, hi, rfl, HI, hB⟩ := hrel
    by_cases hil : i < n
    · obtain ⟨r, hr⟩ : ∃ r, l[i]? = some r := ⟨_, List.getElem?_eq_getElem (by rw [HL.out]; exact hil)⟩
      obtain ⟨ad, rfl, hbl, hld, hd0⟩ := reads_load (hR.below hB) hr
      have HD := Sl.mk (drop_cons' hr)
      have hcr := (hB.cell (p := ⟨g, 0, none⟩) hg).trans hc
      have hgr := Nat.lt_of_lt_of_le hg hB.size
      clear hr
      go_wp2_with (refine wpList_load_at rfl 36 (.tmp 14) rfl _ rfl (rvC r) _ hld Try.underlying36 rfl (by rw [infoRv, rvC_len]) ?_)
      refine (atc_any r no g _ hgr hcr).mono ?_
      rintro e w2 ⟨rfl, hB2⟩
      have hE2 := below_tr hB hB2
      clear hB hld hd0 hcr
      cases eR : (r.no == no)
      · have hne : ¬ r.no = no := by simpa using eR
        have HN := Sl.mk (show idxR no l = (i + 1) + idxR no (l.drop (i + 1)) by rw [HI.out, HD.out, idxR, if_neg hne]; omega)
        clear hne
        go_wp2_with fail
        go_roundw
        case rel => exact ⟨i + 1, by omega, by go_num, HN.out, hE2⟩
        case measure => simp [intOf]; omega
      · have he : r.no = no := by simpa using eR
        have HN := Sl.mk (show placeF no l = i by
          have : idxR no l = i := by rw [HI.out, HD.out, idxR, if_pos he]; omega
          unfold placeF; rw [this, if_pos (by rw [HL.out]; exact hil)])
        clear he
        go_wp2_with fail
        go_ret
        exact ⟨by rw [HN.out]; rfl, hE2⟩
    · obtain rfl : i = n := by omega
      have HN := Sl.mk (show placeF no l = -1 by
        have h : l.drop i = [] := List.drop_of_length_le (by rw [HL.out]; omega)
        have h0 := HI.out
        rw [h] at h0
        unfold placeF; rw [if_neg (by rw [HL.out, h0]; simp [idxR])])
      go_wp2_with fail
      go_ret
      exact ⟨by rw [HN.out]; rfl, hB⟩

set_option maxHeartbeats 1000000 in
theorem at_any (s1 s2 : ByteArray) (a no : Int) (A : Option Addr) (n c : Nat) (l : List Rv) (w : World) (hn : n ≤ 1000000) (hR : Reads w w.heap.size 34 A n (revC l)) :
    Calls Try.prog 29 #[.agg #[.string s1, .string s2, .int .i64 a, .slice A n c], .int .i64 no] w fun e w' => e = .returned (.int .i64 (placeF no l)) ∧ Below w.heap.size w w' := by
  have hR1 := ((hR.alloc (Nat.le_refl _) (.cells #[.string s1, .string s2, .int .i64 a, .slice A n c] 30)).more (by simp)).alloc (Nat.le_refl _) (.cells #[.int .i64 no] 3)
  have hR2 := Sl.mk (hR1.more (B' := ((w.alloc (.cells #[.string s1, .string s2, .int .i64 a, .slice A n c] 30)).alloc (.cells #[.int .i64 no] 3)).heap.size) (by simp))
  have hE := below_al (below_al (Below.refl w.heap.size w) (.cells #[.string s1, .string s2, .int .i64 a, .slice A n c] 30)) (.cells #[.int .i64 no] 3)
  clear hR hR1
  go_enter Try.func29, Try.ntmps29
  go_wp2_with fail
  refine (index_any no (w.heap.size + 1) A n c l _ hn hR2.out (by simp) (by go_simp)).mono ?_
  rintro e w2 ⟨rfl, hB2⟩
  go_wp2_with fail
  go_ret
  exact ⟨rfl, below_tr hE hB2⟩

/-- What a walk begins with: a package that was boxed, and another block behind it. -/
theorem two_new (w : World) (s1 s2 : ByteArray) (a : Int) (A : Option Addr) (n c : Nat) (l : List Rv) (t : TypeId) (cs : Array Value) (hR : Reads w w.heap.size 34 A n (revC l)) :
    ∃ w0, (w.alloc (.cells #[.string s1, .string s2, .int .i64 a, .slice A n c] 30)).alloc (.cells cs t) = w0 ∧ Sl (Reads w0 w0.heap.size 34 A n (revC l)) ∧ Below w.heap.size w w0 ∧
      Blk w0 w.heap.size 30 #[.string s1, .string s2, .int .i64 a, .slice A n c] ∧ Blk w0 (w.heap.size + 1) t cs ∧ w0.heap.size = w.heap.size + 2 := by
  refine ⟨_, rfl, ⟨?_⟩, below_al (below_al (Below.refl _ _) _) _, (Blk.new _ _ _).alloc _, ?_, by simp⟩
  · exact (((hR.alloc (Nat.le_refl _) _).more (B' := (w.alloc (.cells #[.string s1, .string s2, .int .i64 a, .slice A n c] 30)).heap.size) (by simp)).alloc (Nat.le_refl _) _).more (by simp)
  · exact Blk.new' (by simp)

def FindPost (w : World) (no : Int) (l : List Rv) (e : Ending) (w' : World) : Prop :=
  e = .returned (.tuple #[.agg (rvC ((l[idxR no l]?).getD rv0)).toArray, .int .i64 (if idxR no l < l.length then 0 else 7)]) ∧ Below w.heap.size w w'

set_option maxHeartbeats 1000000 in
theorem find_any (s1 s2 : ByteArray) (a no : Int) (A : Option Addr) (n c : Nat) (l : List Rv) (w : World) (hn : n ≤ 1000000) (hR : Reads w w.heap.size 34 A n (revC l)) :
    Calls Try.prog 21 #[.agg #[.string s1, .string s2, .int .i64 a, .slice A n c], .int .i64 no] w (FindPost w no l) := by
  have hl := reads_n hR
  obtain ⟨w0, hw0, hR2, hE, hX, hZ0, hs0⟩ := two_new w s1 s2 a A n c l 36 #[.int .i64 0, .int .u8 0, .int .u8 0, .int .u8 0, .int .u8 0, .int .u8 0, .int .u8 0, .int .u8 0, .int .u8 0, .int .u8 0, .int .u8 0, .int .u8 0, .int .u8 0, .int .u8 0, .int .u8 0, .int .u8 0, .int .u8 0, .int .u8 0, .int .u8 0, .int .u8 0, .int .u8 0, .int .u8 0, .int .u8 0, .int .u8 0, .int .u8 0, .int .u8 0, .int .u8 0, .int .u8 0, .int .u8 0, .int .u8 0, .int .u8 0, .int .u8 0, .int .u8 0, .int .i64 0] hR
  have hZ : Blk w0 (w.heap.size + 1) 36 (rvC rv0).toArray := hZ0
  clear hR hZ0
  go_enter Try.func21, Try.ntmps21
  go_wp2_with (refine ld_pk hX rfl (.tmp 2) rfl rfl rfl ?_)
  clear hw0
  refine (at_any s1 s2 a no A n c l _ hn hR2.out).mono ?_
  rintro e w1 ⟨rfl, hB1⟩
  have hR1 := hR2.out.below hB1
  have hX1 := hX.be hB1
  have hZ1 := hZ.be hB1
  have hE1 := below_tr hE hB1
  clear hX hZ hE hR2
  obtain ⟨c0, c1, c2, c3⟩ := hX1.c4
  by_cases hi : idxR no l < l.length
  · obtain ⟨r, hr⟩ : ∃ r, l[idxR no l]? = some r := ⟨_, List.getElem?_eq_getElem hi⟩
    obtain ⟨ad, rfl, hbl, hld, hd0⟩ := reads_load hR1 hr
    have hp : placeF no l = ((idxR no l : Nat) : Int) := by unfold placeF; rw [if_pos hi]
    rw [hp]
    have HI := Sl.mk hi
    have HR := Sl.mk hr
    obtain ⟨i, hii⟩ : ∃ i, idxR no l = i := ⟨_, rfl⟩
    have hin : i < n := by omega
    rw [hii] at hld hd0 ⊢
    clear hp hi hr hd0 hii
    go_wp2_with (first | refine ld_el hld rfl (.tmp 16) rfl rfl ?_ | refine st_rv hZ1 rfl (.tmp 4) (.tmp 17) rfl r rfl rfl ?_)
    intro w2 hZ2 hG2 _
    have hE2 := below_only hE1 hG2 hE1.size (by omega)
    go_wp2_with fail
    refine bodyPost_ret (v := .tuple #[.agg (rvC r).toArray, .int .i64 0]) (res_cell_tmp Try.results21 _ _ _ rfl hZ2 Try.underlying36 (by rw [infoRv]; simp [rvC_len]) rfl) rfl ?_
    exact ⟨by rw [HR.out, if_pos HI.out]; rfl, hE2⟩
  · have hn : l[idxR no l]? = none := List.getElem?_eq_none (by omega)
    have hp : placeF no l = -1 := by unfold placeF; rw [if_neg hi]
    have HN := Sl.mk hn
    have HI := Sl.mk hi
    rw [hp]
    clear hp hn hi
    go_wp2_with (refine st_rv hZ1 rfl (.tmp 4) (.tmp 12) rfl rv0 rfl (by rfl) ?_)
    intro w2 hZ2 hG2 _
    have hE2 := below_only hE1 hG2 hE1.size (by omega)
    go_wp2_with fail
    refine bodyPost_ret (v := .tuple #[.agg (rvC rv0).toArray, .int .i64 7]) (res_cell_tmp Try.results21 _ _ _ rfl hZ2 Try.underlying36 (by rw [infoRv]; simp [rvC_len]) rfl) rfl ?_
    exact ⟨by rw [HN.out, if_neg HI.out]; rfl, hE2⟩

set_option maxHeartbeats 1000000 in
theorem first_any (s1 s2 : ByteArray) (r : Rv) (w : World) (h1 : s1.size ≤ 9223372036854775807) (h2 : s2.size ≤ 9223372036854775807) :
    Calls Try.prog 17 #[.string s1, .string s2, .agg (rvC r).toArray] w (ChkPost w s1 s2 r.no 1 [r]) := by
  obtain ⟨w0, hw0⟩ : ∃ w0, (w.alloc (.cells (rvC r).toArray 36)).alloc (.cells #[.string { data := #[] }, .string { data := #[] }, .int .i64 0, .slice none 0 0] 30) = w0 := ⟨_, rfl⟩
  have hE := below_al (below_al (Below.refl w.heap.size w) (.cells (rvC r).toArray 36)) (.cells #[.string { data := #[] }, .string { data := #[] }, .int .i64 0, .slice none 0 0] 30)
  have hX := (Blk.new w 36 (rvC r).toArray).alloc (.cells #[.string { data := #[] }, .string { data := #[] }, .int .i64 0, .slice none 0 0] 30)
  have hZ := Blk.new' (w := w.alloc (.cells (rvC r).toArray 36)) (g := w.heap.size + 1) (t := 30) (cs := #[.string { data := #[] }, .string { data := #[] }, .int .i64 0, .slice none 0 0]) (by simp)
  rw [hw0] at hE hX hZ
  go_enter Try.func17, Try.ntmps17
  have d0 := hX.rv0
  have h34 := rvC_len r
  go_wp2_with (refine ld_rv hX rfl (.tmp 5) rfl rfl ?_)
  rw [fold_rv r _ (by rfl)]
  have hs0 : w0.heap.size = w.heap.size + 2 := by rw [← hw0]; simp
  clear hw0
  have hR : Reads (w0.alloc (.cells (rvC r).toArray 36)) (w0.alloc (.cells (rvC r).toArray 36)).heap.size 34 (some ⟨w0.heap.size, 0, none⟩) 1 (revC [r]) := by
    refine ⟨by simp [revC, rvC_len], fun _ => ⟨_, rfl, by simp, fun j u hj => ?_⟩⟩
    have hadd : (⟨w0.heap.size, 0, none⟩ : Addr).add j = ⟨w0.heap.size, j, none⟩ := by unfold Addr.add; split <;> simp_all
    rw [hadd, (Blk.new w0 _ _).cell j]
    simpa [revC] using hj
  have hE1 := below_al hE (.cells (rvC r).toArray 36)
  have hZ1 := hZ.alloc (.cells (rvC r).toArray 36)
  clear hE hX hZ d0
  refine (checked_any s1 s2 r.no _ 1 1 [r] _ h1 h2 (by omega) hR).mono ?_
  rintro e w1 ⟨hB1, hpost⟩
  have hE2 := below_tr hE1 hB1
  have hZ2 := hZ1.be hB1
  rcases hpost with ⟨hC, rfl⟩ | ⟨hC, A', c', rfl, hown⟩
  · have HC := Sl.mk hC
    clear hC
    go_wp2_with (refine st_pk hZ2 rfl (.tmp 6) (.tmp 16) rfl ⟨#[]⟩ ⟨#[]⟩ 0 none 0 0 rfl rfl rfl ?_)
    intro w3 hZ3 hG3 _
    have hE3 := below_only hE2 hG3 hE2.size (by omega)
    go_wp2_with fail
    refine bodyPost_ret (res_cell_tmp Try.results17 _ _ _ rfl hZ3 Try.underlying30 infoPk rfl) rfl ?_
    exact ⟨hE3, .inl ⟨HC.out, rfl⟩⟩
  · have HC := Sl.mk hC
    clear hC
    have hown2 := own_mono (b' := w.heap.size + 2) hown (by simp; omega)
    go_wp2_with (refine st_pk hZ2 rfl (.tmp 6) (.tmp 16) rfl s1 s2 r.no A' 1 c' rfl rfl rfl ?_)
    intro w3 hZ3 hG3 _
    have hE3 := below_only hE2 hG3 hE2.size (by omega)
    have hown3 := hown2.kept hG3 (ownNe hown2 (by omega))
    go_wp2_with fail
    refine bodyPost_ret (res_cell_tmp Try.results17 _ _ _ rfl hZ3 Try.underlying30 infoPk rfl) rfl ?_
    exact ⟨hE3, .inr ⟨HC.out, _, _, rfl, own_mono hown3 (by omega)⟩⟩

end Go.Proofs.Ytkmdhmnjohlnaaa
