/-
  The contract of next: the next token, or why there is none.
-/
import Derived.Test.YtegekeeffpfpjaaLexSize
namespace Go.Proofs.Ytegekeeffpfpjaa
open Go.RowKit

def zeroTok : Value := .agg #[.int .i64 0, .string ⟨#[]⟩, .int .i64 0]
def longB (n k : Nat) : Bool := decide (60 < n) || (k == 1 && decide (9 < n))

def NextPost (w : World) (g : Nat) (s : ByteArray) (a ln : Nat) (e : Ending) (w' : World) : Prop :=
  ∃ a' l' : Nat, a ≤ a' ∧ a' ≤ s.size ∧ ln ≤ l' ∧ l' + a ≤ ln + a' ∧ skipL false (s.data.toList.drop a) ln = (s.data.toList.drop a', l') ∧ w.grownBy w' (some g) ∧
    ((a' = s.size ∧ e = .returned (.tuple #[zeroTok, .int .i64 4]) ∧ Rd w' g s a' l') ∨
     (a' < s.size ∧ (sizeL (s.data.toList.drop a')).1 = 0 ∧ e = .returned (.tuple #[zeroTok, .int .i64 3]) ∧ Rd w' g s a' l') ∨
     (a' < s.size ∧ (sizeL (s.data.toList.drop a')).1 ≠ 0 ∧ longB (sizeL (s.data.toList.drop a')).1 (sizeL (s.data.toList.drop a')).2 = true ∧ e = .returned (.tuple #[zeroTok, .int .i64 2]) ∧ Rd w' g s a' l') ∨
     (a' < s.size ∧ (sizeL (s.data.toList.drop a')).1 ≠ 0 ∧ longB (sizeL (s.data.toList.drop a')).1 (sizeL (s.data.toList.drop a')).2 = false ∧
       e = .returned (.tuple #[.agg #[.int .i64 (sizeL (s.data.toList.drop a')).2, .string (s.extract a' (a' + (sizeL (s.data.toList.drop a')).1)), .int .i64 l'], .int .i64 0]) ∧
       Rd w' g s (a' + (sizeL (s.data.toList.drop a')).1) l'))

theorem slice_ok (s : ByteArray) (b n : Nat) (h : b + n ≤ s.size) (w : World) :
    (Instr.slice 9 (.string s) (some (.int .i64 (b : Int))) (some (.int .i64 ((b : Int) + (n : Int)))) none).run Try.prog w = .ok (.string (s.extract b (b + n))) w := by
  rw [run_slice_string_if w 9 s .i64 .i64 (b : Int) ((b : Int) + (n : Int)) Try.underlying9, if_pos ⟨by omega, by omega⟩, if_pos ⟨by omega, by omega⟩]
  have e : ((b : Int) + (n : Int)).toNat = b + n := by omega
  rw [e]; rfl
theorem long_no1 {n k : Nat} (h : longB n k = false) : n ≤ 60 := by unfold longB at h; simp at h; omega
theorem long_no2 {n k : Nat} (h : longB n k = false) (hk : k = 1) : n ≤ 9 := by subst hk; unfold longB at h; simp at h; omega
theorem long_yes {n k : Nat} (h : longB n k = true) (hb : ¬ 60 < n) : k = 1 ∧ 9 < n := by unfold longB at h; simp at h; omega
theorem cell_al3 {w : World} {p : Addr} {v : Value} (o : Obj) (h : w.cell? p = some v) : (w.alloc o).cell? p = some v :=
  cell_later ((Below.refl w.heap.size w).alloc (Nat.le_refl _) o) h
theorem s3_alloc {w : World} {p0 p1 p2 : Addr} {a0 a1 a2 : Value} (o : Obj) (h : w.cell? p0 = some a0 ∧ w.cell? p1 = some a1 ∧ w.cell? p2 = some a2) : (w.alloc o).cell? p0 = some a0 ∧ (w.alloc o).cell? p1 = some a1 ∧ (w.alloc o).cell? p2 = some a2 :=
  ⟨cell_al3 o h.1, cell_al3 o h.2.1, cell_al3 o h.2.2⟩
theorem wordL_le (l : List UInt8) : (wordL l).1 ≤ l.length := by
  have h1 := runL_le isInn l
  have h2 := runL_le isNam (l.drop (runL isInn l + 1))
  rw [List.length_drop] at h2
  unfold wordL
  split
  · split
    · simp; omega
    · split <;> simp <;> omega
  · exact h1
theorem sizeL_le (l : List UInt8) (hl : 0 < l.length) : (sizeL l).1 ≤ l.length := by
  have h1 := runL_le isDig l
  have h2 := runL_le isPat l
  have h3 := wordL_le l
  unfold sizeL
  split
  · exact h3
  split
  · exact h1
  split
  · exact h2
  split
  · exact hl
  · exact Nat.zero_le _

set_option maxHeartbeats 4000000 in
theorem next_any (g : Nat) (s : ByteArray) (a ln : Nat) (w : World) (hR : Rd w g s a ln) (ha : a ≤ s.size) (hm : s.size ≤ 1000000) (hln : ln ≤ 1000000) :
    Calls Try.prog 14 #[.pointer (some ⟨g, 0, none⟩)] w (NextPost w g s a ln) := by
  have hs : s.size ≤ 9223372036854775807 := by omega
  have hgl : g < w.heap.size := Blk.lt hR
  go_enter Try.func14, Try.ntmps14
  go_wp2_with fail
  refine (skip_any g s a ln _ (Blk.alloc hR _) ha hm hln).mono ?_
  rintro e w1 ⟨rfl, b, l, h1, h2, h3, h4, hsk, hR1, hG1⟩
  have HS := hide hsk
  have hZ : Blk w1 w.heap.size 28 #[.int .i64 0, .string ⟨#[]⟩, .int .i64 0] := blk_only (Blk.new w _ _) hG1 (by omega)
  have hG := only_trans (only_alloc (only_refl w (some g)) _) hG1
  clear hsk hR hG1
  by_cases hlt : b < s.size
  · have hd : decide (b < s.size) = true := by simpa using hlt
    go_wp2_with fail
    refine (left_any g s b l _ hR1).mono ?_
    rintro e w2 ⟨rfl, hR2, hG2⟩
    have hZ2 := blk_only hZ hG2 (by omega)
    have hG3 := only_trans hG hG2
    clear hG hG2 hR1 hZ
    go_wp2_with fail
    refine (size_any g s b l _ hR2 hlt hm).mono ?_
    rintro e w3 ⟨rfl, hR3, hG4⟩
    have hZ3 := blk_only hZ2 hG4 (by omega)
    have hG5 := only_trans hG3 hG4
    clear hG3 hG4 hR2 hZ2
    obtain ⟨n, hn⟩ : ∃ n, (sizeL (s.data.toList.drop b)).1 = n := ⟨_, rfl⟩
    obtain ⟨k, hk⟩ : ∃ k, (sizeL (s.data.toList.drop b)).2 = k := ⟨_, rfl⟩
    have hnl : b + n ≤ s.size := by
      have := sizeL_le (s.data.toList.drop b) (by rw [len_drop]; omega)
      rw [len_drop] at this; omega
    rw [hn, hk]
    have HN := hide hn
    have HK := hide hk
    clear hn hk
    obtain ⟨z0, z1, z2⟩ := hZ3.c3
    obtain ⟨y0, y1, y2⟩ := hZ3.f3
    obtain ⟨c0, c1, c2⟩ := hR3.c3
    obtain ⟨f0, f1, f2⟩ := hR3.f3
    by_cases hn0 : n = 0
    · subst hn0
      go_wp2_with fail
      refine bodyPost_ret (v := .tuple #[zeroTok, .int .i64 3]) (res_cell_tmp Try.results14 _ _ _ rfl (blk_set3 hZ3) Try.underlying28 (by kernel_rfl) rfl) rfl ?_
      exact ⟨b, l, h1, h2, h3, h4, HS.out, only_setNew (only_setNew (only_setNew hG5 (Nat.le_refl _) _ _) (Nat.le_refl _) _ _) (Nat.le_refl _) _ _, .inr (.inl ⟨hlt, HN.out, rfl, blk_far3 hR3 (by omega) _ _ _ _ _ _⟩)⟩
    · have hn0' : ((n : Int) == 0) = false := by simp; omega
      cases hlo : longB n k
      · have HL := hide hlo
        have q1 : ((60 : Int) < (n : Int)) = False := by have := long_no1 hlo; simp; omega
        cases q2 : ((k : Int) == 1)
        · clear hlo
          have hg3 : g < w3.heap.size := Blk.lt hR3
          have hz3 := hZ3.lt
          have hgz : g ≠ w.heap.size := by omega
          have hS3 := And.intro c0 (And.intro c1 c2)
          have hw : IntKind.i64.wrap ((b : Int) + (n : Int)) = (b : Int) + (n : Int) := IntWalk.i64_in _ (by omega)
          have hsl := slice_ok s b n hnl
          go_wp2_with fail
          go_region_held3 (fun w' => w'.cell? ⟨g, 0, none⟩ = some (.string s) ∧ w'.cell? ⟨g, 1, none⟩ = some (.int .i64 b) ∧ w'.cell? ⟨g, 2, none⟩ = some (.int .i64 l)) (first | assumption | exact s3_alloc _ (by assumption) | exact s3_alloc (w := w3) _ hS3 | go_simp) (fail)
          go_wp2_with fail
          refine bodyPost_ret (v := .tuple #[.agg #[.int .i64 k, .string (s.extract b (b + n)), .int .i64 l], .int .i64 0]) (res_cell_tmp Try.results14 _ _ _ rfl (Blk.drew (Blk.alloc (blk_set3 (hZ3.far (p := ⟨g, 1, none⟩) (Ne.symm hgz) _)) _)) Try.underlying28 (by kernel_rfl) rfl) rfl ?_
          exact ⟨b, l, h1, h2, h3, h4, HS.out, only_drew (only_alloc (only_setNew (only_setNew (only_setNew (only_setCell hG5 _ _) (Nat.le_refl _) _ _) (Nat.le_refl _) _ _) (Nat.le_refl _) _ _) _),
            .inr (.inr (.inr ⟨hlt, by rw [HN.out]; exact hn0, by rw [HN.out, HK.out]; exact HL.out, by rw [HN.out, HK.out], by rw [HN.out]; exact Blk.drew (Blk.alloc (blk_far3 (Rd.setA hR3 (a' := b + n) (by omega)) hgz _ _ _ _ _ _) _)⟩))⟩
        · have q3 : ((9 : Int) < (n : Int)) = False := by have := long_no2 hlo (by simp at q2; omega); simp; omega
          clear hlo
          have hg3 : g < w3.heap.size := Blk.lt hR3
          have hz3 := hZ3.lt
          have hgz : g ≠ w.heap.size := by omega
          have hS3 := And.intro c0 (And.intro c1 c2)
          have hw : IntKind.i64.wrap ((b : Int) + (n : Int)) = (b : Int) + (n : Int) := IntWalk.i64_in _ (by omega)
          have hsl := slice_ok s b n hnl
          go_wp2_with fail
          go_region_held3 (fun w' => w'.cell? ⟨g, 0, none⟩ = some (.string s) ∧ w'.cell? ⟨g, 1, none⟩ = some (.int .i64 b) ∧ w'.cell? ⟨g, 2, none⟩ = some (.int .i64 l)) (first | assumption | exact s3_alloc _ (by assumption) | exact s3_alloc (w := w3) _ hS3 | go_simp) (fail)
          go_wp2_with fail
          refine bodyPost_ret (v := .tuple #[.agg #[.int .i64 k, .string (s.extract b (b + n)), .int .i64 l], .int .i64 0]) (res_cell_tmp Try.results14 _ _ _ rfl (Blk.drew (Blk.alloc (blk_set3 (hZ3.far (p := ⟨g, 1, none⟩) (Ne.symm hgz) _)) _)) Try.underlying28 (by kernel_rfl) rfl) rfl ?_
          exact ⟨b, l, h1, h2, h3, h4, HS.out, only_drew (only_alloc (only_setNew (only_setNew (only_setNew (only_setCell hG5 _ _) (Nat.le_refl _) _ _) (Nat.le_refl _) _ _) (Nat.le_refl _) _ _) _),
            .inr (.inr (.inr ⟨hlt, by rw [HN.out]; exact hn0, by rw [HN.out, HK.out]; exact HL.out, by rw [HN.out, HK.out], by rw [HN.out]; exact Blk.drew (Blk.alloc (blk_far3 (Rd.setA hR3 (a' := b + n) (by omega)) hgz _ _ _ _ _ _) _)⟩))⟩
      · have HL := hide hlo
        by_cases hbig : 60 < n
        · have q1 : (60 : Int) < (n : Int) := by omega
          clear hlo
          go_wp2_with fail
          refine bodyPost_ret (v := .tuple #[zeroTok, .int .i64 2]) (res_cell_tmp Try.results14 _ _ _ rfl (blk_set3 hZ3) Try.underlying28 (by kernel_rfl) rfl) rfl ?_
          exact ⟨b, l, h1, h2, h3, h4, HS.out, only_setNew (only_setNew (only_setNew hG5 (Nat.le_refl _) _ _) (Nat.le_refl _) _ _) (Nat.le_refl _) _ _, .inr (.inr (.inl ⟨hlt, by rw [HN.out]; exact hn0, by rw [HN.out, HK.out]; exact HL.out, rfl, blk_far3 hR3 (by omega) _ _ _ _ _ _⟩))⟩
        · have q1 : ¬ (60 : Int) < (n : Int) := by omega
          obtain ⟨hk1, hn9⟩ := long_yes hlo hbig
          have q2 : ((k : Int) == 1) = true := by simp; omega
          have q3 : (9 : Int) < (n : Int) := by omega
          clear hlo hk1
          go_wp2_with fail
          refine bodyPost_ret (v := .tuple #[zeroTok, .int .i64 2]) (res_cell_tmp Try.results14 _ _ _ rfl (blk_set3 hZ3) Try.underlying28 (by kernel_rfl) rfl) rfl ?_
          exact ⟨b, l, h1, h2, h3, h4, HS.out, only_setNew (only_setNew (only_setNew hG5 (Nat.le_refl _) _ _) (Nat.le_refl _) _ _) (Nat.le_refl _) _ _, .inr (.inr (.inl ⟨hlt, by rw [HN.out]; exact hn0, by rw [HN.out, HK.out]; exact HL.out, rfl, blk_far3 hR3 (by omega) _ _ _ _ _ _⟩))⟩
  · have hd : decide (b < s.size) = false := by simpa using hlt
    go_wp2_with fail
    refine (left_any g s b l _ hR1).mono ?_
    rintro e w2 ⟨rfl, hR2, hG2⟩
    have hZ2 := blk_only hZ hG2 (by omega)
    have hG3 := only_trans hG hG2
    clear hG hG2 hR1 hZ
    obtain ⟨z0, z1, z2⟩ := hZ2.c3
    obtain ⟨y0, y1, y2⟩ := hZ2.f3
    go_wp2_with fail
    refine bodyPost_ret (v := .tuple #[zeroTok, .int .i64 4]) (res_cell_tmp Try.results14 _ _ _ rfl (blk_set3 hZ2) Try.underlying28 (by kernel_rfl) rfl) rfl ?_
    exact ⟨b, l, h1, h2, h3, h4, HS.out, only_setNew (only_setNew (only_setNew hG3 (Nat.le_refl _) _ _) (Nat.le_refl _) _ _) (Nat.le_refl _) _ _, .inl ⟨by omega, rfl, blk_far3 hR2 (by omega) _ _ _ _ _ _⟩⟩

end Go.Proofs.Ytegekeeffpfpjaa
