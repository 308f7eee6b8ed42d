/-
  The contract of mode.Can, for every list of what is wanted.
-/
import Derived.Test.YtheffimpadccaaaDoorModeB
namespace Go.Proofs.YtheffimpadccaaaDoor
open Go.RowKit

def good (m o g who grp x : Int) : Bool := bel x 8 && (bits .andNot .i64 x (bts m o g who grp) == 0)
def canB (k m o g who grp : Int) (l : List Int) : Bool := (chk k m o g == 0) && bel who 65536 && bel grp 65536 && l.all (good m o g who grp)

theorem chk_m {k m o g : Int} (h : chk k m o g = 0) : 0 ≤ m ∧ m < 4096 := by
  unfold chk at h
  by_cases h1 : bel k 5 = false
  · simp [h1] at h
  by_cases h2 : bel m 4096 = false
  · simp [h1, h2] at h
  simpa [bel] using h2

theorem good_no1 {m o g who grp x : Int} {l : List Int} {j : Nat} (hx : l[j]? = some x) (h : good m o g who grp x = false) : l.all (good m o g who grp) = false := by
  rw [List.all_eq_false]
  exact ⟨x, List.mem_of_getElem? hx, by rw [h]; simp⟩
theorem good_f1 {m o g who grp x : Int} (h : ¬ bel x 8 = true) : good m o g who grp x = false := by simp [good, h]
theorem good_f2 {m o g who grp x : Int} (h : (bits .andNot .i64 x (bts m o g who grp) != 0) = true) : good m o g who grp x = false := by
  unfold good; simp at h ⊢; intro _; exact h
theorem good_t {m o g who grp x : Int} (h1 : bel x 8 = true) (h : (bits .andNot .i64 x (bts m o g who grp) != 0) = false) : good m o g who grp x = true := by
  unfold good; simp at h ⊢; exact ⟨h1, h⟩
theorem all_step {p : Int → Bool} {l : List Int} {j : Nat} {x : Int} (hx : l[j]? = some x) (h : ∀ y ∈ l.take j, p y = true) (hp : p x = true) : ∀ y ∈ l.take (j + 1), p y = true := by
  intro y hy
  rw [List.take_add_one, hx] at hy
  rcases List.mem_append.1 hy with hy | hy
  · exact h y hy
  · simp at hy; subst hy; exact hp
theorem all_end {p : Int → Bool} {l : List Int} {n : Nat} (hn : l.length ≤ n) (h : ∀ y ∈ l.take n, p y = true) : l.all p = true := by
  rw [List.take_of_length_le hn] at h
  exact List.all_eq_true.2 h

theorem can_no (k m o g who grp : Int) (v : Value) (w : World) (h : ((chk k m o g == 0) && bel who 65536 && bel grp 65536) = false) :
    Calls Tryd.prog 12 #[.agg #[.int .i64 k, .int .i64 m, .int .i64 o, .int .i64 g], .int .i64 who, .int .i64 grp, v] w fun e w' => e = .returned (.bool false) ∧ Below w.heap.size w w' := by
  by_cases hc : chk k m o g = 0
  · have hc' : (chk k m o g != 0) = false := by simpa using hc
    cases hw : bel who 65536
    · clear h hc
      go_enter Tryd.func12, Tryd.ntmps12
      go_wp2_with (first | (go_at_call 9; refine (below_any _ _ _).mono ?_; rintro e w' ⟨rfl, rfl⟩) | (go_at_call 15; refine (check_any _ _ _ _ _).mono ?_; rintro e w1 ⟨rfl, hb⟩))
      go_ret
      exact ⟨rfl, ((Below.refl _ _).alloc (Nat.le_refl _) _).trans (hb.mono (by simp))⟩
    · cases hg : bel grp 65536
      · clear h hc
        go_enter Tryd.func12, Tryd.ntmps12
        go_wp2_with (first | (go_at_call 9; refine (below_any _ _ _).mono ?_; rintro e w' ⟨rfl, rfl⟩) | (go_at_call 15; refine (check_any _ _ _ _ _).mono ?_; rintro e w1 ⟨rfl, hb⟩))
        go_ret
        exact ⟨rfl, ((Below.refl _ _).alloc (Nat.le_refl _) _).trans (hb.mono (by simp))⟩
      · simp [hc, hw, hg] at h
  · have hc' : (chk k m o g != 0) = true := by simpa using hc
    clear h hc
    go_enter Tryd.func12, Tryd.ntmps12
    go_wp2_with (first | (go_at_call 9; refine (below_any _ _ _).mono ?_; rintro e w' ⟨rfl, rfl⟩) | (go_at_call 15; refine (check_any _ _ _ _ _).mono ?_; rintro e w1 ⟨rfl, hb⟩))
    go_ret
    exact ⟨rfl, ((Below.refl _ _).alloc (Nat.le_refl _) _).trans (hb.mono (by simp))⟩

set_option maxHeartbeats 400000 in
theorem can_yes (k m o g who grp : Int) (l : List Int) (A : Option Addr) (n c : Nat) (w : World) (h : ((chk k m o g == 0) && bel who 65536 && bel grp 65536) = true)
    (hR : Reads w w.heap.size 1 A n (l.map (Value.int .i64))) (hn : n ≤ 9223372036854775807) :
    Calls Tryd.prog 12 #[.agg #[.int .i64 k, .int .i64 m, .int .i64 o, .int .i64 g], .int .i64 who, .int .i64 grp, .slice A n c] w fun e w' => e = .returned (.bool (l.all (good m o g who grp))) ∧ Below w.heap.size w w' := by
  simp only [Bool.and_eq_true, beq_iff_eq] at h
  obtain ⟨⟨hc, hw⟩, hg⟩ := h
  obtain ⟨hm0, hm1⟩ := chk_m hc
  have hc' : (chk k m o g != 0) = false := by simpa using hc
  clear hc
  have hl : l.length = n := by simpa using hR.1
  have hB1 : w.heap.size < w.heap.size + 1 := by omega
  rcases Nat.eq_zero_or_pos n with rfl | hpos
  · obtain rfl := List.eq_nil_of_length_eq_zero hl
    clear hR hl
    go_enter Tryd.func12, Tryd.ntmps12
    go_wp2_with (first | (go_at_call 9; refine (below_any _ _ _).mono ?_; rintro e w' ⟨rfl, rfl⟩) | (go_at_call 15; refine (check_any _ _ _ _ _).mono ?_; rintro e w1 ⟨rfl, hb⟩))
    refine wp_loop_rounds 1 ?_
    rw [rounds_succ]
    go_wp2
    go_ret
    exact ⟨rfl, ((Below.refl _ _).alloc (Nat.le_refl _) _).trans (hb.mono (by simp))⟩
  obtain ⟨ad, rfl, hadB, hcell0⟩ := hR.2 hpos
  have HL := Lib.hid hl
  clear hl hR
  have HC : Hid (∀ (j : Nat) (u : Value), (l.map (Value.int .i64))[j]? = some u → w.cell? (ad.add j) = some u) := hcell0
  clear hcell0
  go_enter Tryd.func12, Tryd.ntmps12
  go_wp2_with (first | (go_at_call 9; refine (below_any _ _ _).mono ?_; rintro e w' ⟨rfl, rfl⟩) | (go_at_call 15; refine (check_any _ _ _ _ _).mono ?_; rintro e w1 ⟨rfl, hb⟩))
  have hW : Below w.heap.size w w1 := ((Below.refl _ _).alloc (Nat.le_refl _) _).trans (hb.mono (by simp))
  have hBlk : Blk w1 w.heap.size 36 #[.int .i64 k, .int .i64 m, .int .i64 o, .int .i64 g] := (Blk.new w _ _).below hb (by simp)
  clear hb
  go_loopw [26] (fun i wr => ∃ j : Nat, j ≤ n ∧ i = .int .i64 j ∧ Hid (∀ x ∈ l.take j, good m o g who grp x = true) ∧ Blk wr w.heap.size 36 #[.int .i64 k, .int .i64 m, .int .i64 o, .int .i64 g] ∧ Below w.heap.size w wr) (fun i _ => n - (intOf i).toNat)
  case atStart => exact ⟨0, Nat.zero_le _, rfl, (fun x hx => by simp at hx), hBlk, hW⟩
  case round =>
    obtain ⟨j, hj, rfl, HG, hBk, hWr⟩ := hrel
    clear hBlk hW
    have c0 := hBk.cell 0
    have c1 := hBk.cell 1
    have c2 := hBk.cell 2
    have c3 := hBk.cell 3
    simp at c0 c1 c2 c3
    by_cases hlt : j < n
    · obtain ⟨x, hx⟩ : ∃ x, l[j]? = some x := ⟨_, List.getElem?_eq_getElem (by rw [HL.out]; exact hlt)⟩
      have hcx : wr.cell? (ad.add j) = some (.int .i64 x) := (hWr.cell (by rw [block_of_add]; exact hadB)).trans (HC.out j _ (by simp [hx]))
      have HX := Lib.hid hx
      clear hx
      go_wp2_with (first | (go_at_call 9; refine (below_any _ _ _).mono ?_; rintro e w' ⟨rfl, rfl⟩) | (go_at_call 16; refine (bits_any _ _ _ _ _ _ _ hm0 hm1).mono ?_; rintro e w1 ⟨rfl, hb⟩))
      · go_ret
        exact ⟨ret_bool (good_no1 HX.out (good_f2 (by assumption))).symm, hWr.trans (hb.mono hWr.size)⟩
      · go_roundw
        case rel => exact ⟨j + 1, by omega, by go_num, all_step HX.out HG.out (good_t (by assumption) (by assumption)), hBk.below hb hBk.lt, hWr.trans (hb.mono hWr.size)⟩
        case measure => simp [intOf]; omega
      · go_ret
        exact ⟨ret_bool (good_no1 HX.out (good_f1 (by assumption))).symm, hWr⟩
    · go_wp2
      go_ret
      obtain rfl : j = n := by omega
      exact ⟨ret_bool (all_end (by rw [HL.out]; omega) HG.out).symm, hWr⟩

theorem can_any (k m o g who grp : Int) (l : List Int) (A : Option Addr) (n c : Nat) (w : World)
    (hR : Reads w w.heap.size 1 A n (l.map (Value.int .i64))) (hn : n ≤ 9223372036854775807) :
    Calls Tryd.prog 12 #[.agg #[.int .i64 k, .int .i64 m, .int .i64 o, .int .i64 g], .int .i64 who, .int .i64 grp, .slice A n c] w fun e w' => e = .returned (.bool (canB k m o g who grp l)) ∧ Below w.heap.size w w' := by
  cases h : ((chk k m o g == 0) && bel who 65536 && bel grp 65536)
  · exact (can_no k m o g who grp _ w h).mono fun _ _ ⟨he, hb⟩ => ⟨he.trans (ret_bool (by unfold canB; rw [h]; rfl)), hb⟩
  · exact (can_yes k m o g who grp l A n c w h hR hn).mono fun _ _ ⟨he, hb⟩ => ⟨he.trans (ret_bool (by unfold canB; rw [h]; rfl)), hb⟩

theorem can_one (k m o g who grp x : Int) (N : Nat) (w : World) (h : w.cell? ⟨N, 0, none⟩ = some (.int .i64 x)) (hN : N < w.heap.size) :
    Calls Tryd.prog 12 #[.agg #[.int .i64 k, .int .i64 m, .int .i64 o, .int .i64 g], .int .i64 who, .int .i64 grp, .slice (some ⟨N, 0, none⟩) 1 1] w fun e w' => e = .returned (.bool (canB k m o g who grp [x])) ∧ Below w.heap.size w w' :=
  can_any k m o g who grp [x] _ 1 1 w (reads_cell1 h hN) (by omega)
theorem can_two (k m o g who grp x y : Int) (N : Nat) (w : World) (h : w.cell? ⟨N, 0, none⟩ = some (.int .i64 x)) (h2 : w.cell? ⟨N, 1, none⟩ = some (.int .i64 y)) (hN : N < w.heap.size) :
    Calls Tryd.prog 12 #[.agg #[.int .i64 k, .int .i64 m, .int .i64 o, .int .i64 g], .int .i64 who, .int .i64 grp, .slice (some ⟨N, 0, none⟩) 2 2] w fun e w' => e = .returned (.bool (canB k m o g who grp [x, y])) ∧ Below w.heap.size w w' :=
  can_any k m o g who grp [x, y] _ 2 2 w (reads_cell2 h h2 hN) (by omega)

theorem cell_al {w : World} {p : Addr} {v : Value} (o : Obj) (h : w.cell? p = some v) : (w.alloc o).cell? p = some v :=
  cell_later ((Below.refl w.heap.size w).alloc (Nat.le_refl _) o) h
theorem s4_alloc {w : World} {g1 : Nat} {a0 a1 a2 a3 : Value} (o : Obj) (h : w.cell? ⟨g1, 0, none⟩ = some a0 ∧ w.cell? ⟨g1, 1, none⟩ = some a1 ∧ w.cell? ⟨g1, 2, none⟩ = some a2 ∧ w.cell? ⟨g1, 3, none⟩ = some a3) : (w.alloc o).cell? ⟨g1, 0, none⟩ = some a0 ∧ (w.alloc o).cell? ⟨g1, 1, none⟩ = some a1 ∧ (w.alloc o).cell? ⟨g1, 2, none⟩ = some a2 ∧ (w.alloc o).cell? ⟨g1, 3, none⟩ = some a3 :=
  ⟨cell_al o h.1, cell_al o h.2.1, cell_al o h.2.2.1, cell_al o h.2.2.2⟩

theorem can_oneS (k m o g who grp x : Int) (N g1 : Nat) (a0 a1 a2 a3 : Value) (w : World) (h : w.cell? ⟨N, 0, none⟩ = some (.int .i64 x)) (hN : N < w.heap.size)
    (hS : w.cell? ⟨g1, 0, none⟩ = some a0 ∧ w.cell? ⟨g1, 1, none⟩ = some a1 ∧ w.cell? ⟨g1, 2, none⟩ = some a2 ∧ w.cell? ⟨g1, 3, none⟩ = some a3) :
    Calls Tryd.prog 12 #[.agg #[.int .i64 k, .int .i64 m, .int .i64 o, .int .i64 g], .int .i64 who, .int .i64 grp, .slice (some ⟨N, 0, none⟩) 1 1] w fun e w' => e = .returned (.bool (canB k m o g who grp [x])) ∧ Below w.heap.size w w' ∧
      (∀ b o, b < w.heap.size → w'.cell? ⟨b, o, none⟩ = w.cell? ⟨b, o, none⟩) ∧ w.heap.size ≤ w'.heap.size ∧ (w'.cell? ⟨g1, 0, none⟩ = some a0 ∧ w'.cell? ⟨g1, 1, none⟩ = some a1 ∧ w'.cell? ⟨g1, 2, none⟩ = some a2 ∧ w'.cell? ⟨g1, 3, none⟩ = some a3) :=
  (can_one k m o g who grp x N w h hN).mono fun _ _ ⟨he, hb⟩ => ⟨he, hb, (bcell hb).1, hb.size, cell_later hb hS.1, cell_later hb hS.2.1, cell_later hb hS.2.2.1, cell_later hb hS.2.2.2⟩

end Go.Proofs.YtheffimpadccaaaDoor
