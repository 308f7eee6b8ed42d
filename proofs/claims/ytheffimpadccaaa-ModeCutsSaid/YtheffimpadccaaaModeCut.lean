/-
  The contract of mode.Cut, for every list of what is dropped.
-/
import Derived.Test.YtheffimpadccaaaModeB
namespace Go.Proofs.Ytheffimpadccaaa
open Go.RowKit

def cutF (n : Int) (l : List Int) : Int := l.foldl (fun m d => bits .andNot .i64 m d) n
def cutN (n : Int) (l : List Int) : Int := if bel n 4096 = true then cutF n l else 0

theorem cut_no (n : Int) (v : Value) (w : World) (h : bel n 4096 = false) :
    Calls Try.prog 19 #[.int .i64 n, v] w fun e w' => e = .returned (.int .i64 0) ∧ w = w' := by
  go_enter Try.func19, Try.ntmps19
  go_wp2_with (go_at_call 20; refine (below_any _ _ _).mono ?_; rintro e w' ⟨rfl, rfl⟩)
  go_ret
  exact ⟨rfl, rfl⟩

theorem cut_yes (n : Int) (l : List Int) (A : Option Addr) (len c B : Nat) (w : World) (h : bel n 4096 = true)
    (hR : Reads w B 1 A len (l.map (Value.int .i64))) (hn : len ≤ 9223372036854775807) :
    Calls Try.prog 19 #[.int .i64 n, .slice A len c] w fun e w' => e = .returned (.int .i64 (cutF n l)) ∧ w = w' := by
  have hl : l.length = len := by simpa using hR.1
  rcases Nat.eq_zero_or_pos len with rfl | hpos
  · obtain rfl := List.eq_nil_of_length_eq_zero hl
    clear hR hl
    go_enter Try.func19, Try.ntmps19
    go_wp2_with (go_at_call 20; refine (below_any _ _ _).mono ?_; rintro e w' ⟨rfl, rfl⟩)
    refine wp_loop_rounds 1 ?_
    rw [rounds_succ]
    go_wp2
    go_ret
    exact ⟨rfl, rfl⟩
  obtain ⟨ad, rfl, -, hcell0⟩ := hR.2 hpos
  have HL := Lib.hid hl
  clear hl hR
  have HC : Hid (∀ (j : Nat) (u : Value), (l.map (Value.int .i64))[j]? = some u → w.cell? (ad.add j) = some u) := hcell0
  clear hcell0
  go_enter Try.func19, Try.ntmps19
  go_wp2_with (go_at_call 20; refine (below_any _ _ _).mono ?_; rintro e w' ⟨rfl, rfl⟩)
  go_loop [0, 12] (fun s i => ∃ j : Nat, j ≤ len ∧ i = .int .i64 j ∧ s = .int .i64 (cutF n (l.take j))) (fun _ i => len - (intOf i).toNat)
  case atStart => exact ⟨0, Nat.zero_le _, rfl, rfl⟩
  case round =>
    obtain ⟨j, hj, rfl, rfl⟩ := hrel
    by_cases hlt : j < len
    · obtain ⟨x, hx⟩ : ∃ x, l[j]? = some x := ⟨_, List.getElem?_eq_getElem (by rw [HL.out]; exact hlt)⟩
      have hcx : w.cell? (ad.add j) = some (.int .i64 x) := HC.out j _ (by simp [hx])
      have HX := Lib.hid hx
      clear hx
      go_wp2
      go_round
      case rel => exact ⟨j + 1, by omega, by go_num, by rw [List.take_add_one, HX.out]; simp [cutF]⟩
      case measure => simp [intOf]; omega
    · go_wp2
      go_ret
      obtain rfl : j = len := by omega
      exact ⟨ret_int (by rw [List.take_of_length_le (by rw [HL.out]; omega)]), rfl⟩

theorem cut_any (n : Int) (l : List Int) (A : Option Addr) (len c B : Nat) (w : World) (hR : Reads w B 1 A len (l.map (Value.int .i64))) (hn : len ≤ 9223372036854775807) :
    Calls Try.prog 19 #[.int .i64 n, .slice A len c] w fun e w' => e = .returned (.int .i64 (cutN n l)) ∧ w = w' := by
  cases h : bel n 4096
  · exact (cut_no n _ w h).mono fun _ _ ⟨he, hb⟩ => ⟨he.trans (ret_int (by unfold cutN; rw [h]; rfl)), hb⟩
  · exact (cut_yes n l A len c B w h hR hn).mono fun _ _ ⟨he, hb⟩ => ⟨he.trans (ret_int (by unfold cutN; rw [h]; rfl)), hb⟩

end Go.Proofs.Ytheffimpadccaaa
