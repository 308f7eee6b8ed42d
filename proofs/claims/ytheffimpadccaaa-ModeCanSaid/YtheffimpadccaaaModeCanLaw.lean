/-
  The walk of the law ModeCan.
-/
import Derived.Test.YtheffimpadccaaaModeK
import Derived.Test.YtheffimpadccaaaModeRefr
import Derived.Test.YtheffimpadccaaaWordsD
namespace Go.Proofs.Ytheffimpadccaaa
open Go.RowKit

def rall (k m o g who grp : Int) (l : List Int) : Bool := rcan k m o g who grp 0 && l.all (rcan k m o g who grp)

theorem rall_step {k m o g who grp x : Int} {l : List Int} {i : Nat} (hx : l[i]? = some x) : rall k m o g who grp (l.take (i + 1)) = (rall k m o g who grp (l.take i) && rcan k m o g who grp x) := by
  rw [List.take_add_one, hx]; simp [rall, Bool.and_assoc]

theorem can_8R {p0 p1 p2 p3 p4 p5 p6 p7 : Addr} {v0 v1 v2 v3 v4 v5 v6 v7 : Value} {B : Nat} (k m o g who grp : Int) (l : List Int) (A : Option Addr) (n c : Nat) (w : World) (hn : n ≤ 9223372036854775807)
    (hS : w.cell? p0 = some v0 ∧ w.cell? p1 = some v1 ∧ w.cell? p2 = some v2 ∧ w.cell? p3 = some v3 ∧ w.cell? p4 = some v4 ∧ w.cell? p5 = some v5 ∧ w.cell? p6 = some v6 ∧ w.cell? p7 = some v7 ∧ (Reads w B 1 A n (l.map (Value.int .i64)) ∧ B ≤ w.heap.size)) :
    Calls Try.prog 10 #[.agg #[.int .i64 k, .int .i64 m, .int .i64 o, .int .i64 g], .int .i64 who, .int .i64 grp, .slice A n c] w fun e w' => e = .returned (.bool (canB k m o g who grp l)) ∧ Below w.heap.size w w' ∧ (w'.cell? p0 = some v0 ∧ w'.cell? p1 = some v1 ∧ w'.cell? p2 = some v2 ∧ w'.cell? p3 = some v3 ∧ w'.cell? p4 = some v4 ∧ w'.cell? p5 = some v5 ∧ w'.cell? p6 = some v6 ∧ w'.cell? p7 = some v7 ∧ (Reads w' B 1 A n (l.map (Value.int .i64)) ∧ B ≤ w'.heap.size)) :=
  with8R (can_any k m o g who grp l A n c w (hS.2.2.2.2.2.2.2.2.1.more hS.2.2.2.2.2.2.2.2.2) hn) hS

set_option maxRecDepth 100000 in
set_option maxHeartbeats 4000000 in
theorem modecan_walk (k m o g who grp : Int) (l : List Int) (A : Option Addr) (b0 len c : Nat) (w : World) (hR : Reads w w.heap.size 1 A len (l.map (Value.int .i64)))
    (hlen : (b0 ≤ 10 ∧ len = b0) ∨ (10 < b0 ∧ len = 10)) (hb0 : b0 ≤ 9223372036854775807) (hbc : b0 ≤ c)
    (hplain : canB k m o g who grp l = rall k m o g who grp l) :
    Calls Try.prog 5 #[.agg #[.int .i64 k, .int .i64 m, .int .i64 o, .int .i64 g], .int .i64 who, .int .i64 grp, .slice A b0 c] w fun e w' => e = .returned (.bool true) ∧ Below w.heap.size w w' := by
  have hl : l.length = len := by simpa using hR.1
  have HL := hide hl
  clear hl
  go_enter Try.func5, Try.ntmps5
  go_wp2_with fail
  refine (toS_any _ _ _ _ _).mono ?_
  rintro e w1 ⟨rfl, hb⟩
  have hK0 := ((Keep.start w).new 23 _).be hb
  clear hb
  obtain ⟨c00, c01, c02, c03⟩ := hK0.b0.c4
  have hK := hK0.new 24 #[.int .i64 k, .int .i64 m, .int .i64 o, .int .i64 g]
  have hl0 := hK0.b0.lt
  clear hK0
  go_upto_region 2 with fail
  go_cut [3] (fun s3 wx => s3 = .slice A len c ∧ Keep w wx [(w1.heap.size, 24, #[.int .i64 k, .int .i64 m, .int .i64 o, .int .i64 g]), (w.heap.size, 23, #[.int .i64 k, .int .i64 m, .int .i64 o, .int .i64 g])])
  case first =>
    clear hR HL hplain
    rcases hlen with ⟨h1, rfl⟩ | ⟨h1, rfl⟩
    all_goals
      go_wp2
      go_meet
      exact ⟨rfl, hK⟩
  case rest =>
    obtain ⟨rfl, hK2⟩ := hcut
    have hl10 : len ≤ 10 := by omega
    have hlc : len ≤ c := by omega
    clear hlen hb0 hbc hK c00 c01 c02 c03 hl0
    obtain ⟨c00, c01, c02, c03⟩ := hK2.tl.b0.c4
    go_wp2_with fail
    refine (refcan_any _ _ _ _ _ _ _ _).mono ?_
    rintro e w2 ⟨rfl, hb⟩
    have hK3 := hK2.be hb
    clear hb hK2 c00 c01 c02 c03
    go_wp2_with fail
    go_loopw [10, 11] (fun s10 s11 wr => ∃ i : Nat, i ≤ len ∧ s11 = .int .i64 i ∧ s10 = .bool (rall k m o g who grp (l.take i)) ∧ Keep w wr [(w1.heap.size, 24, #[.int .i64 k, .int .i64 m, .int .i64 o, .int .i64 g]), (w.heap.size, 23, #[.int .i64 k, .int .i64 m, .int .i64 o, .int .i64 g])]) (fun _ s11 _ => len - (intOf s11).toNat)
    case atStart => exact ⟨0, Nat.zero_le _, rfl, by simp [rall], hK3⟩
    case round =>
      obtain ⟨i, hi, rfl, rfl, hKr⟩ := hrel
      clear hK3
      obtain ⟨c00, c01, c02, c03⟩ := hKr.tl.b0.c4
      by_cases hil : i < len
      · obtain ⟨x, hx⟩ : ∃ x, l[i]? = some x := ⟨_, List.getElem?_eq_getElem (by rw [HL.out]; exact hil)⟩
        obtain ⟨ad, u, rfl, hbl, hu, hcx⟩ := hR.at_ hil
        obtain rfl : u = .int .i64 x := by rw [List.getElem?_map, hx] at hu; simpa using hu.symm
        have hcr : wr.cell? (ad.add i) = some (.int .i64 x) := (hKr.1.cell (by rw [block_of_add]; exact hbl)).trans hcx
        have HX := hide hx
        clear hx hu hR hcx
        cases eg : rall k m o g who grp (l.take i)
        · go_wp2_with fail
          go_quiet (fail)
          go_wp2_with fail
          go_roundw
          case rel => exact ⟨i + 1, by omega, by go_num, by rw [rall_step (unhide HX), eg]; rfl, hKr.drN _⟩
          case measure => simp [intOf]; omega
        · go_wp2_with fail
          go_region_held3 (fun w' => w'.cell? ⟨w.heap.size, 0, none⟩ = some (.int .i64 k) ∧ w'.cell? ⟨w.heap.size, 1, none⟩ = some (.int .i64 m) ∧ w'.cell? ⟨w.heap.size, 2, none⟩ = some (.int .i64 o) ∧ w'.cell? ⟨w.heap.size, 3, none⟩ = some (.int .i64 g) ∧ w'.cell? (ad.add i) = some (.int .i64 x)) (first | assumption | go_simp)
            (first | (go_at_call 15; refine (with5 (p0 := ⟨w.heap.size, 0, none⟩) (v0 := (.int .i64 k)) (p1 := ⟨w.heap.size, 1, none⟩) (v1 := (.int .i64 m)) (p2 := ⟨w.heap.size, 2, none⟩) (v2 := (.int .i64 o)) (p3 := ⟨w.heap.size, 3, none⟩) (v3 := (.int .i64 g)) (p4 := (ad.add i)) (v4 := (.int .i64 x)) (refcan_any k m o g who grp x _) ?_).mono ?_; (focus assumption); rintro e w4 ⟨rfl, hb, hS⟩))
          go_wp2_with fail
          go_roundw
          case rel => exact ⟨i + 1, by omega, by go_num, by rw [rall_step (unhide HX), eg]; rfl, by repeat (first | exact hKr | refine Keep.dr ?_ | refine Keep.be ?_ (by assumption))⟩
          case measure => simp [intOf]; omega
      · obtain rfl : len = i := by omega
        have ht : l.take len = l := List.take_of_length_le (by rw [HL.out]; omega)
        rw [ht, ← hplain]
        clear hplain ht HL c00 c01 c02 c03 hi hil
        have hlm : len ≤ 9223372036854775807 := by omega
        have hS0 : wr.cell? ⟨w.heap.size, 0, none⟩ = some (.int .i64 k) ∧ wr.cell? ⟨w.heap.size, 1, none⟩ = some (.int .i64 m) ∧ wr.cell? ⟨w.heap.size, 2, none⟩ = some (.int .i64 o) ∧ wr.cell? ⟨w.heap.size, 3, none⟩ = some (.int .i64 g) ∧ wr.cell? ⟨w1.heap.size, 0, none⟩ = some (.int .i64 k) ∧ wr.cell? ⟨w1.heap.size, 1, none⟩ = some (.int .i64 m) ∧ wr.cell? ⟨w1.heap.size, 2, none⟩ = some (.int .i64 o) ∧ wr.cell? ⟨w1.heap.size, 3, none⟩ = some (.int .i64 g) ∧ (Reads wr w.heap.size 1 A len (l.map (Value.int .i64)) ∧ w.heap.size ≤ wr.heap.size) := ⟨hKr.tl.b0.cell 0, hKr.tl.b0.cell 1, hKr.tl.b0.cell 2, hKr.tl.b0.cell 3, hKr.b0.cell 0, hKr.b0.cell 1, hKr.b0.cell 2, hKr.b0.cell 3, hR.below hKr.1, hKr.1.size⟩
        go_wp2_with fail
        go_region_held3 (fun w' => w'.cell? ⟨w.heap.size, 0, none⟩ = some (.int .i64 k) ∧ w'.cell? ⟨w.heap.size, 1, none⟩ = some (.int .i64 m) ∧ w'.cell? ⟨w.heap.size, 2, none⟩ = some (.int .i64 o) ∧ w'.cell? ⟨w.heap.size, 3, none⟩ = some (.int .i64 g) ∧ w'.cell? ⟨w1.heap.size, 0, none⟩ = some (.int .i64 k) ∧ w'.cell? ⟨w1.heap.size, 1, none⟩ = some (.int .i64 m) ∧ w'.cell? ⟨w1.heap.size, 2, none⟩ = some (.int .i64 o) ∧ w'.cell? ⟨w1.heap.size, 3, none⟩ = some (.int .i64 g) ∧ (Reads w' w.heap.size 1 A len (l.map (Value.int .i64)) ∧ w.heap.size ≤ w'.heap.size)) (first | assumption | exact hS0)
          (first
            | (go_at_call 9; refine (with8R (p0 := ⟨w.heap.size, 0, none⟩) (v0 := (.int .i64 k)) (p1 := ⟨w.heap.size, 1, none⟩) (v1 := (.int .i64 m)) (p2 := ⟨w.heap.size, 2, none⟩) (v2 := (.int .i64 o)) (p3 := ⟨w.heap.size, 3, none⟩) (v3 := (.int .i64 g)) (p4 := ⟨w1.heap.size, 0, none⟩) (v4 := (.int .i64 k)) (p5 := ⟨w1.heap.size, 1, none⟩) (v5 := (.int .i64 m)) (p6 := ⟨w1.heap.size, 2, none⟩) (v6 := (.int .i64 o)) (p7 := ⟨w1.heap.size, 3, none⟩) (v7 := (.int .i64 g)) (B := w.heap.size) (size := 1) (n := len) (A := A) (xs := l.map (Value.int .i64)) (known_any _) ?_).mono ?_; (focus assumption); rintro e w4 ⟨rfl, hb, hS⟩)
            | (go_at_call 8; refine (with8R (p0 := ⟨w.heap.size, 0, none⟩) (v0 := (.int .i64 k)) (p1 := ⟨w.heap.size, 1, none⟩) (v1 := (.int .i64 m)) (p2 := ⟨w.heap.size, 2, none⟩) (v2 := (.int .i64 o)) (p3 := ⟨w.heap.size, 3, none⟩) (v3 := (.int .i64 g)) (p4 := ⟨w1.heap.size, 0, none⟩) (v4 := (.int .i64 k)) (p5 := ⟨w1.heap.size, 1, none⟩) (v5 := (.int .i64 m)) (p6 := ⟨w1.heap.size, 2, none⟩) (v6 := (.int .i64 o)) (p7 := ⟨w1.heap.size, 3, none⟩) (v7 := (.int .i64 g)) (B := w.heap.size) (size := 1) (n := len) (A := A) (xs := l.map (Value.int .i64)) (check_any _ _ _ _ _) ?_).mono ?_; (focus assumption); rintro e w4 ⟨rfl, hb, hS⟩)
            | (go_at_call 13; refine (with8R (p0 := ⟨w.heap.size, 0, none⟩) (v0 := (.int .i64 k)) (p1 := ⟨w.heap.size, 1, none⟩) (v1 := (.int .i64 m)) (p2 := ⟨w.heap.size, 2, none⟩) (v2 := (.int .i64 o)) (p3 := ⟨w.heap.size, 3, none⟩) (v3 := (.int .i64 g)) (p4 := ⟨w1.heap.size, 0, none⟩) (v4 := (.int .i64 k)) (p5 := ⟨w1.heap.size, 1, none⟩) (v5 := (.int .i64 m)) (p6 := ⟨w1.heap.size, 2, none⟩) (v6 := (.int .i64 o)) (p7 := ⟨w1.heap.size, 3, none⟩) (v7 := (.int .i64 g)) (B := w.heap.size) (size := 1) (n := len) (A := A) (xs := l.map (Value.int .i64)) (refcheck_any _ _ _ _ _) ?_).mono ?_; (focus assumption); rintro e w4 ⟨rfl, hb, hS⟩)
            | (go_at_call 16; refine (with8R (p0 := ⟨w.heap.size, 0, none⟩) (v0 := (.int .i64 k)) (p1 := ⟨w.heap.size, 1, none⟩) (v1 := (.int .i64 m)) (p2 := ⟨w.heap.size, 2, none⟩) (v2 := (.int .i64 o)) (p3 := ⟨w.heap.size, 3, none⟩) (v3 := (.int .i64 g)) (p4 := ⟨w1.heap.size, 0, none⟩) (v4 := (.int .i64 k)) (p5 := ⟨w1.heap.size, 1, none⟩) (v5 := (.int .i64 m)) (p6 := ⟨w1.heap.size, 2, none⟩) (v6 := (.int .i64 o)) (p7 := ⟨w1.heap.size, 3, none⟩) (v7 := (.int .i64 g)) (B := w.heap.size) (size := 1) (n := len) (A := A) (xs := l.map (Value.int .i64)) (refusal_any _ _ _ _ _) ?_).mono ?_; (focus assumption); rintro e w4 ⟨rfl, hb, hS⟩)
            | (go_at_call 17; refine (with8R (p0 := ⟨w.heap.size, 0, none⟩) (v0 := (.int .i64 k)) (p1 := ⟨w.heap.size, 1, none⟩) (v1 := (.int .i64 m)) (p2 := ⟨w.heap.size, 2, none⟩) (v2 := (.int .i64 o)) (p3 := ⟨w.heap.size, 3, none⟩) (v3 := (.int .i64 g)) (p4 := ⟨w1.heap.size, 0, none⟩) (v4 := (.int .i64 k)) (p5 := ⟨w1.heap.size, 1, none⟩) (v5 := (.int .i64 m)) (p6 := ⟨w1.heap.size, 2, none⟩) (v6 := (.int .i64 o)) (p7 := ⟨w1.heap.size, 3, none⟩) (v7 := (.int .i64 g)) (B := w.heap.size) (size := 1) (n := len) (A := A) (xs := l.map (Value.int .i64)) (refrefusal_any _ _ _ _ _) ?_).mono ?_; (focus assumption); rintro e w4 ⟨rfl, hb, hS⟩)
            | (go_at_call 18; refine (with8R (p0 := ⟨w.heap.size, 0, none⟩) (v0 := (.int .i64 k)) (p1 := ⟨w.heap.size, 1, none⟩) (v1 := (.int .i64 m)) (p2 := ⟨w.heap.size, 2, none⟩) (v2 := (.int .i64 o)) (p3 := ⟨w.heap.size, 3, none⟩) (v3 := (.int .i64 g)) (p4 := ⟨w1.heap.size, 0, none⟩) (v4 := (.int .i64 k)) (p5 := ⟨w1.heap.size, 1, none⟩) (v5 := (.int .i64 m)) (p6 := ⟨w1.heap.size, 2, none⟩) (v6 := (.int .i64 o)) (p7 := ⟨w1.heap.size, 3, none⟩) (v7 := (.int .i64 g)) (B := w.heap.size) (size := 1) (n := len) (A := A) (xs := l.map (Value.int .i64)) (safe_any _ _ _ _ _) ?_).mono ?_; (focus assumption); rintro e w4 ⟨rfl, hb, hS⟩)
            | (go_at_call 10; refine (can_8R (p0 := ⟨w.heap.size, 0, none⟩) (v0 := (.int .i64 k)) (p1 := ⟨w.heap.size, 1, none⟩) (v1 := (.int .i64 m)) (p2 := ⟨w.heap.size, 2, none⟩) (v2 := (.int .i64 o)) (p3 := ⟨w.heap.size, 3, none⟩) (v3 := (.int .i64 g)) (p4 := ⟨w1.heap.size, 0, none⟩) (v4 := (.int .i64 k)) (p5 := ⟨w1.heap.size, 1, none⟩) (v5 := (.int .i64 m)) (p6 := ⟨w1.heap.size, 2, none⟩) (v6 := (.int .i64 o)) (p7 := ⟨w1.heap.size, 3, none⟩) (v7 := (.int .i64 g)) (B := w.heap.size) k m o g who grp l A len c _ hlm ?_).mono ?_; (focus assumption); rintro e w4 ⟨rfl, hb, hS⟩))
        go_wp2_with fail
        go_ret
        refine ⟨rfl, (show Keep w _ [(w1.heap.size, 24, #[.int .i64 k, .int .i64 m, .int .i64 o, .int .i64 g]), (w.heap.size, 23, #[.int .i64 k, .int .i64 m, .int .i64 o, .int .i64 g])] from ?_).1⟩
        repeat (first | exact hKr | refine Keep.dr ?_ | refine Keep.be ?_ (by assumption))

end Go.Proofs.Ytheffimpadccaaa
