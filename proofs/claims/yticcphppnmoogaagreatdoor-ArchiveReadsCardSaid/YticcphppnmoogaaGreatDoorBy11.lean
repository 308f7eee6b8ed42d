/-
  The contracts of package digest's small functions; words of 32 bits as natural numbers.
  The contract of spread: the 64 words of a block.
-/
import Derived.Test.YticcphppnmoogaaGreatDoorRows
import Derived.WalkKit
import Derived.WalkSpells
import Derived.WalkLawsBesides
import Derived.Test.YticcphppnmoogaaGreatDoorBy1
import Derived.Laws.BitsAllLaws
import Derived.Laws.BitsLemmas
import Derived.Test.YticcphppnmoogaaGreatDoorBy2

namespace Go.Proofs.YticcphppnmoogaaGreatDoor
open Go.RowKit

def xw (a b : Nat) : Nat := (a % 4294967296) ^^^ (b % 4294967296)
def ow (a b : Nat) : Nat := (a % 4294967296) ||| (b % 4294967296)
def nw (a b : Nat) : Nat := (a % 4294967296) &&& (b % 4294967296)
def aw (a b : Nat) : Nat := (a + b) % 4294967296
def dw (a k : Nat) : Nat := a / 2 ^ k
def lw (a k : Nat) : Nat := a * 2 ^ k % 4294967296
def rotw (x n : Nat) : Nat := ow (dw x n) (lw x (32 - n))

theorem ofInt32 (a : Nat) : (BitVec.ofInt 32 (a : Int)).toNat = a % 4294967296 := by
  rw [BitVec.ofInt_natCast, BitVec.toNat_ofNat]
theorem wrap_u32 (a : Nat) (h : a < 4294967296) : IntKind.u32.wrap (a : Int) = a := by
  rw [IntKind.wrap_u32]; omega
theorem bits_xor (a b : Nat) : bits .xor .u32 (a : Int) (b : Int) = ((xw a b : Nat) : Int) := by
  show IntKind.u32.wrap ((BitVec.ofInt 32 (a : Int) ^^^ BitVec.ofInt 32 (b : Int)).toNat : Int) = _
  rw [BitVec.toNat_xor, ofInt32, ofInt32]
  exact wrap_u32 _ (Nat.xor_lt_two_pow (n := 32) (Nat.mod_lt _ (by decide)) (Nat.mod_lt _ (by decide)))
theorem bits_or (a b : Nat) : bits .or .u32 (a : Int) (b : Int) = ((ow a b : Nat) : Int) := by
  show IntKind.u32.wrap ((BitVec.ofInt 32 (a : Int) ||| BitVec.ofInt 32 (b : Int)).toNat : Int) = _
  rw [BitVec.toNat_or, ofInt32, ofInt32]
  exact wrap_u32 _ (Nat.or_lt_two_pow (n := 32) (Nat.mod_lt _ (by decide)) (Nat.mod_lt _ (by decide)))
theorem bits_and (a b : Nat) : bits .and .u32 (a : Int) (b : Int) = ((nw a b : Nat) : Int) := by
  show IntKind.u32.wrap ((BitVec.ofInt 32 (a : Int) &&& BitVec.ofInt 32 (b : Int)).toNat : Int) = _
  rw [BitVec.toNat_and, ofInt32, ofInt32]
  exact wrap_u32 _ (Nat.and_lt_two_pow (n := 32) _ (Nat.mod_lt _ (by decide)))
theorem add_u32 (a b : Nat) : IntKind.u32.wrap ((a : Int) + (b : Int)) = ((aw a b : Nat) : Int) := by
  rw [IntKind.wrap_u32]; unfold aw; omega
theorem add_u32' (a b : Nat) : ((a : Int) + (b : Int)) % 4294967296 = ((aw a b : Nat) : Int) := by
  unfold aw; omega

theorem spin_any (x n : Nat) (w : World) (h0 : 1 ≤ n) (h1 : n ≤ 31) :
    Calls Tryz.prog 115 #[.int .u32 x, .int .i64 n] w fun e w' => e = .returned (.int .u32 (rotw x n)) ∧ ∃ k, w' = w.drewN k := by
  have hr : bits .or .u32 ((x : Int) / 2 ^ n) ((x : Int) * 2 ^ ((32 : Int) - (n : Int)).toNat % 4294967296) = ((rotw x n : Nat) : Int) := by
    have e1 : (x : Int) / 2 ^ n = ((dw x n : Nat) : Int) := by unfold dw; simp
    have e2 : (x : Int) * 2 ^ ((32 : Int) - (n : Int)).toNat % 4294967296 = ((lw x (32 - n) : Nat) : Int) := by
      rw [show ((32 : Int) - (n : Int)).toNat = 32 - n from by omega]; unfold lw; simp
    rw [e1, e2, bits_or]; rfl
  have HR := hide hr
  clear hr
  go_enter Tryz.func115, Tryz.ntmps115
  go_wp2_with fail
  go_quiet (fail)
  go_wp2_with fail
  go_ret
  refine ⟨?_, nq, rfl⟩
  rw [← HR.out]
  simp

theorem spin_i (x : Nat) (m : Int) (w : World) (h0 : 1 ≤ m) (h1 : m ≤ 31) :
    Calls Tryz.prog 115 #[.int .u32 x, .int .i64 m] w fun e w' => e = .returned (.int .u32 (rotw x m.toNat)) ∧ ∃ k, w' = w.drewN k := by
  obtain ⟨n, rfl⟩ := Int.eq_ofNat_of_zero_le (a := m) (by omega)
  exact spin_any x n w (by omega) (by omega)

end Go.Proofs.YticcphppnmoogaaGreatDoor

namespace Go.Proofs.YticcphppnmoogaaGreatDoor
open Go.RowKit
attribute [local go_sem ↓] Go.wp_at_zero Go.wp_at_succ

def u32s (l : List Nat) : List Value := l.map fun n : Nat => Value.int .u32 (n : Int)
theorem u32s_len (l : List Nat) : (u32s l).length = l.length := by simp [u32s]
def z32 (n : Nat) : List Value := List.replicate n (.int .u32 0)
def beW (R : List Nat) (i : Nat) : Nat := ow (ow (ow (lw (R.getD (4 * i) 0) 24) (lw (R.getD (4 * i + 1) 0) 16)) (lw (R.getD (4 * i + 2) 0) 8)) (R.getD (4 * i + 3) 0)
def nextW (ws : List Nat) (i : Nat) : Nat :=
  aw (aw (aw (ws.getD (i - 16) 0) (xw (xw (rotw (ws.getD (i - 15) 0) 7) (rotw (ws.getD (i - 15) 0) 18)) (dw (ws.getD (i - 15) 0) 3))) (ws.getD (i - 7) 0))
    (xw (xw (rotw (ws.getD (i - 2) 0) 17) (rotw (ws.getD (i - 2) 0) 19)) (dw (ws.getD (i - 2) 0) 10))
def spreadF (R : List Nat) : Nat → List Nat
  | 0 => []
  | i + 1 => spreadF R i ++ [if i < 16 then beW R i else nextW (spreadF R i) i]
theorem spreadF_len (R : List Nat) (i : Nat) : (spreadF R i).length = i := by
  induction i with
  | zero => rfl
  | succ i ih => simp [spreadF, ih]

theorem blk_at {w : World} {g : Nat} {t : TypeId} {l : List Value} (h : Blk w g t l.toArray) {i : Nat} {v : Value} (hv : l[i]? = some v) : w.cell? ⟨g, i, none⟩ = some v := by rw [h.cell]; simpa using hv
theorem get_u32 {l : List Nat} {r : List Value} {i : Nat} (h : i < l.length) : (u32s l ++ r)[i]? = some (.int .u32 ((l.getD i 0 : Nat) : Int)) := by
  rw [List.getElem?_append_left (by rw [u32s_len]; exact h)]
  simp [u32s, h]

theorem get_z32 {n i : Nat} (h : i < n) : (z32 n)[i]? = some (.int .u32 0) := by simp [z32, h]
theorem get_next {l : List Nat} {n : Nat} (h : l.length < n) : (u32s l ++ z32 (n - l.length))[l.length]? = some (.int .u32 0) := by
  rw [List.getElem?_append_right (by rw [u32s_len]; omega), u32s_len, Nat.sub_self, get_z32 (by omega)]
theorem set_next {l : List Nat} {n : Nat} (h : l.length < n) (x : Nat) : (u32s l ++ z32 (n - l.length)).set l.length (.int .u32 (x : Int)) = u32s (l ++ [x]) ++ z32 (n - (l.length + 1)) := by
  obtain ⟨m, hm⟩ : ∃ m, n - l.length = m + 1 := ⟨n - l.length - 1, by omega⟩
  rw [hm, show n - (l.length + 1) = m from by omega, List.set_append, if_neg (by rw [u32s_len]; omega), u32s_len, Nat.sub_self]
  simp [z32, List.replicate_succ, u32s]
theorem ow_mod (a b : Nat) : ow a (b % 4294967296) = ow a b := by unfold ow; simp
theorem be_eq (b0 b1 b2 b3 : Nat) : bits BinOp.or IntKind.u32 (bits BinOp.or IntKind.u32 (bits BinOp.or IntKind.u32 ((b0 : Int) % 4294967296 * 16777216 % 4294967296) ((b1 : Int) % 4294967296 * 65536 % 4294967296)) ((b2 : Int) % 4294967296 * 256 % 4294967296)) ((b3 : Int) % 4294967296) =
    ((ow (ow (ow (lw b0 24) (lw b1 16)) (lw b2 8)) b3 : Nat) : Int) := by
  have e0 : (b0 : Int) % 4294967296 * 16777216 % 4294967296 = ((lw b0 24 : Nat) : Int) := by unfold lw; omega
  have e1 : (b1 : Int) % 4294967296 * 65536 % 4294967296 = ((lw b1 16 : Nat) : Int) := by unfold lw; omega
  have e2 : (b2 : Int) % 4294967296 * 256 % 4294967296 = ((lw b2 8 : Nat) : Int) := by unfold lw; omega
  have e3 : (b3 : Int) % 4294967296 = ((b3 % 4294967296 : Nat) : Int) := by omega
  rw [e0, e1, e2, e3, bits_or, bits_or, bits_or, ow_mod]
theorem next_eq (b0 b1 b2 b3 : Nat) : ((b2 : Int) + bits BinOp.xor IntKind.u32 (bits BinOp.xor IntKind.u32 ((rotw b0 7 : Nat) : Int) ((rotw b0 18 : Nat) : Int)) ((b0 : Int) / 8) + (b3 : Int) + bits BinOp.xor IntKind.u32 (bits BinOp.xor IntKind.u32 ((rotw b1 17 : Nat) : Int) ((rotw b1 19 : Nat) : Int)) ((b1 : Int) / 1024)) % 4294967296 =
    ((aw (aw (aw b2 (xw (xw (rotw b0 7) (rotw b0 18)) (dw b0 3))) b3) (xw (xw (rotw b1 17) (rotw b1 19)) (dw b1 10)) : Nat) : Int) := by
  have e0 : (b0 : Int) / 8 = ((dw b0 3 : Nat) : Int) := by unfold dw; omega
  have e1 : (b1 : Int) / 1024 = ((dw b1 10 : Nat) : Int) := by unfold dw; omega
  rw [e0, e1, bits_xor, bits_xor, bits_xor, bits_xor]
  generalize xw (xw (rotw b0 7) (rotw b0 18)) (dw b0 3) = X
  generalize xw (xw (rotw b1 17) (rotw b1 19)) (dw b1 10) = Y
  unfold aw; omega
theorem set_spread {w : World} {g : Nat} {t : TypeId} {R : List Nat} {i x : Nat} (h : Blk w g t (u32s (spreadF R i) ++ z32 (64 - i)).toArray) (hi : i < 64) (hx : x = (if i < 16 then beW R i else nextW (spreadF R i) i)) :
    Blk (w.setCell ⟨g, i, none⟩ (.int .u32 (x : Int))) g t (u32s (spreadF R (i + 1)) ++ z32 (64 - (i + 1))).toArray := by
  refine blk_set _ _ _ _ i _ _ h ?_
  have := set_next (l := spreadF R i) (n := 64) (by rw [spreadF_len]; omega) x
  rw [spreadF_len] at this
  rw [List.setIfInBounds_toArray, this, hx]
  rfl
theorem info64 : (Tryz.prog.info? 162).map (·.size) = some 64 := by kernel_rfl
theorem u32s_one (l : List Nat) : ∀ v ∈ u32s l, v.oneCell' = true := by
  intro v hv
  simp only [u32s, List.mem_map] at hv
  obtain ⟨n, -, rfl⟩ := hv
  rfl

set_option maxRecDepth 100000 in
set_option maxHeartbeats 4000000 in
theorem spread_any (g o c : Nat) (R : List Nat) (w : World) (hc : ∀ k, k < 64 → w.cell? ⟨g, o + k, none⟩ = some (.int .u8 ((R.getD k 0 : Nat) : Int))) (hcc : 64 ≤ c) (hcm : c ≤ 9223372036854775807) :
    Calls Tryz.prog 113 #[.slice (some ⟨g, o, none⟩) 64 c] w fun e w' => e = .returned (.agg (u32s (spreadF R 64)).toArray) ∧ Below w.heap.size w w' := by
  have hB0 : Blk (w.alloc (.cells (z32 64).toArray 162)) w.heap.size 162 (z32 64).toArray := Blk.new w _ _
  have hglt : g < w.heap.size := by
    have := hc 0 (by omega)
    exact cell_lt' this
  go_enter Tryz.func113, Tryz.ntmps113
  go_wp2_with fail
  go_loopw [8] (fun v8 wr => ∃ i : Nat, i ≤ 64 ∧ v8 = .int .i64 i ∧ Blk wr w.heap.size 162 (z32 64).toArray ∧ Blk wr (w.heap.size + 1) 162 (u32s (spreadF R i) ++ z32 (64 - i)).toArray ∧ Below w.heap.size w wr) (fun v8 _ => 64 - (intOf v8).toNat)
  case atStart => exact ⟨0, by omega, rfl, Blk.alloc hB0 _, Blk.new' (by simp), below_al (below_al (Below.refl _ _) _) _⟩
  case round =>
    obtain ⟨i, hi, rfl, hZ, hW, hB⟩ := hrel
    clear hB0
    by_cases hlt : i < 64
    · by_cases h16 : i < 16
      · have c0 := (hB.cell (p := ⟨g, o + 4 * i, none⟩) hglt).trans (hc (4 * i) (by omega))
        have c1 : wr.cell? ⟨g, o + 4 * i + 1, none⟩ = some (.int .u8 ((R.getD (4 * i + 1) 0 : Nat) : Int)) := (hB.cell (p := ⟨g, o + 4 * i + 1, none⟩) hglt).trans (hc (4 * i + 1) (by omega))
        have c2 : wr.cell? ⟨g, o + 4 * i + 2, none⟩ = some (.int .u8 ((R.getD (4 * i + 2) 0 : Nat) : Int)) := (hB.cell (p := ⟨g, o + 4 * i + 2, none⟩) hglt).trans (hc (4 * i + 2) (by omega))
        have c3 : wr.cell? ⟨g, o + 4 * i + 3, none⟩ = some (.int .u8 ((R.getD (4 * i + 3) 0 : Nat) : Int)) := (hB.cell (p := ⟨g, o + 4 * i + 3, none⟩) hglt).trans (hc (4 * i + 3) (by omega))
        have hd := blk_at hW (i := i) (v := .int .u32 0) (by have := get_next (l := spreadF R i) (n := 64) (by rw [spreadF_len]; omega); rwa [spreadF_len] at this)
        have hf := hW.frozen i
        obtain ⟨b0, hb0⟩ : ∃ b, R.getD (4 * i) 0 = b := ⟨_, rfl⟩
        obtain ⟨b1, hb1⟩ : ∃ b, R.getD (4 * i + 1) 0 = b := ⟨_, rfl⟩
        obtain ⟨b2, hb2⟩ : ∃ b, R.getD (4 * i + 2) 0 = b := ⟨_, rfl⟩
        obtain ⟨b3, hb3⟩ : ∃ b, R.getD (4 * i + 3) 0 = b := ⟨_, rfl⟩
        rw [hb0] at c0
        rw [hb1] at c1
        rw [hb2] at c2
        rw [hb3] at c3
        have hbe : beW R i = ow (ow (ow (lw b0 24) (lw b1 16)) (lw b2 8)) b3 := by unfold beW; rw [hb0, hb1, hb2, hb3]
        have HBE := hide hbe
        clear hbe hb0 hb1 hb2 hb3
        go_wp2_with fail
        rw [show 4 * i + 4 - 4 * i = 4 from by omega]
        refine wp_region_quiet_tail 24 (by kernel_rfl) (by kernel_rfl) ?_
        simp only [List.take_succ_cons, List.take_zero, List.drop_succ_cons, List.drop_zero]
        repeat (any_goals (first | go_big_quiet_step (fail) | quiet_step (fail)))
        refine wpQuiet_nil ?_
        intro _ hw'
        obtain ⟨nq, hw''⟩ := hw'
        subst hw''
        go_wp2_with fail
        go_roundw
        case rel =>
          refine ⟨i + 1, by omega, by go_num, (hZ.drewN nq).far (by simp) _, ?_, (below_drN hB nq).setCell (by simp) _⟩
          rw [be_eq, ← HBE.out]
          exact set_spread (hW.drewN nq) hlt (by rw [if_pos h16])
        case measure => simp [intOf]; omega
      · have hge : (16 : Int) ≤ (i : Int) := by omega
        have hlen := spreadF_len R i
        obtain ⟨ws, hws⟩ : ∃ ws, spreadF R i = ws := ⟨_, rfl⟩
        have hx : (if i < 16 then beW R i else nextW (spreadF R i) i) = nextW ws i := by rw [if_neg h16, hws]
        have hW2 := hW
        rw [hws] at hW2 hlen
        have c15 := blk_at hW2 (get_u32 (i := i - 15) (by omega))
        have c2 := blk_at hW2 (get_u32 (i := i - 2) (by omega))
        have c16 := blk_at hW2 (get_u32 (i := i - 16) (by omega))
        have c7 := blk_at hW2 (get_u32 (i := i - 7) (by omega))
        have hd := blk_at hW2 (i := i) (v := .int .u32 0) (by have := get_next (l := ws) (n := 64) (by omega); rwa [hlen] at this)
        have hf := hW.frozen i
        obtain ⟨b0, hb0⟩ : ∃ b, ws.getD (i - 15) 0 = b := ⟨_, rfl⟩
        obtain ⟨b1, hb1⟩ : ∃ b, ws.getD (i - 2) 0 = b := ⟨_, rfl⟩
        obtain ⟨b2, hb2⟩ : ∃ b, ws.getD (i - 16) 0 = b := ⟨_, rfl⟩
        obtain ⟨b3, hb3⟩ : ∃ b, ws.getD (i - 7) 0 = b := ⟨_, rfl⟩
        rw [hb0] at c15
        rw [hb1] at c2
        rw [hb2] at c16
        rw [hb3] at c7
        have hne : nextW ws i = aw (aw (aw b2 (xw (xw (rotw b0 7) (rotw b0 18)) (dw b0 3))) b3) (xw (xw (rotw b1 17) (rotw b1 19)) (dw b1 10)) := by unfold nextW; rw [hb0, hb1, hb2, hb3]
        have HX := hide (hne.symm.trans hx.symm)
        have h16' : ¬ (i : Int) < 16 := by omega
        clear hne hx hb0 hb1 hb2 hb3 hlen hws hW2
        go_wp2_with fail
        go_quiet (fail)
        go_wp2_with fail
        refine wp_region_quiet_tail 29 (by kernel_rfl) (by kernel_rfl) ?_
        simp only [List.take_succ_cons, List.take_zero, List.drop_succ_cons, List.drop_zero]
        repeat (any_goals (first | go_big_quiet_step ((go_at_call 115; exact quiet_add (spin_i _ _ _ (by omega) (by omega)))) | quiet_step ((go_at_call 115; exact quiet_add (spin_i _ _ _ (by omega) (by omega))))))
        refine wpQuiet_nil ?_
        intro _ hw'
        obtain ⟨nq, hw''⟩ := hw'
        subst hw''
        go_wp2_with fail
        go_roundw
        case rel =>
          refine ⟨i + 1, by omega, by go_num, (hZ.drewN _).far (by simp) _, ?_, (below_drN hB _).setCell (by simp) _⟩
          rw [next_eq, HX.out]
          exact set_spread (hW.drewN _) hlt rfl
        case measure => simp [intOf]; omega
    · obtain rfl : i = 64 := by omega
      have hlen : (u32s (spreadF R 64)).length = 64 := by rw [u32s_len, spreadF_len]
      have hW2 : Blk wr (w.heap.size + 1) 162 (u32s (spreadF R 64)).toArray := by simpa [z32] using hW
      obtain ⟨vs, hvs⟩ : ∃ vs, u32s (spreadF R 64) = vs := ⟨_, rfl⟩
      have hone : ∀ v ∈ vs, v.oneCell' = true := by rw [← hvs]; exact u32s_one _
      rw [hvs] at hlen hW2
      have HV := hide hvs
      clear hvs hW
      have HL := hide hlen
      clear hlen
      go_wp2_with (first
        | (refine wpList_load_row rfl 162 (.tmp 3) rfl (w.heap.size + 1) rfl 162 vs.toArray (0, 0) _ hW2 Tryz.underlying162 rfl (by rw [info64]; simp [HL.out]) ?_)
        | (refine wpList_store_blk rfl 162 (.tmp 2) (.tmp 82) rfl w.heap.size 0 162 (z32 64) vs hZ rfl rfl (by rw [HL.out]; simp [z32]) (by rw [info64, HL.out]) hone ?_))
      intro w2 hB2 hG2 hs2
      have hB3 : Blk w2 w.heap.size 162 vs.toArray := by
        have e : vs ++ (z32 64).drop vs.length = vs := by rw [HL.out]; simp [z32]
        rwa [e] at hB2
      have hE : Below w.heap.size w w2 := below_only hB hG2 hB.size (Nat.le_refl _)
      clear hB2 hG2 hs2
      go_wp2_with fail
      refine bodyPost_ret (v := .agg vs.toArray) (results_cell_row Tryz.results113 _ _ w.heap.size 162 vs.toArray (0, 0) _ rfl hB3 Tryz.underlying162 rfl (by rw [info64]; simp [HL.out])) rfl ?_
      exact ⟨by rw [HV.out], hE⟩

end Go.Proofs.YticcphppnmoogaaGreatDoor
