/-
  The contracts of package digest's small functions; words of 32 bits as natural numbers.
  The contract of spread: the 64 words of a block.
  The contract of mix: a block more.
-/
import Derived.Test.YticcphppnmoogaaDoorRows
import Derived.WalkKit
import Derived.WalkSpells
import Derived.WalkLawsBesides
import Derived.Test.YticcphppnmoogaaDoorBm1
import Derived.Laws.BitsAllLaws
import Derived.Laws.BitsLemmas
import Derived.Test.YticcphppnmoogaaDoorBm2

namespace Go.Proofs.YticcphppnmoogaaDoor
open Go.RowKit

def xw (a b : Nat) : Nat := (a % 4294967296) ^^^ (b % 4294967296)
def ow (a b : Nat) : Nat := (a % 4294967296) ||| (b % 4294967296)
def nw (a b : Nat) : Nat := (a % 4294967296) &&& (b % 4294967296)
def aw (a b : Nat) : Nat := (a + b) % 4294967296
def dw (a k : Nat) : Nat := a / 2 ^ k
def lw (a k : Nat) : Nat := a * 2 ^ k % 4294967296
def rotw (x n : Nat) : Nat := ow (dw x n) (lw x (32 - n))

theorem ofInt32 (a : Nat) : (BitVec.ofInt 32 (a : Int)).toNat = a % 4294967296 := by
  rw [BitVec.ofInt_natCast, BitVec.toNat_ofNat]
theorem wrap_u32 (a : Nat) (h : a < 4294967296) : IntKind.u32.wrap (a : Int) = a := by
  rw [IntKind.wrap_u32]; omega
theorem bits_xor (a b : Nat) : bits .xor .u32 (a : Int) (b : Int) = ((xw a b : Nat) : Int) := by
  show IntKind.u32.wrap ((BitVec.ofInt 32 (a : Int) ^^^ BitVec.ofInt 32 (b : Int)).toNat : Int) = _
  rw [BitVec.toNat_xor, ofInt32, ofInt32]
  exact wrap_u32 _ (Nat.xor_lt_two_pow (n := 32) (Nat.mod_lt _ (by decide)) (Nat.mod_lt _ (by decide)))
theorem bits_or (a b : Nat) : bits .or .u32 (a : Int) (b : Int) = ((ow a b : Nat) : Int) := by
  show IntKind.u32.wrap ((BitVec.ofInt 32 (a : Int) ||| BitVec.ofInt 32 (b : Int)).toNat : Int) = _
  rw [BitVec.toNat_or, ofInt32, ofInt32]
  exact wrap_u32 _ (Nat.or_lt_two_pow (n := 32) (Nat.mod_lt _ (by decide)) (Nat.mod_lt _ (by decide)))
theorem bits_and (a b : Nat) : bits .and .u32 (a : Int) (b : Int) = ((nw a b : Nat) : Int) := by
  show IntKind.u32.wrap ((BitVec.ofInt 32 (a : Int) &&& BitVec.ofInt 32 (b : Int)).toNat : Int) = _
  rw [BitVec.toNat_and, ofInt32, ofInt32]
  exact wrap_u32 _ (Nat.and_lt_two_pow (n := 32) _ (Nat.mod_lt _ (by decide)))
theorem add_u32 (a b : Nat) : IntKind.u32.wrap ((a : Int) + (b : Int)) = ((aw a b : Nat) : Int) := by
  rw [IntKind.wrap_u32]; unfold aw; omega
theorem add_u32' (a b : Nat) : ((a : Int) + (b : Int)) % 4294967296 = ((aw a b : Nat) : Int) := by
  unfold aw; omega

theorem spin_any (x n : Nat) (w : World) (h0 : 1 ≤ n) (h1 : n ≤ 31) :
    Calls Tryd.prog 66 #[.int .u32 x, .int .i64 n] w fun e w' => e = .returned (.int .u32 (rotw x n)) ∧ ∃ k, w' = w.drewN k := by
  have hr : bits .or .u32 ((x : Int) / 2 ^ n) ((x : Int) * 2 ^ ((32 : Int) - (n : Int)).toNat % 4294967296) = ((rotw x n : Nat) : Int) := by
    have e1 : (x : Int) / 2 ^ n = ((dw x n : Nat) : Int) := by unfold dw; simp
    have e2 : (x : Int) * 2 ^ ((32 : Int) - (n : Int)).toNat % 4294967296 = ((lw x (32 - n) : Nat) : Int) := by
      rw [show ((32 : Int) - (n : Int)).toNat = 32 - n from by omega]; unfold lw; simp
    rw [e1, e2, bits_or]; rfl
  have HR := hide hr
  clear hr
  go_enter Tryd.func66, Tryd.ntmps66
  go_wp2_with fail
  go_quiet (fail)
  go_wp2_with fail
  go_ret
  refine ⟨?_, nq, rfl⟩
  rw [← HR.out]
  simp

theorem spin_i (x : Nat) (m : Int) (w : World) (h0 : 1 ≤ m) (h1 : m ≤ 31) :
    Calls Tryd.prog 66 #[.int .u32 x, .int .i64 m] w fun e w' => e = .returned (.int .u32 (rotw x m.toNat)) ∧ ∃ k, w' = w.drewN k := by
  obtain ⟨n, rfl⟩ := Int.eq_ofNat_of_zero_le (a := m) (by omega)
  exact spin_any x n w (by omega) (by omega)

end Go.Proofs.YticcphppnmoogaaDoor

namespace Go.Proofs.YticcphppnmoogaaDoor
open Go.RowKit
attribute [local go_sem ↓] Go.wp_at_zero Go.wp_at_succ

def u32s (l : List Nat) : List Value := l.map fun n : Nat => Value.int .u32 (n : Int)
theorem u32s_len (l : List Nat) : (u32s l).length = l.length := by simp [u32s]
def z32 (n : Nat) : List Value := List.replicate n (.int .u32 0)
def beW (R : List Nat) (i : Nat) : Nat := ow (ow (ow (lw (R.getD (4 * i) 0) 24) (lw (R.getD (4 * i + 1) 0) 16)) (lw (R.getD (4 * i + 2) 0) 8)) (R.getD (4 * i + 3) 0)
def nextW (ws : List Nat) (i : Nat) : Nat :=
  aw (aw (aw (ws.getD (i - 16) 0) (xw (xw (rotw (ws.getD (i - 15) 0) 7) (rotw (ws.getD (i - 15) 0) 18)) (dw (ws.getD (i - 15) 0) 3))) (ws.getD (i - 7) 0))
    (xw (xw (rotw (ws.getD (i - 2) 0) 17) (rotw (ws.getD (i - 2) 0) 19)) (dw (ws.getD (i - 2) 0) 10))
def spreadF (R : List Nat) : Nat → List Nat
  | 0 => []
  | i + 1 => spreadF R i ++ [if i < 16 then beW R i else nextW (spreadF R i) i]
theorem spreadF_len (R : List Nat) (i : Nat) : (spreadF R i).length = i := by
  induction i with
  | zero => rfl
  | succ i ih => simp [spreadF, ih]

theorem blk_at {w : World} {g : Nat} {t : TypeId} {l : List Value} (h : Blk w g t l.toArray) {i : Nat} {v : Value} (hv : l[i]? = some v) : w.cell? ⟨g, i, none⟩ = some v := by rw [h.cell]; simpa using hv
theorem get_u32 {l : List Nat} {r : List Value} {i : Nat} (h : i < l.length) : (u32s l ++ r)[i]? = some (.int .u32 ((l.getD i 0 : Nat) : Int)) := by
  rw [List.getElem?_append_left (by rw [u32s_len]; exact h)]
  simp [u32s, h]

theorem get_z32 {n i : Nat} (h : i < n) : (z32 n)[i]? = some (.int .u32 0) := by simp [z32, h]
theorem get_next {l : List Nat} {n : Nat} (h : l.length < n) : (u32s l ++ z32 (n - l.length))[l.length]? = some (.int .u32 0) := by
  rw [List.getElem?_append_right (by rw [u32s_len]; omega), u32s_len, Nat.sub_self, get_z32 (by omega)]
theorem set_next {l : List Nat} {n : Nat} (h : l.length < n) (x : Nat) : (u32s l ++ z32 (n - l.length)).set l.length (.int .u32 (x : Int)) = u32s (l ++ [x]) ++ z32 (n - (l.length + 1)) := by
  obtain ⟨m, hm⟩ : ∃ m, n - l.length = m + 1 := ⟨n - l.length - 1, by omega⟩
  rw [hm, show n - (l.length + 1) = m from by omega, List.set_append, if_neg (by rw [u32s_len]; omega), u32s_len, Nat.sub_self]
  simp [z32, List.replicate_succ, u32s]
theorem ow_mod (a b : Nat) : ow a (b % 4294967296) = ow a b := by unfold ow; simp
theorem be_eq (b0 b1 b2 b3 : Nat) : bits BinOp.or IntKind.u32 (bits BinOp.or IntKind.u32 (bits BinOp.or IntKind.u32 ((b0 : Int) % 4294967296 * 16777216 % 4294967296) ((b1 : Int) % 4294967296 * 65536 % 4294967296)) ((b2 : Int) % 4294967296 * 256 % 4294967296)) ((b3 : Int) % 4294967296) =
    ((ow (ow (ow (lw b0 24) (lw b1 16)) (lw b2 8)) b3 : Nat) : Int) := by
  have e0 : (b0 : Int) % 4294967296 * 16777216 % 4294967296 = ((lw b0 24 : Nat) : Int) := by unfold lw; omega
  have e1 : (b1 : Int) % 4294967296 * 65536 % 4294967296 = ((lw b1 16 : Nat) : Int) := by unfold lw; omega
  have e2 : (b2 : Int) % 4294967296 * 256 % 4294967296 = ((lw b2 8 : Nat) : Int) := by unfold lw; omega
  have e3 : (b3 : Int) % 4294967296 = ((b3 % 4294967296 : Nat) : Int) := by omega
  rw [e0, e1, e2, e3, bits_or, bits_or, bits_or, ow_mod]
theorem next_eq (b0 b1 b2 b3 : Nat) : ((b2 : Int) + bits BinOp.xor IntKind.u32 (bits BinOp.xor IntKind.u32 ((rotw b0 7 : Nat) : Int) ((rotw b0 18 : Nat) : Int)) ((b0 : Int) / 8) + (b3 : Int) + bits BinOp.xor IntKind.u32 (bits BinOp.xor IntKind.u32 ((rotw b1 17 : Nat) : Int) ((rotw b1 19 : Nat) : Int)) ((b1 : Int) / 1024)) % 4294967296 =
    ((aw (aw (aw b2 (xw (xw (rotw b0 7) (rotw b0 18)) (dw b0 3))) b3) (xw (xw (rotw b1 17) (rotw b1 19)) (dw b1 10)) : Nat) : Int) := by
  have e0 : (b0 : Int) / 8 = ((dw b0 3 : Nat) : Int) := by unfold dw; omega
  have e1 : (b1 : Int) / 1024 = ((dw b1 10 : Nat) : Int) := by unfold dw; omega
  rw [e0, e1, bits_xor, bits_xor, bits_xor, bits_xor]
  generalize xw (xw (rotw b0 7) (rotw b0 18)) (dw b0 3) = X
  generalize xw (xw (rotw b1 17) (rotw b1 19)) (dw b1 10) = Y
  unfold aw; omega
theorem set_spread {w : World} {g : Nat} {t : TypeId} {R : List Nat} {i x : Nat} (h : Blk w g t (u32s (spreadF R i) ++ z32 (64 - i)).toArray) (hi : i < 64) (hx : x = (if i < 16 then beW R i else nextW (spreadF R i) i)) :
    Blk (w.setCell ⟨g, i, none⟩ (.int .u32 (x : Int))) g t (u32s (spreadF R (i + 1)) ++ z32 (64 - (i + 1))).toArray := by
  refine blk_set _ _ _ _ i _ _ h ?_
  have := set_next (l := spreadF R i) (n := 64) (by rw [spreadF_len]; omega) x
  rw [spreadF_len] at this
  rw [List.setIfInBounds_toArray, this, hx]
  rfl
theorem info64 : (Tryd.prog.info? 110).map (·.size) = some 64 := by kernel_rfl
theorem u32s_one (l : List Nat) : ∀ v ∈ u32s l, v.oneCell' = true := by
  intro v hv
  simp only [u32s, List.mem_map] at hv
  obtain ⟨n, -, rfl⟩ := hv
  rfl

set_option maxRecDepth 100000 in
set_option maxHeartbeats 4000000 in
theorem spread_any (g o c : Nat) (R : List Nat) (w : World) (hc : ∀ k, k < 64 → w.cell? ⟨g, o + k, none⟩ = some (.int .u8 ((R.getD k 0 : Nat) : Int))) (hcc : 64 ≤ c) (hcm : c ≤ 9223372036854775807) :
    Calls Tryd.prog 64 #[.slice (some ⟨g, o, none⟩) 64 c] w fun e w' => e = .returned (.agg (u32s (spreadF R 64)).toArray) ∧ Below w.heap.size w w' := by
  have hB0 : Blk (w.alloc (.cells (z32 64).toArray 110)) w.heap.size 110 (z32 64).toArray := Blk.new w _ _
  have hglt : g < w.heap.size := by
    have := hc 0 (by omega)
    exact cell_lt' this
  go_enter Tryd.func64, Tryd.ntmps64
  go_wp2_with fail
  go_loopw [8] (fun v8 wr => ∃ i : Nat, i ≤ 64 ∧ v8 = .int .i64 i ∧ Blk wr w.heap.size 110 (z32 64).toArray ∧ Blk wr (w.heap.size + 1) 110 (u32s (spreadF R i) ++ z32 (64 - i)).toArray ∧ Below w.heap.size w wr) (fun v8 _ => 64 - (intOf v8).toNat)
  case atStart => exact ⟨0, by omega, rfl, Blk.alloc hB0 _, Blk.new' (by simp), below_al (below_al (Below.refl _ _) _) _⟩
  case round =>
    obtain ⟨i, hi, rfl, hZ, hW, hB⟩ := hrel
    clear hB0
    by_cases hlt : i < 64
    · by_cases h16 : i < 16
      · have c0 := (hB.cell (p := ⟨g, o + 4 * i, none⟩) hglt).trans (hc (4 * i) (by omega))
        have c1 : wr.cell? ⟨g, o + 4 * i + 1, none⟩ = some (.int .u8 ((R.getD (4 * i + 1) 0 : Nat) : Int)) := (hB.cell (p := ⟨g, o + 4 * i + 1, none⟩) hglt).trans (hc (4 * i + 1) (by omega))
        have c2 : wr.cell? ⟨g, o + 4 * i + 2, none⟩ = some (.int .u8 ((R.getD (4 * i + 2) 0 : Nat) : Int)) := (hB.cell (p := ⟨g, o + 4 * i + 2, none⟩) hglt).trans (hc (4 * i + 2) (by omega))
        have c3 : wr.cell? ⟨g, o + 4 * i + 3, none⟩ = some (.int .u8 ((R.getD (4 * i + 3) 0 : Nat) : Int)) := (hB.cell (p := ⟨g, o + 4 * i + 3, none⟩) hglt).trans (hc (4 * i + 3) (by omega))
        have hd := blk_at hW (i := i) (v := .int .u32 0) (by have := get_next (l := spreadF R i) (n := 64) (by rw [spreadF_len]; omega); rwa [spreadF_len] at this)
        have hf := hW.frozen i
        obtain ⟨b0, hb0⟩ : ∃ b, R.getD (4 * i) 0 = b := ⟨_, rfl⟩
        obtain ⟨b1, hb1⟩ : ∃ b, R.getD (4 * i + 1) 0 = b := ⟨_, rfl⟩
        obtain ⟨b2, hb2⟩ : ∃ b, R.getD (4 * i + 2) 0 = b := ⟨_, rfl⟩
        obtain ⟨b3, hb3⟩ : ∃ b, R.getD (4 * i + 3) 0 = b := ⟨_, rfl⟩
        rw [hb0] at c0
        rw [hb1] at c1
        rw [hb2] at c2
        rw [hb3] at c3
        have hbe : beW R i = ow (ow (ow (lw b0 24) (lw b1 16)) (lw b2 8)) b3 := by unfold beW; rw [hb0, hb1, hb2, hb3]
        have HBE := hide hbe
        clear hbe hb0 hb1 hb2 hb3
        go_wp2_with fail
        rw [show 4 * i + 4 - 4 * i = 4 from by omega]
        refine wp_region_quiet_tail 24 (by kernel_rfl) (by kernel_rfl) ?_
        simp only [List.take_succ_cons, List.take_zero, List.drop_succ_cons, List.drop_zero]
        repeat (any_goals (first | go_big_quiet_step (fail) | quiet_step (fail)))
        refine wpQuiet_nil ?_
        intro _ hw'
        obtain ⟨nq, hw''⟩ := hw'
        subst hw''
        go_wp2_with fail
        go_roundw
        case rel =>
          refine ⟨i + 1, by omega, by go_num, (hZ.drewN nq).far (by simp) _, ?_, (below_drN hB nq).setCell (by simp) _⟩
          rw [be_eq, ← HBE.out]
          exact set_spread (hW.drewN nq) hlt (by rw [if_pos h16])
        case measure => simp [intOf]; omega
      · have hge : (16 : Int) ≤ (i : Int) := by omega
        have hlen := spreadF_len R i
        obtain ⟨ws, hws⟩ : ∃ ws, spreadF R i = ws := ⟨_, rfl⟩
        have hx : (if i < 16 then beW R i else nextW (spreadF R i) i) = nextW ws i := by rw [if_neg h16, hws]
        have hW2 := hW
        rw [hws] at hW2 hlen
        have c15 := blk_at hW2 (get_u32 (i := i - 15) (by omega))
        have c2 := blk_at hW2 (get_u32 (i := i - 2) (by omega))
        have c16 := blk_at hW2 (get_u32 (i := i - 16) (by omega))
        have c7 := blk_at hW2 (get_u32 (i := i - 7) (by omega))
        have hd := blk_at hW2 (i := i) (v := .int .u32 0) (by have := get_next (l := ws) (n := 64) (by omega); rwa [hlen] at this)
        have hf := hW.frozen i
        obtain ⟨b0, hb0⟩ : ∃ b, ws.getD (i - 15) 0 = b := ⟨_, rfl⟩
        obtain ⟨b1, hb1⟩ : ∃ b, ws.getD (i - 2) 0 = b := ⟨_, rfl⟩
        obtain ⟨b2, hb2⟩ : ∃ b, ws.getD (i - 16) 0 = b := ⟨_, rfl⟩
        obtain ⟨b3, hb3⟩ : ∃ b, ws.getD (i - 7) 0 = b := ⟨_, rfl⟩
        rw [hb0] at c15
        rw [hb1] at c2
        rw [hb2] at c16
        rw [hb3] at c7
        have hne : nextW ws i = aw (aw (aw b2 (xw (xw (rotw b0 7) (rotw b0 18)) (dw b0 3))) b3) (xw (xw (rotw b1 17) (rotw b1 19)) (dw b1 10)) := by unfold nextW; rw [hb0, hb1, hb2, hb3]
        have HX := hide (hne.symm.trans hx.symm)
        have h16' : ¬ (i : Int) < 16 := by omega
        clear hne hx hb0 hb1 hb2 hb3 hlen hws hW2
        go_wp2_with fail
        go_quiet (fail)
        go_wp2_with fail
        refine wp_region_quiet_tail 29 (by kernel_rfl) (by kernel_rfl) ?_
        simp only [List.take_succ_cons, List.take_zero, List.drop_succ_cons, List.drop_zero]
        repeat (any_goals (first | go_big_quiet_step ((go_at_call 66; exact quiet_add (spin_i _ _ _ (by omega) (by omega)))) | quiet_step ((go_at_call 66; exact quiet_add (spin_i _ _ _ (by omega) (by omega))))))
        refine wpQuiet_nil ?_
        intro _ hw'
        obtain ⟨nq, hw''⟩ := hw'
        subst hw''
        go_wp2_with fail
        go_roundw
        case rel =>
          refine ⟨i + 1, by omega, by go_num, (hZ.drewN _).far (by simp) _, ?_, (below_drN hB _).setCell (by simp) _⟩
          rw [next_eq, HX.out]
          exact set_spread (hW.drewN _) hlt rfl
        case measure => simp [intOf]; omega
    · obtain rfl : i = 64 := by omega
      have hlen : (u32s (spreadF R 64)).length = 64 := by rw [u32s_len, spreadF_len]
      have hW2 : Blk wr (w.heap.size + 1) 110 (u32s (spreadF R 64)).toArray := by simpa [z32] using hW
      obtain ⟨vs, hvs⟩ : ∃ vs, u32s (spreadF R 64) = vs := ⟨_, rfl⟩
      have hone : ∀ v ∈ vs, v.oneCell' = true := by rw [← hvs]; exact u32s_one _
      rw [hvs] at hlen hW2
      have HV := hide hvs
      clear hvs hW
      have HL := hide hlen
      clear hlen
      go_wp2_with (first
        | (refine wpList_load_row rfl 110 (.tmp 3) rfl (w.heap.size + 1) rfl 110 vs.toArray (0, 0) _ hW2 Tryd.underlying110 rfl (by rw [info64]; simp [HL.out]) ?_)
        | (refine wpList_store_blk rfl 110 (.tmp 2) (.tmp 82) rfl w.heap.size 0 110 (z32 64) vs hZ rfl rfl (by rw [HL.out]; simp [z32]) (by rw [info64, HL.out]) hone ?_))
      intro w2 hB2 hG2 hs2
      have hB3 : Blk w2 w.heap.size 110 vs.toArray := by
        have e : vs ++ (z32 64).drop vs.length = vs := by rw [HL.out]; simp [z32]
        rwa [e] at hB2
      have hE : Below w.heap.size w w2 := below_only hB hG2 hB.size (Nat.le_refl _)
      clear hB2 hG2 hs2
      go_wp2_with fail
      refine bodyPost_ret (v := .agg vs.toArray) (results_cell_row Tryd.results64 _ _ w.heap.size 110 vs.toArray (0, 0) _ rfl hB3 Tryd.underlying110 rfl (by rw [info64]; simp [HL.out])) rfl ?_
      exact ⟨by rw [HV.out], hE⟩

end Go.Proofs.YticcphppnmoogaaDoor

namespace Go.Proofs.YticcphppnmoogaaDoor
open Go.RowKit
attribute [local go_sem ↓] Go.wp_at_zero Go.wp_at_succ

def KT : List Nat := [1116352408, 1899447441, 3049323471, 3921009573, 961987163, 1508970993, 2453635748, 2870763221, 3624381080, 310598401, 607225278, 1426881987, 1925078388, 2162078206, 2614888103, 3248222580, 3835390401, 4022224774, 264347078, 604807628, 770255983, 1249150122, 1555081692, 1996064986, 2554220882, 2821834349, 2952996808, 3210313671, 3336571891, 3584528711, 113926993, 338241895, 666307205, 773529912, 1294757372, 1396182291, 1695183700, 1986661051, 2177026350, 2456956037, 2730485921, 2820302411, 3259730800, 3345764771, 3516065817, 3600352804, 4094571909, 275423344, 430227734, 506948616, 659060556, 883997877, 958139571, 1322822218, 1537002063, 1747873779, 1955562222, 2024104815, 2227730452, 2361852424, 2428436474, 2756734187, 3204031479, 3329325298]
def FT : List Nat := [1779033703, 3144134277, 1013904242, 2773480762, 1359893119, 2600822924, 528734635, 1541459225]
/-- The two tables, in memory. -/
def Tabs (w : World) : Prop := 1 < w.heap.size ∧ (∀ i, i < 64 → w.cell? ⟨1, i, none⟩ = some (.int .u32 ((KT.getD i 0 : Nat) : Int))) ∧ ∀ i, i < 8 → w.cell? ⟨0, i, none⟩ = some (.int .u32 ((FT.getD i 0 : Nat) : Int))
theorem Tabs.below {w w' : World} {B : Nat} (h : Tabs w) (hb : Below B w w') (hB : 1 < B) : Tabs w' :=
  ⟨Nat.lt_of_lt_of_le h.1 hb.size, fun i hi => (hb.cell (p := ⟨1, i, none⟩) (show 1 < B by omega)).trans (h.2.1 i hi), fun i hi => (hb.cell (p := ⟨0, i, none⟩) (show 0 < B by omega)).trans (h.2.2 i hi)⟩
theorem Tabs.only {w w' : World} {g : Nat} (h : Tabs w) (hb : w.grownBy w' (some g)) (hg : 1 < g) : Tabs w' :=
  ⟨Nat.lt_of_lt_of_le h.1 hb.size, fun i hi => (World.cell?_of_block (hb.block 1 (by have := h.1; omega) (by intro e; injection e with e; omega))).trans (h.2.1 i hi),
    fun i hi => (World.cell?_of_block (hb.block 0 (by have := h.1; omega) (by intro e; injection e with e; omega))).trans (h.2.2 i hi)⟩

def pos (k i : Nat) : Nat := (k + 64 - i) % 8
theorem pos_lt (k i : Nat) : pos k i < 8 := Nat.mod_lt _ (by decide)
theorem and7 : ∀ x : Fin 64, ∀ k : Fin 8, bits .and .i64 (((k.val : Nat) : Int) - ((x.val : Nat) : Int)) 7 = ((pos k.val x.val : Nat) : Int) := by decide +kernel

theorem at_any (gv gi i : Nat) (k : Int) (w : World) (hi : i < 64) (h0 : 0 ≤ k) (h1 : k ≤ 7) (hc : w.cell? ⟨gi, 0, none⟩ = some (.int .i64 i)) :
    Calls Tryd.prog 65 #[.int .i64 k, .pointer (some ⟨gv, 0, none⟩), .pointer (some ⟨gi, 0, none⟩)] w fun e w' => e = .returned (.pointer (some ⟨gv, pos k.toNat i, none⟩)) ∧ w = w' := by
  obtain ⟨n, rfl⟩ := Int.eq_ofNat_of_zero_le h0
  have hb := and7 ⟨i, hi⟩ ⟨n, by omega⟩
  have hp : pos n i < 8 := pos_lt n i
  simp only at hb
  rw [Int.toNat_natCast]
  obtain ⟨p, he⟩ : ∃ p, pos n i = p := ⟨_, rfl⟩
  rw [he] at hb hp ⊢
  clear he
  have hp' : (p : Int) < 8 := by omega
  go_enter Tryd.func65, Tryd.ntmps65
  go_wp2_with fail
  go_ret
  exact ⟨rfl, rfl⟩

def bs1 (e : Nat) : Nat := xw (xw (rotw e 6) (rotw e 11)) (rotw e 25)
def bs0 (a : Nat) : Nat := xw (xw (rotw a 2) (rotw a 13)) (rotw a 22)
def tW (x4 x5 x6 x7 rk wi : Nat) : Nat := aw (aw (aw (aw x7 (bs1 x4)) (xw x6 (nw x4 (xw x5 x6)))) rk) wi
def uW (x0 x1 x2 t : Nat) : Nat := aw (aw t (bs0 x0)) (ow (nw x0 x1) (nw x2 (ow x0 x1)))
def atV (V : List Nat) (k i : Nat) : Nat := V.getD (pos k i) 0
def stepV (V : List Nat) (i rk wi : Nat) : List Nat :=
  (V.set (pos 3 i) (aw (atV V 3 i) (tW (atV V 4 i) (atV V 5 i) (atV V 6 i) (atV V 7 i) rk wi))).set (pos 7 i)
    (uW (atV V 0 i) (atV V 1 i) (atV V 2 i) (tW (atV V 4 i) (atV V 5 i) (atV V 6 i) (atV V 7 i) rk wi))
def mixV (H Ws : List Nat) : Nat → List Nat
  | 0 => H
  | i + 1 => stepV (mixV H Ws i) i (KT.getD i 0) (Ws.getD i 0)
theorem mixV_len (H Ws : List Nat) (i : Nat) : (mixV H Ws i).length = H.length := by
  induction i with
  | zero => rfl
  | succ i ih => simp [mixV, stepV, ih]
theorem blk_u32 {w : World} {g : Nat} {t : TypeId} {V : List Nat} (h : Blk w g t (u32s V).toArray) {p : Nat} (hp : p < V.length) : w.cell? ⟨g, p, none⟩ = some (.int .u32 ((V.getD p 0 : Nat) : Int)) :=
  blk_at h (by have := get_u32 (r := []) hp; simpa using this)
theorem set_u32 {w : World} {g : Nat} {t : TypeId} {V : List Nat} (h : Blk w g t (u32s V).toArray) (p x : Nat) : Blk (w.setCell ⟨g, p, none⟩ (.int .u32 (x : Int))) g t (u32s (V.set p x)).toArray := by
  refine blk_set _ _ _ _ p _ _ h ?_
  simp [u32s]
theorem u_eq (x0 x1 x2 T : Nat) : ((T : Int) + bits BinOp.xor IntKind.u32 (bits BinOp.xor IntKind.u32 ((rotw x0 2 : Nat) : Int) ((rotw x0 13 : Nat) : Int)) ((rotw x0 22 : Nat) : Int) + bits BinOp.or IntKind.u32 (bits BinOp.and IntKind.u32 (x0 : Int) (x1 : Int)) (bits BinOp.and IntKind.u32 (x2 : Int) (bits BinOp.or IntKind.u32 (x0 : Int) (x1 : Int)))) % 4294967296 =
    ((uW x0 x1 x2 T : Nat) : Int) := by
  rw [bits_xor, bits_xor, bits_and, bits_or, bits_and, bits_or]
  unfold uW bs0
  generalize xw (xw (rotw x0 2) (rotw x0 13)) (rotw x0 22) = X
  generalize ow (nw x0 x1) (nw x2 (ow x0 x1)) = Y
  unfold aw; omega
theorem pos_ne (i : Nat) (hi : i < 64) (a b : Nat) (ha : a < 8) (hb : b < 8) (h : a ≠ b) : pos a i ≠ pos b i := by unfold pos; omega
theorem getD_set_ne' {l : List Nat} {p q x : Nat} (h : p ≠ q) : (l.set p x).getD q 0 = l.getD q 0 := by
  simp [List.getD, List.getElem?_set_ne h]
theorem t_eq (x4 x5 x6 x7 rk wi : Nat) : (((x7 : Int) + bits BinOp.xor IntKind.u32 (bits BinOp.xor IntKind.u32 ((rotw x4 6 : Nat) : Int) ((rotw x4 11 : Nat) : Int)) ((rotw x4 25 : Nat) : Int) + bits BinOp.xor IntKind.u32 (x6 : Int) (bits BinOp.and IntKind.u32 (x4 : Int) (bits BinOp.xor IntKind.u32 (x5 : Int) (x6 : Int))) + (rk : Int)) % 4294967296 + (wi : Int)) % 4294967296 =
    ((tW x4 x5 x6 x7 rk wi : Nat) : Int) := by
  rw [bits_xor, bits_xor, bits_xor, bits_and, bits_xor]
  unfold tW bs1
  generalize xw (xw (rotw x4 6) (rotw x4 11)) (rotw x4 25) = X
  generalize xw x6 (nw x4 (xw x5 x6)) = Y
  unfold aw; omega

/-- A stream's cells: the words, the rest, how many bytes. -/
def strC (H R : List Nat) (n : Nat) : List Value := u32s H ++ (u8s R ++ [.int .i64 (n : Int)])
def mixF (H R : List Nat) : List Nat := List.zipWith aw H (mixV H (spreadF R 64) 64)
theorem info8 : (Tryd.prog.info? 66).map (·.size) = some 8 := by kernel_rfl

theorem zip_get {H V R : List Nat} {n j : Nat} (hl : V.length = H.length) (hj : j < H.length) : (strC ((List.zipWith aw H V).take j ++ H.drop j) R n)[j]? = some (.int .u32 ((H.getD j 0 : Nat) : Int)) := by
  have hz : ((List.zipWith aw H V).take j).length = j := by simp; omega
  unfold strC
  rw [get_u32 (by simp; omega)]
  congr 3
  have e : ((List.zipWith aw H V).take j ++ H.drop j)[j]? = H[j]? := by
    rw [List.getElem?_append_right (by omega), hz, Nat.sub_self, List.getElem?_drop, Nat.add_zero]
  simp [List.getD, e]
theorem zip_set {w : World} {g : Nat} {t : TypeId} {H V R : List Nat} {n j : Nat} (h : Blk w g t (strC ((List.zipWith aw H V).take j ++ H.drop j) R n).toArray) (hl : V.length = H.length) (hj : j < H.length) :
    Blk (w.setCell ⟨g, j, none⟩ (.int .u32 ((aw (H.getD j 0) (V.getD j 0) : Nat) : Int))) g t (strC ((List.zipWith aw H V).take (j + 1) ++ H.drop (j + 1)) R n).toArray := by
  refine blk_set _ _ _ _ j _ _ h ?_
  have hz : (List.zipWith aw H V).length = H.length := by simp; omega
  have e : (List.zipWith aw H V).take (j + 1) ++ H.drop (j + 1) = ((List.zipWith aw H V).take j ++ H.drop j).set j (aw (H.getD j 0) (V.getD j 0)) := by
    rw [List.set_append_right _ _ (by simp; omega), List.take_succ_eq_append_getElem (by omega), List.append_assoc]
    have h2 : ((List.zipWith aw H V).take j).length = j := by simp; omega
    have e1 : (List.zipWith aw H V)[j]'(by omega) = aw (H.getD j 0) (V.getD j 0) := by simp [hj, show j < V.length by omega]
    rw [h2, Nat.sub_self, List.drop_eq_getElem_cons hj, e1, List.set_cons_zero]
    rfl
  rw [e]
  unfold strC
  rw [List.setIfInBounds_toArray, List.set_append_left _ _ (by rw [u32s_len]; simp; omega)]
  simp [u32s]

set_option maxRecDepth 100000 in
set_option maxHeartbeats 8000000 in
theorem mix_any (g n : Nat) (H R : List Nat) (w : World) (hH : H.length = 8) (hR : R.length = 64) (hg : 1 < g) (hT : Tabs w) (hS : Blk w g 69 (strC H R n).toArray) :
    Calls Tryd.prog 54 #[.pointer (some ⟨g, 0, none⟩), .slice (some ⟨g, 8, none⟩) 64 64] w fun e w' => e = .returned (.tuple #[]) ∧
      Blk w' g 69 (strC (mixF H R) R n).toArray ∧ w.grownBy w' (some g) := by
  have hgl := hS.lt
  go_enter Tryd.func54, Tryd.ntmps54
  go_wp2_with fail
  refine (spread_any g 8 64 R _ (fun k hk => by
    have h1 : (strC H R n)[8 + k]? = some (.int .u8 ((R.getD k 0 : Nat) : Int)) := by
      rw [strC, List.getElem?_append_right (by rw [u32s_len]; omega), u32s_len, hH, Nat.add_sub_cancel_left, List.getElem?_append_left (by rw [u8s_len]; omega)]
      simp [u8s, hR, hk]
    exact blk_at hS h1) (by omega) (by omega)).mono ?_
  rintro e w1 ⟨rfl, hB1⟩
  obtain ⟨Ws, hWs⟩ : ∃ Ws, spreadF R 64 = Ws := ⟨_, rfl⟩
  have hWl : (u32s Ws).length = 64 := by rw [u32s_len, ← hWs, spreadF_len]
  have HWs := Sl.mk hWs
  rw [hWs]
  clear hWs
  have hS1 := hS.below hB1 hgl
  have hT1 := hT.below hB1 hT.1
  have hHl : (u32s H).length = 8 := by rw [u32s_len, hH]
  have hdr : ((strC H R n).drop 0).take 8 = u32s H := by rw [List.drop_zero, strC, List.take_append_of_le_length (by omega), List.take_of_length_le (by omega)]
  have HWl := hide hWl
  have HHl := hide hHl
  have HH := hide hH
  have HR := hide hR
  clear hWl hH hR
  go_wp2_with ((refine wpList_store_fresh rfl 110 (.tmp 4) (.tmp 13) rfl 110 (z32 64) (u32s Ws) _ rfl rfl rfl (by rw [HWl.out]; simp [z32]) (by rw [info64, HWl.out]) (u32s_one _) ?_))
  intro w2 hW2 hB2 hs2
  have hS2 := hS1.be hB2
  have HS2 := hide hs2
  clear hs2
  go_wp2_with (first
    | (refine wpList_load_vs rfl 66 (.tmp 15) rfl g 0 8 69 (strC H R n) (u32s H) _ hS2 rfl hdr hHl Tryd.underlying66 rfl info8 ?_)
    | (refine wpList_store_fresh rfl 66 (.tmp 5) (.tmp 16) rfl 66 (z32 8) (u32s H) _ rfl rfl rfl (by rw [HHl.out]; simp [z32]) (by rw [info8, HHl.out]) (u32s_one _) ?_))
  intro w3 hV3 hB3 hs3
  have hS3 := hS2.be hB3
  have hW3 := hW2.be hB3
  have hT3 := (hT1.below hB2 (hT1.1)).below hB3 (by have := hT1.1; have := hB2.size; omega)
  have hB03 : Below w.heap.size w w3 := below_tr (below_tr hB1 hB2) hB3
  have hlw : w.heap.size ≤ w1.heap.size := hB1.size
  have hl12 : w1.heap.size < w2.heap.size := by rw [HS2.out]; omega
  have hl23 : w2.heap.size < w3.heap.size := by rw [hs3]; omega
  clear hs3 hS1 hT1 hS2 hW2 HS2 hdr hHl
  go_wp2_with fail
  go_loopw [17] (fun v17 wr => ∃ (i : Nat) (V : List Nat), i ≤ 64 ∧ v17 = .int .i64 i ∧ V.length = 8 ∧ Sl (mixV H Ws i = V) ∧ Blk wr w2.heap.size 66 (u32s V).toArray ∧ Blk wr w1.heap.size 110 (u32s Ws).toArray ∧
      Blk wr g 69 (strC H R n).toArray ∧ Tabs wr ∧ Below w.heap.size w wr ∧ w2.heap.size < wr.heap.size) (fun v17 _ => 64 - (intOf v17).toNat)
  case atStart => exact ⟨0, H, by omega, rfl, HH.out, ⟨rfl⟩, hV3, hW3, hS3, hT3, hB03, hl23⟩
  case round =>
    obtain ⟨i, V, hi, rfl, hVl, HV, hV, hW, hS, hT, hB, hl⟩ := hrel
    clear hV3 hW3 hS3 hT3 hB03 hl23
    by_cases hlt : i < 64
    · have HVl := hide hVl
      clear hVl
      go_wp2_with fail
      obtain ⟨wa, hwa⟩ : ∃ wa, wr.alloc (.cells #[.int .i64 (i : Int)] 3) = wa := ⟨_, rfl⟩
      have ci : wa.cell? ⟨wr.heap.size, 0, none⟩ = some (.int .i64 i) := by rw [← hwa]; simp
      have hVa : Blk wa w2.heap.size 66 (u32s V).toArray := by rw [← hwa]; exact hV.alloc _
      have hWa : Blk wa w1.heap.size 110 (u32s Ws).toArray := by rw [← hwa]; exact hW.alloc _
      have hSa : Blk wa g 69 (strC H R n).toArray := by rw [← hwa]; exact hS.alloc _
      have hBa : Below wr.heap.size wr wa := by rw [← hwa]; exact below_al (Below.refl _ _) _
      have hTa : Tabs wa := hT.below hBa (by omega)
      have hBa : Below w.heap.size w wa := below_tr hB hBa
      have hsa : wa.heap.size = wr.heap.size + 1 := by rw [← hwa]; simp
      rw [hwa]
      have hla : w2.heap.size < wa.heap.size := by omega
      have hlr : w2.heap.size < wr.heap.size := hl
      clear hwa hsa hV hW hS hT hB hl
      have v8 : V.length = 8 := HVl.out
      have c0 := blk_u32 hVa (p := pos 0 i) (by rw [v8]; exact pos_lt _ _)
      have c1 := blk_u32 hVa (p := pos 1 i) (by rw [v8]; exact pos_lt _ _)
      have c2 := blk_u32 hVa (p := pos 2 i) (by rw [v8]; exact pos_lt _ _)
      have c3 := blk_u32 hVa (p := pos 3 i) (by rw [v8]; exact pos_lt _ _)
      have c4 := blk_u32 hVa (p := pos 4 i) (by rw [v8]; exact pos_lt _ _)
      have c5 := blk_u32 hVa (p := pos 5 i) (by rw [v8]; exact pos_lt _ _)
      have c6 := blk_u32 hVa (p := pos 6 i) (by rw [v8]; exact pos_lt _ _)
      have c7 := blk_u32 hVa (p := pos 7 i) (by rw [v8]; exact pos_lt _ _)
      have ck := hTa.2.1 i hlt
      have cw := blk_u32 hWa (p := i) (by have := HWl.out; rw [u32s_len] at this; omega)
      obtain ⟨x0, e0⟩ : ∃ x, V.getD (pos 0 i) 0 = x := ⟨_, rfl⟩
      obtain ⟨x1, e1⟩ : ∃ x, V.getD (pos 1 i) 0 = x := ⟨_, rfl⟩
      obtain ⟨x2, e2⟩ : ∃ x, V.getD (pos 2 i) 0 = x := ⟨_, rfl⟩
      obtain ⟨x3, e3⟩ : ∃ x, V.getD (pos 3 i) 0 = x := ⟨_, rfl⟩
      obtain ⟨x4, e4⟩ : ∃ x, V.getD (pos 4 i) 0 = x := ⟨_, rfl⟩
      obtain ⟨x5, e5⟩ : ∃ x, V.getD (pos 5 i) 0 = x := ⟨_, rfl⟩
      obtain ⟨x6, e6⟩ : ∃ x, V.getD (pos 6 i) 0 = x := ⟨_, rfl⟩
      obtain ⟨x7, e7⟩ : ∃ x, V.getD (pos 7 i) 0 = x := ⟨_, rfl⟩
      obtain ⟨rk, ek⟩ : ∃ x, KT.getD i 0 = x := ⟨_, rfl⟩
      obtain ⟨wi, ew⟩ : ∃ x, Ws.getD i 0 = x := ⟨_, rfl⟩
      rw [e0] at c0
      rw [e1] at c1
      rw [e2] at c2
      rw [e3] at c3
      rw [e4] at c4
      rw [e5] at c5
      rw [e6] at c6
      rw [e7] at c7
      rw [ek] at ck
      rw [ew] at cw
      have hst : mixV H Ws (i + 1) = (V.set (pos 3 i) (aw x3 (tW x4 x5 x6 x7 rk wi))).set (pos 7 i) (uW x0 x1 x2 (tW x4 x5 x6 x7 rk wi)) := by
        show stepV (mixV H Ws i) i (KT.getD i 0) (Ws.getD i 0) = _
        rw [HV.out]
        unfold stepV atV
        rw [e0, e1, e2, e3, e4, e5, e6, e7, ek, ew]
      have E1 := hide e1
      have E2 := hide e2
      have HST := Sl.mk hst
      clear e0 e1 e2 e3 e4 e5 e6 e7 ek ew hst v8 HV
      go_quiet ((go_at_call 65; exact quiet_lf (at_any _ _ i _ _ hlt (by omega) (by omega) ci)))
      obtain ⟨q1, rfl⟩ : ∃ q, q = nq := ⟨_, rfl⟩
      go_wp2_with fail
      go_quiet ((first
        | (go_at_call 65; exact quiet_add_lf (at_any _ _ i _ _ hlt (by omega) (by omega) ci))
        | (go_at_call 66; exact quiet_add (spin_i _ _ _ (by omega) (by omega)))))
      obtain ⟨q2, rfl⟩ : ∃ q, q = nq := ⟨_, rfl⟩
      rw [t_eq]
      obtain ⟨T, hT⟩ : ∃ T, tW x4 x5 x6 x7 rk wi = T := ⟨_, rfl⟩
      have HT := hide hT
      rw [hT]
      clear hT c4 c5 c6 ck cw
      have f3 := hVa.frozen (pos 3 i)
      go_wp2_with (go_at_call 65; refine (at_any _ _ i _ _ hlt (by omega) (by omega) (by exact ci)).mono ?_; rintro e w' ⟨rfl, rfl⟩)
      rw [add_u32']
      obtain ⟨wb, hwb⟩ : ∃ wb, (wa.drewN (q1 + q2)).setCell ⟨w2.heap.size, pos 3 i, none⟩ (.int .u32 ((aw x3 T : Nat) : Int)) = wb := ⟨_, rfl⟩
      rw [hwb]
      have v8 : V.length = 8 := HVl.out
      have hVb : Blk wb w2.heap.size 66 (u32s (V.set (pos 3 i) (aw x3 T))).toArray := by rw [← hwb]; exact set_u32 (hVa.drewN _) _ _
      have hne2 : w1.heap.size ≠ w2.heap.size := by omega
      have hneg : g ≠ w2.heap.size := by have := hB1.size; omega
      have hne4 : wr.heap.size ≠ w2.heap.size := by omega
      have hGb : wa.grownBy wb (some w2.heap.size) := by rw [← hwb]; exact only_setCell (only_drewN (only_refl _ _) _) _ _
      have hWb := blk_only hWa hGb hne2
      have hSb := blk_only hSa hGb hneg
      have hTb := hTa.only hGb (by omega)
      have hBb := below_only hBa hGb (by omega) (by omega)
      have cib : wb.cell? ⟨wr.heap.size, 0, none⟩ = some (.int .i64 i) := by rw [← hwb]; exact (World.cell?_setCell_other _ _ _ _ (fun e => hne4 (by injection e with e; exact e.symm))).trans ci
      have hlb : w2.heap.size < wb.heap.size := Nat.lt_of_lt_of_le hla hGb.size
      clear hwb hVa hWa hSa hTa hBa hGb c0 c1 c2 c3 c7 f3 ci hla
      have d1 := blk_u32 hVb (p := pos 1 i) (by rw [List.length_set, v8]; exact pos_lt _ _)
      have d2 := blk_u32 hVb (p := pos 2 i) (by rw [List.length_set, v8]; exact pos_lt _ _)
      have d7 := blk_u32 hVb (p := pos 7 i) (by rw [List.length_set, v8]; exact pos_lt _ _)
      have f7 := hVb.frozen (pos 7 i)
      rw [getD_set_ne' (pos_ne i hlt 3 1 (by decide) (by decide) (by decide)), E1.out] at d1
      rw [getD_set_ne' (pos_ne i hlt 3 2 (by decide) (by decide) (by decide)), E2.out] at d2
      clear v8
      refine wp_region_quiet_tail 32 (by kernel_rfl) (by kernel_rfl) ?_
      simp only [List.take_succ_cons, List.take_zero, List.drop_succ_cons, List.drop_zero]
      repeat (any_goals (first | go_big_quiet_step ((first | (go_at_call 65; first | exact quiet_lf (at_any _ _ i _ _ hlt (by omega) (by omega) (by exact cib)) | exact quiet_add_lf (at_any _ _ i _ _ hlt (by omega) (by omega) (by exact cib))) | (go_at_call 66; first | exact Calls.quiet_of (spin_i _ _ _ (by omega) (by omega)) | exact quiet_add (spin_i _ _ _ (by omega) (by omega))))) | quiet_step ((first | (go_at_call 65; first | exact quiet_lf (at_any _ _ i _ _ hlt (by omega) (by omega) (by exact cib)) | exact quiet_add_lf (at_any _ _ i _ _ hlt (by omega) (by omega) (by exact cib))) | (go_at_call 66; first | exact Calls.quiet_of (spin_i _ _ _ (by omega) (by omega)) | exact quiet_add (spin_i _ _ _ (by omega) (by omega)))))))
      refine wpQuiet_nil ?_
      intro _ hw'
      obtain ⟨nq, hw''⟩ := hw'
      subst hw''
      go_wp2_with fail
      go_roundw
      case rel =>
        refine ⟨i + 1, (V.set (pos 3 i) (aw x3 T)).set (pos 7 i) (uW x0 x1 x2 T), by omega, by go_num, by simp [HVl.out], ⟨by rw [HST.out, HT.out]⟩, ?_, (hWb.drewN _).far (by simpa using hne2) _, (hSb.drewN _).far (by simpa using hneg) _, ?_, ?_, ?_⟩
        · rw [u_eq]
          exact set_u32 (hVb.drewN _) _ _
        · exact hTb.only (only_setCell (only_drewN (only_refl _ _) _) _ _) (by omega)
        · exact (below_drN hBb _).setCell (by simp; omega) _
        · simpa [World.setCell] using hlb
      case measure => simp [intOf]; omega
    · obtain rfl : i = 64 := by omega
      have hlen : V.length = H.length := by rw [hVl, HH.out]
      have hVg : w2.heap.size ≠ g := by omega
      have HLN := hide hlen
      have HVl := hide hVl
      clear hW hT hlen hVl
      go_wp2_with fail
      obtain ⟨wo, hwo⟩ : ∃ wo, wo = wr := ⟨_, rfl⟩
      subst hwo
      have hG0 : w.grownBy wo (some g) := only_below (only_refl _ _) hB
      go_loopw [107] (fun v107 wr => ∃ j : Nat, j ≤ 8 ∧ v107 = .int .i64 j ∧ Blk wr g 69 (strC ((List.zipWith aw H V).take j ++ H.drop j) R n).toArray ∧ Blk wr w2.heap.size 66 (u32s V).toArray ∧ w.grownBy wr (some g)) (fun v107 _ => 8 - (intOf v107).toNat)
      case atStart => exact ⟨0, by omega, rfl, hS, hV, hG0⟩
      case round =>
        obtain ⟨j, hj, rfl, hSj, hVj, hGj⟩ := hrel
        clear hS hV hG0
        by_cases hjl : j < 8
        · have cS := blk_at hSj (zip_get (R := R) (n := n) (H := H) (V := V) HLN.out (by rw [HH.out]; omega))
          have cV := blk_u32 hVj (p := j) (by rw [HVl.out]; omega)
          have fS := hSj.frozen j
          obtain ⟨x, ex⟩ : ∃ x, H.getD j 0 = x := ⟨_, rfl⟩
          obtain ⟨y, ey⟩ : ∃ y, V.getD j 0 = y := ⟨_, rfl⟩
          rw [ex] at cS
          rw [ey] at cV
          have HX := Sl.mk (And.intro ex ey)
          clear ex ey
          go_wp2_with fail
          refine wp_region_quiet_tail 11 (by kernel_rfl) (by kernel_rfl) ?_
          simp only [List.take_succ_cons, List.take_zero, List.drop_succ_cons, List.drop_zero]
          repeat (any_goals (first | go_big_quiet_step (fail) | quiet_step (fail)))
          refine wpQuiet_nil ?_
          intro _ hw'
          obtain ⟨nq, hw''⟩ := hw'
          subst hw''
          go_wp2_with fail
          go_roundw
          case rel =>
            refine ⟨j + 1, by omega, by go_num, ?_, (hVj.drewN _).far (by simpa using hVg) _, only_setCell (only_drewN hGj _) _ _⟩
            rw [add_u32', ← HX.out.1, ← HX.out.2]
            exact zip_set (hSj.drewN _) HLN.out (by rw [HH.out]; omega)
          case measure => simp [intOf]; omega
        · obtain rfl : j = 8 := by omega
          go_wp2_with fail
          go_end0
          have e : (List.zipWith aw H V).take 8 ++ H.drop 8 = mixF H R := by
            unfold mixF
            rw [HWs.out, HV.out, List.take_of_length_le (by simp [HH.out]; omega), List.drop_of_length_le (by rw [HH.out]; omega), List.append_nil]
          rw [e] at hSj
          exact ⟨rfl, hSj, hGj⟩

end Go.Proofs.YticcphppnmoogaaDoor
