/-
  The reference's Make.
  The reference's words as the program's: bits.
  The digest by blocks is the digest byte by byte (no program in sight).
-/
import Derived.Test.YticcphppnmoogaaGreatDoorBy22

namespace Go.Proofs.YticcphppnmoogaaGreatDoor
open Go.RowKit
attribute [local go_sem ↓] Go.wp_at_zero Go.wp_at_succ

def i64s (l : List Nat) : List Value := l.map fun n : Nat => Value.int .i64 (n : Int)
theorem i64s_len (l : List Nat) : (i64s l).length = l.length := by simp [i64s]
theorem i64s_app (a b : List Nat) : i64s (a ++ b) = i64s a ++ i64s b := by simp [i64s]
theorem i64s_one (l : List Nat) : ∀ v ∈ i64s l, v.oneCell' = true := by
  intro v hv
  simp only [i64s, List.mem_map] at hv
  obtain ⟨n, -, rfl⟩ := hv
  rfl
theorem get_i64 {l : List Nat} {i : Nat} (h : i < l.length) : (i64s l)[i]? = some (.int .i64 ((l.getD i 0 : Nat) : Int)) := by simp [i64s, h]
theorem set_i64 {w : World} {g : Nat} {t : TypeId} {V : List Nat} (h : Blk w g t (i64s V).toArray) (p x : Nat) : Blk (w.setCell ⟨g, p, none⟩ (.int .i64 (x : Int))) g t (i64s (V.set p x)).toArray := by
  refine blk_set _ _ _ _ p _ _ h ?_
  simp [i64s]
theorem zero45 (w : World) : (zeroValue 33).run Tryz.prog w = .ok (.agg (i64s (List.replicate 72 0)).toArray) w := by kernel_rfl
theorem info45 : (Tryz.prog.info? 33).map (·.size) = some 72 := by kernel_rfl

/-- The table's cells. -/
def tabT : List Nat := FT ++ KT
theorem tabT_len : tabT.length = 72 := rfl

set_option maxRecDepth 100000 in
set_option maxHeartbeats 4000000 in
theorem make_any (w : World) :
    Calls Tryz.prog 7 #[] w fun e w' => e = .returned (.agg (i64s tabT).toArray) ∧ Below w.heap.size w w' := by
  have hz := zero45
  have hz72 : (i64s (List.replicate 72 0)).length = 72 := rfl
  have HZ := Sl.mk hz72
  have hone := i64s_one (List.replicate 72 0)
  clear hz72
  go_enter Tryz.func7, Tryz.ntmps7
  go_wp2_with fail
  go_loopw [2, 3] (fun v2 v3 wr => ∃ j : Nat, j ≤ 310 ∧ v3 = .int .u64 ((j : Int) + 2) ∧ v2 = .int .i64 ((makeS j).1 : Nat) ∧ Blk wr w.heap.size 33 (i64s (List.replicate 72 0)).toArray ∧ Blk wr (w.heap.size + 1) 33 (i64s ((makeS j).2.1 ++ (makeS j).2.2)).toArray ∧ Below w.heap.size w wr) (fun _ v3 _ => 312 - (intOf v3).toNat)
  case atStart => exact ⟨0, by omega, rfl, rfl, Blk.alloc (Blk.new w _ _) _, Blk.new' (by simp), below_al (below_al (Below.refl _ _) _) _⟩
  case round =>
    obtain ⟨j, hj, rfl, rfl, hZ, hT, hB⟩ := hrel
    by_cases hlt : (makeS j).1 < 64
    · have hj310 := make_lt hlt
      obtain ⟨q1, q2, q3⟩ := make_len j
      have hst : makeS (j + 1) = if (makeS j).1 < 64 ∧ cntF (j + 2) (j + 2) = 2 then ((makeS j).1 + 1, (if (makeS j).1 < 8 then (makeS j).2.1.set (makeS j).1 (rootF (j + 2) 2) else (makeS j).2.1), (makeS j).2.2.set (makeS j).1 (rootF (j + 2) 3)) else makeS j := rfl
      obtain ⟨⟨n, F, K⟩, hR⟩ : ∃ R, makeS j = R := ⟨_, rfl⟩
      rw [hR] at hlt q1 q2 q3 hst hT ⊢
      dsimp only at hlt q1 q2 q3 hst hT ⊢
      obtain ⟨p, hp⟩ : ∃ p, j + 2 = p := ⟨_, rfl⟩
      have hp2 : (j : Int) + 2 = (p : Int) := by omega
      rw [hp] at hst
      rw [hp2]
      have HST := Sl.mk hst
      have HF := Sl.mk q2
      have HK := Sl.mk q3
      clear hst hR q2 q3 hp2
      go_wp2_with fail
      go_loop [4, 5] (fun v4 v5 => ∃ q : Nat, q ≤ p ∧ v5 = .int .u64 ((q : Int) + 1) ∧ v4 = .int .i64 (cntF p q : Nat)) (fun _ v5 => p + 1 - (intOf v5).toNat)
      case atStart => exact ⟨0, by omega, rfl, rfl⟩
      case round =>
        obtain ⟨q, hq, rfl, rfl⟩ := hrel
        have hcl := cntF_le p q
        by_cases hql : q < p
        · have hst : cntF p (q + 1) = if p % (q + 1) = 0 then cntF p q + 1 else cntF p q := rfl
          obtain ⟨c, hc⟩ : ∃ c, cntF p q = c := ⟨_, rfl⟩
          rw [hc] at hst hcl ⊢
          have HC := Sl.mk hst
          have hqi : (q : Int) + 1 ≤ (p : Int) := by omega
          clear hst hc
          have hpm : (p : Int) % ((q : Int) + 1) = ((p % (q + 1) : Nat) : Int) := by rw [Int.natCast_emod]; rfl
          by_cases hd : p % (q + 1) = 0
          · have hdi : ((p : Int) % ((q : Int) + 1) == 0) = true := by rw [hpm, hd]; rfl
            clear hpm
            go_wp2_with fail
            go_round
            case rel => exact ⟨q + 1, by omega, by go_num, by rw [HC.out, if_pos hd]; go_num⟩
            case measure => simp [intOf]; omega
          · have hdi : ((p : Int) % ((q : Int) + 1) == 0) = false := by rw [hpm, beq_eq_false_iff_ne]; omega
            clear hpm
            go_wp2_with fail
            go_round
            case rel => exact ⟨q + 1, by omega, by go_num, by rw [HC.out, if_neg hd]⟩
            case measure => simp [intOf]; omega
        · obtain rfl : q = p := by omega
          have hqi : ¬ ((q : Int) + 1 ≤ (q : Int)) := by omega
          obtain ⟨c, hc⟩ : ∃ c, cntF q q = c := ⟨_, rfl⟩
          rw [hc] at HST hcl ⊢
          clear hc
          by_cases h2 : c = 2
          · subst h2
            rw [if_pos ⟨hlt, rfl⟩] at HST
            obtain ⟨V, hV⟩ : ∃ V, F ++ K = V := ⟨_, rfl⟩
            have hVl : V.length = 72 := by rw [← hV, List.length_append, HF.out, HK.out]
            have hVn : V.set (8 + n) (rootF q 3) = F ++ K.set n (rootF q 3) := by
              rw [← hV, List.set_append, if_neg (by rw [HF.out]; omega), HF.out, show 8 + n - 8 = n by omega]
            have hV8 : n < 8 → (V.set n (rootF q 2)).set (8 + n) (rootF q 3) = F.set n (rootF q 2) ++ K.set n (rootF q 3) := fun h => by
              rw [← hV, List.set_append, if_pos (by rw [HF.out]; exact h), List.set_append, if_neg (by rw [List.length_set, HF.out]; omega), List.length_set, HF.out, show 8 + n - 8 = n by omega]
            rw [hV] at hT
            have HVL := Sl.mk hVl
            have HVN := Sl.mk hVn
            have HV8 := Sl.mk hV8
            clear hV hVl hVn hV8
            by_cases h8 : n < 8
            · go_wp2_with fail
              refine (root_any q 2 _ (Or.inl rfl) (by omega)).mono ?_
              rintro e w1 ⟨rfl, hB1⟩
              have hE1 := below_tr hB hB1
              have hZ1 := hZ.be hB1
              have hT1 := hT.be hB1
              have hc1 := blk_at hT1 (i := n) (get_i64 (by rw [HVL.out]; omega))
              have hf1 := hT1.frozen n
              obtain ⟨x, hx⟩ : ∃ x, rootF q 2 = x := ⟨_, rfl⟩
              rw [hx] at HV8 HST ⊢
              clear hT hZ hx
              go_wp2_with fail
              have hT2 := set_i64 hT1 n x
              have hZ2 := hZ1.far (p := ⟨w.heap.size + 1, n, none⟩) (by simp) (.int .i64 (x : Int))
              have hE2 := hE1.setCell (p := ⟨w.heap.size + 1, n, none⟩) (by simp) (.int .i64 (x : Int))
              refine (root_any q 3 _ (Or.inr rfl) (by omega)).mono ?_
              rintro e w2 ⟨rfl, hB2⟩
              have hE3 := below_tr hE2 hB2
              have hZ3 := hZ2.be hB2
              have hT3 := hT2.be hB2
              have hc3 := blk_at hT3 (i := 8 + n) (get_i64 (by rw [List.length_set, HVL.out]; omega))
              have hf3 := hT3.frozen (8 + n)
              obtain ⟨y, hy⟩ : ∃ y, rootF q 3 = y := ⟨_, rfl⟩
              rw [hy] at HV8 HST ⊢
              clear hT2 hZ2 hT1 hZ1 hy hE1 hE2
              go_wp2_with fail
              go_roundw
              case rel =>
                refine ⟨j + 1, by omega, by go_num, by rw [HST.out]; go_num, hZ3.far (by simp) _, ?_, hE3.setCell (by simp) _⟩
                rw [HST.out, if_pos h8]
                dsimp only
                rw [← HV8.out h8]
                exact set_i64 hT3 _ _
              case measure => simp [intOf]; omega
            · go_wp2_with fail
              refine (root_any q 3 _ (Or.inr rfl) (by omega)).mono ?_
              rintro e w2 ⟨rfl, hB2⟩
              have hE3 := below_tr hB hB2
              have hZ3 := hZ.be hB2
              have hT3 := hT.be hB2
              have hc3 := blk_at hT3 (i := 8 + n) (get_i64 (by rw [HVL.out]; omega))
              have hf3 := hT3.frozen (8 + n)
              obtain ⟨y, hy⟩ : ∃ y, rootF q 3 = y := ⟨_, rfl⟩
              rw [hy] at HVN HST ⊢
              clear hT hZ hy
              go_wp2_with fail
              go_roundw
              case rel =>
                refine ⟨j + 1, by omega, by go_num, by rw [HST.out]; go_num, hZ3.far (by simp) _, ?_, hE3.setCell (by simp) _⟩
                rw [HST.out, if_neg h8]
                dsimp only
                rw [← HVN.out]
                exact set_i64 hT3 _ _
              case measure => simp [intOf]; omega
          · have h2i : ((c : Int) != 2) = true := by simp; omega
            go_wp2_with fail
            go_roundw
            case rel => exact ⟨j + 1, by omega, by go_num, by rw [HST.out, if_neg (fun e => h2 e.2)], hZ, by rw [HST.out, if_neg (fun e => h2 e.2)]; exact hT, hB⟩
            case measure => simp [intOf]; omega
    · have hf := make_full hlt
      rw [hf] at hT ⊢
      dsimp only at hT ⊢
      have e72 : i64s (FT ++ KT) = i64s tabT := rfl
      rw [e72] at hT
      have h1 := i64s_one tabT
      obtain ⟨T, hTT⟩ : ∃ T, i64s tabT = T := ⟨_, rfl⟩
      have hTl : T.length = 72 := by rw [← hTT]; rfl
      obtain ⟨Z, hZZ⟩ : ∃ Z, i64s (List.replicate 72 0) = Z := ⟨_, rfl⟩
      have hZl : Z.length = 72 := by rw [← hZZ]; rfl
      rw [hTT] at hT h1
      rw [hZZ] at hZ
      have HTT := Sl.mk hTT
      have HTL := Sl.mk hTl
      have HZL := Sl.mk hZl
      clear hlt hf hz hone HZ hTT hZZ e72 hTl hZl
      go_wp2_with (first
        | (refine wpList_load_row rfl 33 (.tmp 1) rfl (w.heap.size + 1) rfl 33 T.toArray (0, 0) _ hT Tryz.underlying33 rfl (by rw [info45]; simp [HTL.out]) ?_)
        | (refine wpList_store_blk rfl 33 (.tmp 0) (.tmp 37) rfl w.heap.size 0 33 Z T hZ rfl rfl (by rw [HTL.out, HZL.out]; omega) (by rw [info45, HTL.out]) h1 ?_))
      intro w4 hB4 hG4 hs4
      have e : T ++ Z.drop T.length = T := by rw [HTL.out, List.drop_of_length_le (by rw [HZL.out]; omega)]; simp
      rw [e] at hB4
      have hE := below_only hB hG4 hB.size (Nat.le_refl _)
      clear hG4 hs4
      go_wp2_with fail
      refine bodyPost_ret (v := .agg T.toArray) (results_cell_row Tryz.results7 _ _ w.heap.size 33 T.toArray (0, 0) _ rfl hB4 Tryz.underlying33 rfl (by rw [info45]; simp [HTL.out])) rfl ?_
      exact ⟨by rw [HTT.out], hE⟩

end Go.Proofs.YticcphppnmoogaaGreatDoor

namespace Go.Proofs.YticcphppnmoogaaGreatDoor
open Go.RowKit

abbrev M32 : Nat := 4294967296
theorem xw_lt (a b : Nat) : xw a b < 4294967296 := Nat.xor_lt_two_pow (n := 32) (Nat.mod_lt _ (by decide)) (Nat.mod_lt _ (by decide))
theorem ow_lt (a b : Nat) : ow a b < 4294967296 := Nat.or_lt_two_pow (n := 32) (Nat.mod_lt _ (by decide)) (Nat.mod_lt _ (by decide))
theorem nw_lt (a b : Nat) : nw a b < 4294967296 := Nat.and_lt_two_pow (n := 32) _ (Nat.mod_lt _ (by decide))
theorem aw_lt (a b : Nat) : aw a b < 4294967296 := Nat.mod_lt _ (by decide)
theorem rotw_lt (x n : Nat) : rotw x n < 4294967296 := ow_lt _ _
theorem dw_lt {x : Nat} (h : x < 4294967296) (k : Nat) : dw x k < 4294967296 := Nat.lt_of_le_of_lt (Nat.div_le_self _ _) h

theorem rotw_eq {x n : Nat} (hx : x < 4294967296) (h0 : 1 ≤ n) (h1 : n ≤ 31) : rotw x n = x / 2 ^ n + x % 2 ^ n * 2 ^ (32 - n) := by
  have hp : (2 : Nat) ^ n * 2 ^ (32 - n) = 4294967296 := by
    rw [← Nat.pow_add, show n + (32 - n) = 32 by omega]
  have hlo : x / 2 ^ n < 2 ^ (32 - n) := by
    apply Nat.div_lt_of_lt_mul
    rw [hp]; exact hx
  have hhi : lw x (32 - n) = x % 2 ^ n * 2 ^ (32 - n) := by
    unfold lw
    rw [← hp, Nat.mul_mod_mul_right]
  unfold rotw ow dw
  rw [hhi, Nat.mod_eq_of_lt (Nat.lt_of_le_of_lt (Nat.div_le_self _ _) hx)]
  have hlt : x % 2 ^ n * 2 ^ (32 - n) < 4294967296 := by
    rw [← hhi]; exact Nat.mod_lt _ (by decide)
  rw [Nat.mod_eq_of_lt hlt, Nat.or_comm, Nat.mul_comm (x % 2 ^ n), ← Nat.two_pow_add_eq_or_of_lt hlo, Nat.add_comm]

theorem ofInt64 (a : Nat) (h : a < 4294967296) : (BitVec.ofInt 64 (a : Int)).toNat = a := by
  rw [BitVec.ofInt_natCast, BitVec.toNat_ofNat, Nat.mod_eq_of_lt (by omega)]
theorem wrap_i64s (a : Nat) (h : a < 4294967296) : IntKind.i64.wrap (a : Int) = a := by
  rw [IntKind.wrap_i64]; omega
theorem bits64_xor {a b : Nat} (ha : a < 4294967296) (hb : b < 4294967296) : bits .xor .i64 (a : Int) (b : Int) = ((xw a b : Nat) : Int) := by
  show IntKind.i64.wrap ((BitVec.ofInt 64 (a : Int) ^^^ BitVec.ofInt 64 (b : Int)).toNat : Int) = _
  rw [BitVec.toNat_xor, ofInt64 a ha, ofInt64 b hb]
  have e : xw a b = a ^^^ b := by unfold xw; rw [Nat.mod_eq_of_lt ha, Nat.mod_eq_of_lt hb]
  rw [← e]
  exact wrap_i64s _ (xw_lt a b)
theorem bits64_or {a b : Nat} (ha : a < 4294967296) (hb : b < 4294967296) : bits .or .i64 (a : Int) (b : Int) = ((ow a b : Nat) : Int) := by
  show IntKind.i64.wrap ((BitVec.ofInt 64 (a : Int) ||| BitVec.ofInt 64 (b : Int)).toNat : Int) = _
  rw [BitVec.toNat_or, ofInt64 a ha, ofInt64 b hb]
  have e : ow a b = a ||| b := by unfold ow; rw [Nat.mod_eq_of_lt ha, Nat.mod_eq_of_lt hb]
  rw [← e]
  exact wrap_i64s _ (ow_lt a b)
theorem bits64_and {a b : Nat} (ha : a < 4294967296) (hb : b < 4294967296) : bits .and .i64 (a : Int) (b : Int) = ((nw a b : Nat) : Int) := by
  show IntKind.i64.wrap ((BitVec.ofInt 64 (a : Int) &&& BitVec.ofInt 64 (b : Int)).toNat : Int) = _
  rw [BitVec.toNat_and, ofInt64 a ha, ofInt64 b hb]
  have e : nw a b = a &&& b := by unfold nw; rw [Nat.mod_eq_of_lt ha, Nat.mod_eq_of_lt hb]
  rw [← e]
  exact wrap_i64s _ (nw_lt a b)

/-- The choice: two parts without a common bit, summed. -/
theorem choice_eq {e f g : Nat} (he : e < 4294967296) (hf : f < 4294967296) (hg : g < 4294967296) : (nw e f + nw (4294967295 - e) g) % 4294967296 = xw g (nw e (xw f g)) := by
  obtain ⟨E, rfl⟩ : ∃ E : BitVec 32, E.toNat = e := ⟨BitVec.ofNat 32 e, by rw [BitVec.toNat_ofNat, Nat.mod_eq_of_lt he]⟩
  obtain ⟨F, rfl⟩ : ∃ F : BitVec 32, F.toNat = f := ⟨BitVec.ofNat 32 f, by rw [BitVec.toNat_ofNat, Nat.mod_eq_of_lt hf]⟩
  obtain ⟨G, rfl⟩ : ∃ G : BitVec 32, G.toNat = g := ⟨BitVec.ofNat 32 g, by rw [BitVec.toNat_ofNat, Nat.mod_eq_of_lt hg]⟩
  have hn : 4294967295 - E.toNat = (~~~E).toNat := by rw [BitVec.toNat_not]
  have q1 : nw E.toNat F.toNat = (E &&& F).toNat := by unfold nw; rw [Nat.mod_eq_of_lt E.isLt, Nat.mod_eq_of_lt F.isLt, BitVec.toNat_and]
  have q2 : nw (~~~E).toNat G.toNat = (~~~E &&& G).toNat := by unfold nw; rw [Nat.mod_eq_of_lt (~~~E).isLt, Nat.mod_eq_of_lt G.isLt, BitVec.toNat_and]
  have q3 : xw F.toNat G.toNat = (F ^^^ G).toNat := by unfold xw; rw [Nat.mod_eq_of_lt F.isLt, Nat.mod_eq_of_lt G.isLt, BitVec.toNat_xor]
  have q4 : nw E.toNat (F ^^^ G).toNat = (E &&& (F ^^^ G)).toNat := by unfold nw; rw [Nat.mod_eq_of_lt E.isLt, Nat.mod_eq_of_lt (F ^^^ G).isLt, BitVec.toNat_and]
  have q5 : xw G.toNat (E &&& (F ^^^ G)).toNat = (G ^^^ (E &&& (F ^^^ G))).toNat := by unfold xw; rw [Nat.mod_eq_of_lt G.isLt, Nat.mod_eq_of_lt (E &&& (F ^^^ G)).isLt, BitVec.toNat_xor]
  rw [hn, q1, q2, q3, q4, q5]
  have hd : (E &&& F) &&& (~~~E &&& G) = 0#32 := by
    apply BitVec.eq_of_getLsbD_eq
    intro i hi
    simp only [BitVec.getLsbD_and, BitVec.getLsbD_not, BitVec.getLsbD_zero]
    cases E.getLsbD i <;> simp
  have hs : (E &&& F) + (~~~E &&& G) = G ^^^ (E &&& (F ^^^ G)) := by
    rw [BitVec.add_eq_or_of_and_eq_zero _ _ hd]
    apply BitVec.eq_of_getLsbD_eq
    intro i hi
    simp only [BitVec.getLsbD_and, BitVec.getLsbD_or, BitVec.getLsbD_xor, BitVec.getLsbD_not, hi, decide_true, Bool.true_and]
    cases E.getLsbD i <;> cases F.getLsbD i <;> cases G.getLsbD i <;> rfl
  rw [← hs, BitVec.toNat_add]
theorem most_eq {a b c : Nat} (ha : a < 4294967296) (hb : b < 4294967296) (hc : c < 4294967296) : ow (ow (nw a b) (nw a c)) (nw b c) = ow (nw a b) (nw c (ow a b)) := by
  have e1 : ∀ {x y : Nat}, x < 4294967296 → y < 4294967296 → ow x y = x ||| y := fun h1 h2 => by unfold ow; rw [Nat.mod_eq_of_lt h1, Nat.mod_eq_of_lt h2]
  have e2 : ∀ {x y : Nat}, x < 4294967296 → y < 4294967296 → nw x y = x &&& y := fun h1 h2 => by unfold nw; rw [Nat.mod_eq_of_lt h1, Nat.mod_eq_of_lt h2]
  rw [e1 (ow_lt _ _) (nw_lt _ _), e1 (nw_lt _ _) (nw_lt _ _), e1 (nw_lt _ _) (nw_lt _ _), e2 ha hb, e2 ha hc, e2 hb hc, e2 hc (ow_lt _ _), e1 ha hb]
  apply Nat.eq_of_testBit_eq
  intro i
  simp only [Nat.testBit_or, Nat.testBit_and]
  cases a.testBit i <;> cases b.testBit i <;> cases c.testBit i <;> rfl
theorem be_sum {b0 b1 b2 b3 : Nat} (h0 : b0 < 256) (h1 : b1 < 256) (h2 : b2 < 256) (h3 : b3 < 256) : ow (ow (ow (lw b0 24) (lw b1 16)) (lw b2 8)) b3 = b0 * 16777216 + b1 * 65536 + b2 * 256 + b3 := by
  have l0 : lw b0 24 = 2 ^ 24 * b0 := by unfold lw; omega
  have l1 : lw b1 16 = b1 * 65536 := by unfold lw; omega
  have l2 : lw b2 8 = b2 * 256 := by unfold lw; omega
  have e1 : ow (lw b0 24) (lw b1 16) = 2 ^ 16 * (b0 * 256 + b1) := by
    unfold ow
    rw [l0, l1, Nat.mod_eq_of_lt (by omega), Nat.mod_eq_of_lt (by omega), ← Nat.two_pow_add_eq_or_of_lt (by omega)]
    omega
  have e2 : ow (ow (lw b0 24) (lw b1 16)) (lw b2 8) = 2 ^ 8 * (b0 * 65536 + b1 * 256 + b2) := by
    rw [e1]
    unfold ow
    rw [l2, Nat.mod_eq_of_lt (by omega), Nat.mod_eq_of_lt (by omega), ← Nat.two_pow_add_eq_or_of_lt (by omega)]
    omega
  rw [e2]
  unfold ow
  rw [Nat.mod_eq_of_lt (by omega), Nat.mod_eq_of_lt (by omega), ← Nat.two_pow_add_eq_or_of_lt (by omega)]
  omega

/-! ### the registers -/
theorem pos_next {k i : Nat} (hi : i < 64) (hk : 1 ≤ k) : pos k (i + 1) = pos (k - 1) i := by unfold pos; omega
theorem pos_zero {i : Nat} (hi : i < 64) : pos 0 (i + 1) = pos 7 i := by unfold pos; omega
theorem getD_set_eq' {l : List Nat} {p x : Nat} (h : p < l.length) : (l.set p x).getD p 0 = x := by simp [List.getD, h]
theorem step_regs {V : List Nat} {i rk wi : Nat} (hV : V.length = 8) (hi : i < 64) :
    atV (stepV V i rk wi) 0 (i + 1) = uW (atV V 0 i) (atV V 1 i) (atV V 2 i) (tW (atV V 4 i) (atV V 5 i) (atV V 6 i) (atV V 7 i) rk wi) ∧
    atV (stepV V i rk wi) 1 (i + 1) = atV V 0 i ∧ atV (stepV V i rk wi) 2 (i + 1) = atV V 1 i ∧ atV (stepV V i rk wi) 3 (i + 1) = atV V 2 i ∧
    atV (stepV V i rk wi) 4 (i + 1) = aw (atV V 3 i) (tW (atV V 4 i) (atV V 5 i) (atV V 6 i) (atV V 7 i) rk wi) ∧
    atV (stepV V i rk wi) 5 (i + 1) = atV V 4 i ∧ atV (stepV V i rk wi) 6 (i + 1) = atV V 5 i ∧ atV (stepV V i rk wi) 7 (i + 1) = atV V 6 i := by
  have h7 : ∀ k, k < 7 → pos 7 i ≠ pos k i := fun k hk => pos_ne i hi 7 k (by decide) (by omega) (by omega)
  have h3 : ∀ k, k < 8 → k ≠ 3 → pos 3 i ≠ pos k i := fun k hk hn => pos_ne i hi 3 k (by decide) hk (by omega)
  generalize hU : uW (atV V 0 i) (atV V 1 i) (atV V 2 i) (tW (atV V 4 i) (atV V 5 i) (atV V 6 i) (atV V 7 i) rk wi) = U
  generalize hT : aw (atV V 3 i) (tW (atV V 4 i) (atV V 5 i) (atV V 6 i) (atV V 7 i) rk wi) = T
  have hs : stepV V i rk wi = (V.set (pos 3 i) T).set (pos 7 i) U := by unfold stepV; rw [hU, hT]
  rw [hs]
  have old : ∀ k, k < 7 → k ≠ 3 → ((V.set (pos 3 i) T).set (pos 7 i) U).getD (pos k i) 0 = atV V k i := fun k h1 h2 => by
    rw [getD_set_ne' (h7 k h1), getD_set_ne' (h3 k (by omega) h2)]; rfl
  refine ⟨?_, ?_, ?_, ?_, ?_, ?_, ?_, ?_⟩
  · unfold atV; rw [pos_zero hi, getD_set_eq' (by rw [List.length_set, hV]; exact pos_lt _ _)]
  · show ((V.set _ _).set _ _).getD (pos 1 (i + 1)) 0 = _; rw [pos_next hi (by omega)]; exact old 0 (by omega) (by omega)
  · show ((V.set _ _).set _ _).getD (pos 2 (i + 1)) 0 = _; rw [pos_next hi (by omega)]; exact old 1 (by omega) (by omega)
  · show ((V.set _ _).set _ _).getD (pos 3 (i + 1)) 0 = _; rw [pos_next hi (by omega)]; exact old 2 (by omega) (by omega)
  · show ((V.set _ _).set _ _).getD (pos 4 (i + 1)) 0 = _
    rw [pos_next hi (by omega), getD_set_ne' (h7 3 (by omega)), getD_set_eq' (by rw [hV]; exact pos_lt _ _)]
  · show ((V.set _ _).set _ _).getD (pos 5 (i + 1)) 0 = _; rw [pos_next hi (by omega)]; exact old 4 (by omega) (by omega)
  · show ((V.set _ _).set _ _).getD (pos 6 (i + 1)) 0 = _; rw [pos_next hi (by omega)]; exact old 5 (by omega) (by omega)
  · show ((V.set _ _).set _ _).getD (pos 7 (i + 1)) 0 = _; rw [pos_next hi (by omega)]; exact old 6 (by omega) (by omega)
theorem set_lt {l : List Nat} {m p x : Nat} (h : ∀ y ∈ l, y < m) (hx : x < m) : ∀ y ∈ l.set p x, y < m := by
  intro y hy
  rcases List.mem_or_eq_of_mem_set hy with hy | rfl
  · exact h y hy
  · exact hx
theorem mixV_lt {H Ws : List Nat} (h : ∀ y ∈ H, y < 4294967296) (i : Nat) : ∀ y ∈ mixV H Ws i, y < 4294967296 := by
  induction i with
  | zero => exact h
  | succ i ih => exact set_lt (set_lt ih (aw_lt _ _)) (aw_lt _ _)
theorem KT_lt : ∀ y ∈ KT, y < 4294967296 := by decide
theorem FT_lt : ∀ y ∈ FT, y < 4294967296 := by decide
theorem spread_lt {R : List Nat} (i : Nat) : ∀ y ∈ spreadF R i, y < 4294967296 := by
  induction i with
  | zero => intro y hy; cases hy
  | succ i ih =>
    intro y hy
    unfold spreadF at hy
    rcases List.mem_append.1 hy with hy | hy
    · exact ih y hy
    · rw [List.mem_singleton] at hy
      subst hy
      split
      · exact ow_lt _ _
      · exact aw_lt _ _

end Go.Proofs.YticcphppnmoogaaGreatDoor

namespace Go.Proofs.YticcphppnmoogaaGreatDoor
open Go.RowKit

def padT (l : List Nat) : List Nat := l ++ (128 :: List.replicate (padK l.length) 0 ++ lenB l.length)
def cutB (P : List Nat) (i : Nat) : List Nat := (P.drop (64 * i)).take 64
def hF (P : List Nat) : Nat → List Nat
  | 0 => FT
  | i + 1 => mixF (hF P i) (cutB P i)
def rsumF (l : List Nat) : List Nat := bytesF (hF (padT l) ((padT l).length / 64))
theorem lenB_len (n : Nat) : (lenB n).length = 8 := by simp [lenB]
theorem padT_len (l : List Nat) : (padT l).length = l.length + 1 + padK l.length + 8 := by
  unfold padT
  rw [List.length_append, List.length_append, List.length_cons, List.length_replicate, lenB_len]; omega
theorem padT_64 (l : List Nat) : (padT l).length % 64 = 0 := by
  rw [padT_len]; unfold padK; omega
theorem hF_len (P : List Nat) : ∀ i, (hF P i).length = 8 := by
  intro i
  induction i with
  | zero => rfl
  | succ i ih => exact mixF_len ih
theorem cutB_len {P : List Nat} {i : Nat} (h : 64 * i + 64 ≤ P.length) : (cutB P i).length = 64 := by
  unfold cutB
  rw [List.length_take, List.length_drop]; omega
theorem take_block {P : List Nat} {i : Nat} : P.take (64 * (i + 1)) = P.take (64 * i) ++ cutB P i := by
  unfold cutB
  rw [show 64 * (i + 1) = 64 * i + 64 by omega, List.take_add]
theorem tds {Z V : List Nat} {j : Nat} (hl : Z.length = V.length) (hj : j < V.length) : (Z.take j ++ V.drop j).set j (Z.getD j 0) = Z.take (j + 1) ++ V.drop (j + 1) := by
  have h2 : (Z.take j).length = j := by simp; omega
  have hz : j < Z.length := by omega
  rw [List.set_append_right _ _ (by omega), h2, Nat.sub_self, List.drop_eq_getElem_cons hj, List.set_cons_zero, take_succ_getD (d := 0) hz, List.append_assoc]
  rfl
def begS (s : StT) : List Nat := if s.2.2 = 0 then FT else s.1
theorem feed_part {s : StT} {i : Nat} {B : List Nat} (hs : okS s) (hn : s.2.2 = 64 * i) (hB : B.length = 64) : ∀ j, j ≤ 63 →
    begS (feedS s (B.take j)) = begS s ∧ (feedS s (B.take j)).2.1 = B.take j ++ s.2.1.drop j ∧ (feedS s (B.take j)).2.2 = 64 * i + j := by
  intro j
  induction j with
  | zero => intro _; exact ⟨rfl, rfl, hn⟩
  | succ j ih =>
    intro hj
    obtain ⟨h1, h2, h3⟩ := ih (by omega)
    rw [take_succ_getD (d := 0) (show j < B.length by omega), feedS_snoc]
    have hc : ¬ ((feedS s (B.take j)).2.2 + 1) % 64 = 0 := by rw [h3]; omega
    have hm : (feedS s (B.take j)).2.2 % 64 = j := by rw [h3]; omega
    have e : oneS (feedS s (B.take j)) (B.getD j 0) = (begS (feedS s (B.take j)), (feedS s (B.take j)).2.1.set j (B.getD j 0), (feedS s (B.take j)).2.2 + 1) := by
      unfold oneS; rw [if_neg hc, hm]; rfl
    rw [e, h1, h2, h3]
    refine ⟨?_, ?_, rfl⟩
    · show begS (begS s, _, 64 * i + j + 1) = _
      unfold begS
      rw [if_neg (show ¬ 64 * i + j + 1 = 0 by omega)]
    · show (B.take j ++ s.2.1.drop j).set j (B.getD j 0) = _
      rw [tds (by rw [hB, hs.2]) (by rw [hs.2]; omega), take_succ_getD (d := 0) (show j < B.length by omega)]
theorem feed_block {s : StT} {i : Nat} {B : List Nat} (hs : okS s) (hn : s.2.2 = 64 * i) (hB : B.length = 64) : feedS s B = (mixF (begS s) B, B, 64 * (i + 1)) := by
  obtain ⟨h1, h2, h3⟩ := feed_part hs hn hB 63 (Nat.le_refl _)
  have e : B = B.take 63 ++ [B.getD 63 0] := by
    rw [← take_succ_getD (d := 0) (show 63 < B.length by omega), List.take_of_length_le (by omega)]
  have e2 : feedS s B = oneS (feedS s (B.take 63)) (B.getD 63 0) := by
    conv => lhs; rw [e]
    rw [feedS_snoc]
  have hc : ((feedS s (B.take 63)).2.2 + 1) % 64 = 0 := by rw [h3]; omega
  have hm : (feedS s (B.take 63)).2.2 % 64 = 63 := by rw [h3]; omega
  have hset : (B.take 63 ++ s.2.1.drop 63).set 63 (B.getD 63 0) = B := by
    rw [tds (by rw [hB, hs.2]) (by rw [hs.2]; omega), List.take_of_length_le (by omega), List.drop_of_length_le (by rw [hs.2]; omega), List.append_nil]
  have e3 : oneS (feedS s (B.take 63)) (B.getD 63 0) = (mixF (begS (feedS s (B.take 63))) ((feedS s (B.take 63)).2.1.set 63 (B.getD 63 0)), (feedS s (B.take 63)).2.1.set 63 (B.getD 63 0), (feedS s (B.take 63)).2.2 + 1) := by
    unfold oneS; rw [if_pos hc, hm]; rfl
  rw [e2, e3, h1, h2, h3, hset]
  congr 2
theorem feed_all {P : List Nat} : ∀ k, 64 * k ≤ P.length → begS (feedS zS (P.take (64 * k))) = hF P k ∧ (feedS zS (P.take (64 * k))).2.2 = 64 * k := by
  intro k
  induction k with
  | zero => intro _; exact ⟨rfl, rfl⟩
  | succ k ih =>
    intro hk
    obtain ⟨h1, h2⟩ := ih (by omega)
    rw [take_block, feedS_app, feed_block (feedS_ok zS_ok _) h2 (cutB_len (by omega)), h1]
    refine ⟨?_, rfl⟩
    unfold begS
    rw [if_neg (show ¬ 64 * (k + 1) = 0 by omega)]
    rfl
theorem rsum_eq (l : List Nat) : rsumF l = shaF l := by
  have hn : (feedS zS l).2.2 = l.length := by rw [feedS_n]; show 0 + _ = _; omega
  have h1 : shaF l = bytesF (feedS zS (padT l)).1 := by
    unfold shaF sumF padT
    rw [hn, feedS_app zS l]
  obtain ⟨k, hk⟩ : ∃ k, (padT l).length = 64 * k := ⟨(padT l).length / 64, by have := padT_64 l; omega⟩
  obtain ⟨h2, h3⟩ := feed_all (P := padT l) k (by omega)
  rw [List.take_of_length_le (by omega)] at h2 h3
  have hk0 : ¬ 64 * k = 0 := by rw [← hk, padT_len]; omega
  unfold begS at h2
  rw [h3, if_neg hk0] at h2
  unfold rsumF
  rw [h1, hk, show 64 * k / 64 = k by omega, h2]
theorem lenB_lt (n : Nat) : ∀ y ∈ lenB n, y < 256 := by
  intro y hy
  simp only [lenB, List.mem_map] at hy
  obtain ⟨i, -, rfl⟩ := hy
  unfold lenF; omega
theorem padT_lt {l : List Nat} (h : ∀ y ∈ l, y < 256) : ∀ y ∈ padT l, y < 256 := by
  intro y hy
  unfold padT at hy
  simp only [List.mem_append, List.mem_cons] at hy
  rcases hy with hy | (hy | hy) | hy
  · exact h y hy
  · subst hy; omega
  · rw [List.eq_of_mem_replicate hy]; omega
  · exact lenB_lt _ y hy
theorem mixF_lt' {H R : List Nat} : ∀ y ∈ mixF H R, y < 4294967296 := by
  intro y hy
  unfold mixF at hy
  rw [List.mem_iff_getElem] at hy
  obtain ⟨i, hi, rfl⟩ := hy
  rw [List.getElem_zipWith]
  exact aw_lt _ _
theorem hF_lt (P : List Nat) : ∀ i, ∀ y ∈ hF P i, y < 4294967296 := by
  intro i
  cases i with
  | zero => exact FT_lt
  | succ i => exact mixF_lt'
theorem cutB_get {P : List Nat} {i k : Nat} (hk : k < 64) : (cutB P i).getD k 0 = P.getD (64 * i + k) 0 := by
  unfold cutB
  simp only [List.getD, List.getElem?_take, hk, if_true, List.getElem?_drop]
theorem getD_lt' {P : List Nat} {b : Nat} (h : ∀ y ∈ P, y < b) (hb : 0 < b) (k : Nat) : P.getD k 0 < b := by
  by_cases hk : k < P.length
  · have e : P.getD k 0 = P[k] := by simp [hk]
    rw [e]; exact h _ (List.getElem_mem hk)
  · have e : P.getD k 0 = 0 := by simp [List.getD, List.getElem?_eq_none (by omega : P.length ≤ k)]
    rw [e]; exact hb
theorem cutB_lt {P : List Nat} (h : ∀ y ∈ P, y < 256) (i k : Nat) : (cutB P i).getD k 0 < 256 :=
  getD_lt' (fun y hy => h y (List.mem_of_mem_drop (List.mem_of_mem_take hy))) (by omega) k

end Go.Proofs.YticcphppnmoogaaGreatDoor
