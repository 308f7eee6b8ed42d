/-
  The reference's turn.
-/
import Derived.Test.YticcphppnmoogaaGreatDoorBy23
import Derived.Test.YticcphppnmoogaaGreatDoorBy24

namespace Go.Proofs.YticcphppnmoogaaGreatDoor
open Go.RowKit
attribute [local go_sem ↓] Go.wp_at_zero Go.wp_at_succ

theorem w64_small {n : Int} (h0 : 0 ≤ n) (h1 : n < 9223372036854775808) : wrap64 n = n := by unfold wrap64; omega

theorem turned_any (x n : Nat) (w : World) (hx : x < 4294967296) (h0 : 1 ≤ n) (h1 : n ≤ 31) :
    Calls Tryz.prog 75 #[.int .i64 x, .int .i64 n] w fun e w' => e = .returned (.int .i64 (rotw x n : Nat)) ∧ ∃ k, w' = w.drewN k := by
  have hr := rotw_eq hx h0 h1
  obtain ⟨t, ht⟩ : ∃ t, 2 ^ n = t := ⟨_, rfl⟩
  obtain ⟨u, hu⟩ : ∃ u, 2 ^ (32 - n) = u := ⟨_, rfl⟩
  have htu : t * u = 4294967296 := by rw [← ht, ← hu, ← Nat.pow_add, show n + (32 - n) = 32 by omega]
  have ht0 : 0 < t := by rw [← ht]; exact Nat.two_pow_pos n
  have hu0 : 0 < u := by rw [← hu]; exact Nat.two_pow_pos _
  have htl : t ≤ 4294967296 := by rw [← htu]; exact Nat.le_mul_of_pos_right t hu0
  have hw1 : IntKind.i64.wrap ((2 : Int) ^ n) = (t : Int) := by
    rw [show ((2 : Int) ^ n) = ((2 ^ n : Nat) : Int) from (Int.natCast_pow 2 n).symm, ht, IntKind.wrap_i64]; omega
  have hmt : x % t < t := Nat.mod_lt _ ht0
  have hmu : x % t * u < 4294967296 := by rw [← htu]; exact Nat.mul_lt_mul_of_pos_right hmt hu0
  have hw2 : IntKind.i64.wrap ((x : Int) % (t : Int) * (2 : Int) ^ (32 - n)) = ((x % t * u : Nat) : Int) := by
    rw [show ((2 : Int) ^ (32 - n)) = ((2 ^ (32 - n) : Nat) : Int) from (Int.natCast_pow 2 (32 - n)).symm, hu, ← Int.natCast_emod, ← Int.natCast_mul]
    exact wrap_i64s _ hmu
  have hdv : (x : Int) / 2 ^ n = ((x / t : Nat) : Int) := by
    rw [show ((2 : Int) ^ n) = ((2 ^ n : Nat) : Int) from (Int.natCast_pow 2 n).symm, ht, ← Int.natCast_ediv]
  have hxt : x / t < 4294967296 := Nat.lt_of_le_of_lt (Nat.div_le_self _ _) hx
  rw [ht, hu] at hr
  have htn : ¬ (t : Int) = 0 := by omega
  have HR := Sl.mk hr
  clear hr ht hu htu hu0 hmt
  go_enter Tryz.func75, Tryz.ntmps75
  go_wp2_with fail
  go_quiet (fail)
  go_wp2_with fail
  go_ret
  refine ⟨?_, nq, rfl⟩
  have hlt := rotw_lt x n
  rw [HR.out] at hlt ⊢
  have e : (x : Int) / t + x % t * u = ((x / t + x % t * u : Nat) : Int) := by rw [Int.natCast_add, Int.natCast_mul, Int.natCast_ediv, Int.natCast_emod]
  show Ending.returned (.int .i64 (wrap64 ((x : Int) / t + x % t * u))) = _
  rw [e]
  generalize x / t + x % t * u = N at hlt ⊢
  rw [w64_small (by omega) (by omega)]

theorem turned_i (x : Nat) (m : Int) (w : World) (hx : x < 4294967296) (h0 : 1 ≤ m) (h1 : m ≤ 31) :
    Calls Tryz.prog 75 #[.int .i64 x, .int .i64 m] w fun e w' => e = .returned (.int .i64 (rotw x m.toNat : Nat)) ∧ ∃ k, w' = w.drewN k := by
  obtain ⟨n, rfl⟩ := Int.eq_ofNat_of_zero_le (a := m) (by omega)
  exact turned_any x n w hx (by omega) (by omega)
theorem zero42 (w : World) : (zeroValue 30).run Tryz.prog w = .ok (.agg #[.int .i64 0, .int .i64 0, .int .i64 0, .int .i64 0, .int .i64 0, .int .i64 0, .int .i64 0, .int .i64 0]) w := by kernel_rfl
theorem zero43 (w : World) : (zeroValue 31).run Tryz.prog w = .ok (.agg (i64s (List.replicate 64 0)).toArray) w := by kernel_rfl
theorem zero70 (w : World) : (zeroValue 126).run Tryz.prog w = .ok (.agg #[.int .i64 0, .int .i64 0]) w := by kernel_rfl
theorem info42 : (Tryz.prog.info? 30).map (·.size) = some 8 := by kernel_rfl
theorem info70 : (Tryz.prog.info? 126).map (·.size) = some 2 := by kernel_rfl
theorem set_i64' {w : World} {g : Nat} {t : TypeId} {V : List Nat} (h : Blk w g t (i64s V).toArray) (p x : Nat) (y : Int) (e : y = (x : Int)) : Blk (w.setCell ⟨g, p, none⟩ (.int .i64 y)) g t (i64s (V.set p x)).toArray := by
  subst e; exact set_i64 h p x
theorem wpList_store_pair {ops : Array Oper} {rest : List Oper} {op : Oper} {a : Act} {w : World} {Q : Exit → Act → World → Prop} (hgd : op.guard = none) (x y : Operand) (ho : op.op = .store 126 x y)
    (g : Nat) (p0 q0 p q : Value) (hB : Blk w g 126 [p0, q0].toArray) (hx : a.eval x = .pointer (some ⟨g, 0, none⟩)) (hy : a.eval y = .agg #[p, q]) (h1 : p.oneCell' = true) (h2 : q.oneCell' = true)
    (h : ∀ w', Blk w' g 126 [p, q].toArray → w.grownBy w' (some g) → w'.heap.size = w.heap.size → wpList Tryz.prog ops Q rest (a.put op.dst undef) w') : wpList Tryz.prog ops Q (op :: rest) a w := by
  refine wpList_store_blk hgd 126 x y ho g 0 126 [p0, q0] [p, q] hB hx hy (by simp) (by rw [info70]; rfl) (fun v hv => ?_) (fun w' h3 h4 h5 => ?_)
  · simp only [List.mem_cons, List.not_mem_nil, or_false] at hv
    rcases hv with rfl | rfl
    · exact h1
    · exact h2
  · exact h w' (by simpa using h3) h4 h5
theorem pair_one {p q : Value} (h1 : p.oneCell' = true) (h2 : q.oneCell' = true) : ∀ v ∈ [p, q], v.oneCell' = true := fun v hv => by
  simp only [List.mem_cons, List.not_mem_nil, or_false] at hv
  rcases hv with rfl | rfl
  · exact h1
  · exact h2
theorem blk_pair {w : World} {g a b : Nat} {y z : Int} (h : Blk w g 126 [.int .i64 y, .int .i64 z].toArray) (e1 : y = (a : Int)) (e2 : z = (b : Int)) : Blk w g 126 (i64s [a, b]).toArray := by
  subst e1 e2; exact h
theorem turnT_eq {x3 x4 x5 x6 x7 rk wi : Nat} (l4 : x4 < 4294967296) (l5 : x5 < 4294967296) (l6 : x6 < 4294967296) :
    ((x3 : Int) + ((x7 : Int) + ((xw (xw (rotw x4 6) (rotw x4 11)) (rotw x4 25) : Nat) : Int) + (((nw x4 x5 : Nat) : Int) + ((nw (4294967295 - x4) x6 : Nat) : Int)) + rk + wi)) % 4294967296 = ((aw x3 (tW x4 x5 x6 x7 rk wi) : Nat) : Int) := by
  have h := choice_eq l4 l5 l6
  have hb : bs1 x4 = xw (xw (rotw x4 6) (rotw x4 11)) (rotw x4 25) := rfl
  unfold tW
  rw [← h, hb]
  generalize xw (xw (rotw x4 6) (rotw x4 11)) (rotw x4 25) = B
  generalize nw x4 x5 = n1
  generalize nw (4294967295 - x4) x6 = n2
  unfold aw
  omega
theorem turnU_eq {x0 x1 x2 x4 x5 x6 x7 rk wi : Nat} (l0 : x0 < 4294967296) (l1 : x1 < 4294967296) (l2 : x2 < 4294967296) (l4 : x4 < 4294967296) (l5 : x5 < 4294967296) (l6 : x6 < 4294967296) :
    ((x7 : Int) + ((xw (xw (rotw x4 6) (rotw x4 11)) (rotw x4 25) : Nat) : Int) + (((nw x4 x5 : Nat) : Int) + ((nw (4294967295 - x4) x6 : Nat) : Int)) + rk + wi + (((xw (xw (rotw x0 2) (rotw x0 13)) (rotw x0 22) : Nat) : Int) + ((ow (ow (nw x0 x1) (nw x0 x2)) (nw x1 x2) : Nat) : Int))) % 4294967296 = ((uW x0 x1 x2 (tW x4 x5 x6 x7 rk wi) : Nat) : Int) := by
  have h := choice_eq l4 l5 l6
  have hb : bs1 x4 = xw (xw (rotw x4 6) (rotw x4 11)) (rotw x4 25) := rfl
  have hb0 : bs0 x0 = xw (xw (rotw x0 2) (rotw x0 13)) (rotw x0 22) := rfl
  unfold uW tW
  rw [← h, hb, hb0, ← most_eq l0 l1 l2]
  generalize xw (xw (rotw x4 6) (rotw x4 11)) (rotw x4 25) = B
  generalize xw (xw (rotw x0 2) (rotw x0 13)) (rotw x0 22) = C
  generalize ow (ow (nw x0 x1) (nw x0 x2)) (nw x1 x2) = D
  generalize nw x4 x5 = n1
  generalize nw (4294967295 - x4) x6 = n2
  unfold aw
  omega
theorem list8 {l : List Nat} (h : l.length = 8) : l = [l.getD 0 0, l.getD 1 0, l.getD 2 0, l.getD 3 0, l.getD 4 0, l.getD 5 0, l.getD 6 0, l.getD 7 0] := by
  match l, h with
  | [a, b, c, d, e, f, g, i], _ => rfl
theorem td_get {Z V : List Nat} {j : Nat} (hl : Z.length = V.length) (hj : j < V.length) : (Z.take j ++ V.drop j).getD j 0 = V.getD j 0 := by
  have h2 : (Z.take j).length = j := by simp; omega
  simp only [List.getD]
  rw [List.getElem?_append_right (by omega), h2, Nat.sub_self, List.getElem?_drop, Nat.add_zero]
theorem td_set {Z V : List Nat} {j : Nat} (hl : Z.length = V.length) (hj : j < V.length) : (Z.take j ++ V.drop j).set j (Z.getD j 0) = Z.take (j + 1) ++ V.drop (j + 1) := by
  have h2 : (Z.take j).length = j := by simp; omega
  have hz : j < Z.length := by omega
  rw [List.set_append_right _ _ (by omega), h2, Nat.sub_self, List.drop_eq_getElem_cons hj, List.set_cons_zero, take_succ_getD (d := 0) hz, List.append_assoc]
  rfl
theorem mixF_lt {H R : List Nat} : ∀ y ∈ mixF H R, y < 4294967296 := by
  intro y hy
  unfold mixF at hy
  rw [List.mem_iff_getElem] at hy
  obtain ⟨i, hi, rfl⟩ := hy
  rw [List.getElem_zipWith]
  exact aw_lt _ _
/-- The block's words behind i of them. -/
def padW (R : List Nat) (i : Nat) : List Nat := spreadF R i ++ List.replicate (64 - i) 0
theorem padW_len {R : List Nat} {i : Nat} (h : i ≤ 64) : (padW R i).length = 64 := by unfold padW; rw [List.length_append, spreadF_len, List.length_replicate]; omega
theorem padW_old {R : List Nat} {i k : Nat} (h : k < i) : (padW R i).getD k 0 = (spreadF R i).getD k 0 := by
  have hk : k < (spreadF R i).length := by rw [spreadF_len]; exact h
  simp [padW, List.getD, List.getElem?_append_left hk]
theorem padW_set {R : List Nat} {i x : Nat} (h : i < 64) (hx : x = (if i < 16 then beW R i else nextW (spreadF R i) i)) : (padW R i).set i x = padW R (i + 1) := by
  have := pad_set (spreadF R i) 64 x (by rw [spreadF_len]; exact h)
  rw [spreadF_len] at this
  unfold padW
  rw [this, hx]
  rfl
theorem padW_64 (R : List Nat) : padW R 64 = spreadF R 64 := by simp [padW]

set_option maxRecDepth 100000 in
set_option maxHeartbeats 8000000 in
theorem turn_any (H R : List Nat) (g o c : Nat) (w : World) (hH : H.length = 8) (hHl : ∀ y ∈ H, y < 4294967296) (hR : ∀ k, R.getD k 0 < 256)
    (hc : ∀ k, k < 64 → w.cell? ⟨g, o + k, none⟩ = some (.int .u8 ((R.getD k 0 : Nat) : Int))) :
    Calls Tryz.prog 58 #[.agg (i64s tabT).toArray, .agg (i64s H).toArray, .slice (some ⟨g, o, none⟩) 64 c] w fun e w' => e = .returned (.agg (i64s (mixF H R)).toArray) ∧ Below w.heap.size w w' := by
  have hz2 := zero42
  have hz3 := zero43
  have hz70 := zero70
  have h1t := i64s_one tabT
  have h1h := i64s_one H
  have h18 := i64s_one (List.replicate 8 0)
  have h164 := i64s_one (List.replicate 64 0)
  have HHL := Sl.mk hH
  have HH32 := Sl.mk hHl
  have HR := Sl.mk hR
  have HC := Sl.mk hc
  have hglt : g < w.heap.size := by
    have := hc 0 (by omega)
    exact cell_lt' this
  obtain ⟨TT, hTT⟩ : ∃ TT, i64s tabT = TT := ⟨_, rfl⟩
  have hk : ∀ i, i < 64 → TT[8 + i]? = some (.int .i64 ((KT.getD i 0 : Nat) : Int)) := fun i hi => by
    have e : tabT.getD (8 + i) 0 = KT.getD i 0 := by
      show (FT ++ KT).getD (8 + i) 0 = _
      rw [List.getD, List.getElem?_append_right (show FT.length ≤ 8 + i from by show 8 ≤ 8 + i; omega), show 8 + i - FT.length = i from by show 8 + i - 8 = i; omega]
      rfl
    rw [← hTT, get_i64 (by rw [tabT_len]; omega), e]
  rw [hTT] at h1t ⊢
  have HK := Sl.mk hk
  clear hH hHl hR hc hTT hk
  go_enter Tryz.func58, Tryz.ntmps58
  go_wp2_with fail
  go_loopw [8] (fun v8 wr => ∃ i : Nat, i ≤ 64 ∧ v8 = .int .i64 i ∧ Blk wr w.heap.size 33 TT.toArray ∧ Blk wr (w.heap.size + 1) 30 (i64s H).toArray ∧ Blk wr (w.heap.size + 2) 30 (i64s (List.replicate 8 0)).toArray ∧
    Blk wr (w.heap.size + 3) 31 (i64s (padW R i)).toArray ∧ Below w.heap.size w wr) (fun v8 _ => 64 - (intOf v8).toNat)
  case atStart => exact ⟨0, by omega, rfl, ((Blk.new w _ _).alloc _).alloc _ |>.alloc _, (Blk.new' (by simp)).alloc _ |>.alloc _, (show Blk _ _ _ (i64s (List.replicate 8 0)).toArray from Blk.new' (by simp)).alloc _, Blk.new' (by simp), below_al (below_al (below_al (below_al (Below.refl _ _) _) _) _) _⟩
  case round =>
    obtain ⟨i, hi, rfl, hT, hH, hZ, hW, hB⟩ := hrel
    by_cases hlt : i < 64
    · have hWl := padW_len (R := R) hi
      have hf := hW.frozen i
      have hd := blk_at hW (i := i) (get_i64 (by rw [hWl]; exact hlt))
      by_cases h16 : i < 16
      · have c0 := (hB.cell (p := ⟨g, o + 4 * i, none⟩) hglt).trans (HC.out (4 * i) (by omega))
        have c1 := (hB.cell (p := ⟨g, o + (4 * i + 1), none⟩) hglt).trans (HC.out (4 * i + 1) (by omega))
        have c2 := (hB.cell (p := ⟨g, o + (4 * i + 2), none⟩) hglt).trans (HC.out (4 * i + 2) (by omega))
        have c3 := (hB.cell (p := ⟨g, o + (4 * i + 3), none⟩) hglt).trans (HC.out (4 * i + 3) (by omega))
        have r0 := HR.out (4 * i)
        have r1 := HR.out (4 * i + 1)
        have r2 := HR.out (4 * i + 2)
        have r3 := HR.out (4 * i + 3)
        have hbe : beW R i = ow (ow (ow (lw (R.getD (4 * i) 0) 24) (lw (R.getD (4 * i + 1) 0) 16)) (lw (R.getD (4 * i + 2) 0) 8)) (R.getD (4 * i + 3) 0) := rfl
        obtain ⟨b0, hb0⟩ : ∃ b, R.getD (4 * i) 0 = b := ⟨_, rfl⟩
        obtain ⟨b1, hb1⟩ : ∃ b, R.getD (4 * i + 1) 0 = b := ⟨_, rfl⟩
        obtain ⟨b2, hb2⟩ : ∃ b, R.getD (4 * i + 2) 0 = b := ⟨_, rfl⟩
        obtain ⟨b3, hb3⟩ : ∃ b, R.getD (4 * i + 3) 0 = b := ⟨_, rfl⟩
        rw [hb0, hb1, hb2, hb3] at hbe
        rw [hb0] at c0 r0
        rw [hb1] at c1 r1
        rw [hb2] at c2 r2
        rw [hb3] at c3 r3
        rw [be_sum r0 r1 r2 r3] at hbe
        have HBE := Sl.mk hbe
        clear hbe hb0 hb1 hb2 hb3
        go_wp2_with fail
        refine wp_region_quiet_tail 35 (by kernel_rfl) (by kernel_rfl) ?_
        simp only [List.take_succ_cons, List.take_zero, List.drop_succ_cons, List.drop_zero]
        repeat (any_goals (first | go_big_quiet_step (fail) | quiet_step (fail)))
        refine wpQuiet_nil ?_
        intro _ hw'
        obtain ⟨nq, hw''⟩ := hw'
        subst hw''
        go_wp2_with fail
        go_roundw
        case rel =>
          refine ⟨i + 1, by omega, by go_num, (hT.drewN nq).far (by dsimp only; omega) _, (hH.drewN nq).far (by dsimp only; omega) _, (hZ.drewN nq).far (by dsimp only; omega) _, ?_, (below_drN hB nq).setCell (by dsimp only; omega) _⟩
          rw [← padW_set (x := b0 * 16777216 + b1 * 65536 + b2 * 256 + b3) hlt (by rw [if_pos h16, HBE.out])]
          have := set_i64 (hW.drewN nq) i (b0 * 16777216 + b1 * 65536 + b2 * 256 + b3)
          have e : ((b0 * 16777216 + b1 * 65536 + b2 * 256 + b3 : Nat) : Int) = (b0 : Int) * 16777216 + (b1 : Int) * 65536 + (b2 : Int) * 256 + (b3 : Int) := by omega
          rw [e] at this
          exact this
        case measure => simp [intOf]; omega
      · have hge : (16 : Int) ≤ (i : Int) := by omega
        have h16' : ¬ (i : Int) < 16 := by omega
        have hs32 := spread_lt (R := R) i
        have hx : (if i < 16 then beW R i else nextW (spreadF R i) i) = nextW (spreadF R i) i := by rw [if_neg h16]
        have c15 := blk_at hW (i := i - 15) (get_i64 (by rw [hWl]; omega))
        have c2 := blk_at hW (i := i - 2) (get_i64 (by rw [hWl]; omega))
        have c16 := blk_at hW (i := i - 16) (get_i64 (by rw [hWl]; omega))
        have c7 := blk_at hW (i := i - 7) (get_i64 (by rw [hWl]; omega))
        rw [padW_old (by omega)] at c15 c2 c16 c7
        have hne : nextW (spreadF R i) i = aw (aw (aw ((spreadF R i).getD (i - 16) 0) (xw (xw (rotw ((spreadF R i).getD (i - 15) 0) 7) (rotw ((spreadF R i).getD (i - 15) 0) 18)) (dw ((spreadF R i).getD (i - 15) 0) 3))) ((spreadF R i).getD (i - 7) 0)) (xw (xw (rotw ((spreadF R i).getD (i - 2) 0) 17) (rotw ((spreadF R i).getD (i - 2) 0) 19)) (dw ((spreadF R i).getD (i - 2) 0) 10)) := rfl
        have l0 := getD_lt hs32 (by omega) (i - 15)
        have l1 := getD_lt hs32 (by omega) (i - 2)
        have l2 := getD_lt hs32 (by omega) (i - 16)
        have l3 := getD_lt hs32 (by omega) (i - 7)
        obtain ⟨b0, hb0⟩ : ∃ b, (spreadF R i).getD (i - 15) 0 = b := ⟨_, rfl⟩
        obtain ⟨b1, hb1⟩ : ∃ b, (spreadF R i).getD (i - 2) 0 = b := ⟨_, rfl⟩
        obtain ⟨b2, hb2⟩ : ∃ b, (spreadF R i).getD (i - 16) 0 = b := ⟨_, rfl⟩
        obtain ⟨b3, hb3⟩ : ∃ b, (spreadF R i).getD (i - 7) 0 = b := ⟨_, rfl⟩
        rw [hb0, hb1, hb2, hb3] at hne
        rw [hb0] at c15 l0
        rw [hb1] at c2 l1
        rw [hb2] at c16 l2
        rw [hb3] at c7 l3
        have e1 := bits64_xor (rotw_lt b0 7) (rotw_lt b0 18)
        have e2 : bits .xor .i64 ((xw (rotw b0 7) (rotw b0 18) : Nat) : Int) ((b0 : Int) / 8) = ((xw (xw (rotw b0 7) (rotw b0 18)) (dw b0 3) : Nat) : Int) := by
          rw [← bits64_xor (xw_lt _ _) (dw_lt l0 3)]; rfl
        have e3 := bits64_xor (rotw_lt b1 17) (rotw_lt b1 19)
        have e4 : bits .xor .i64 ((xw (rotw b1 17) (rotw b1 19) : Nat) : Int) ((b1 : Int) / 1024) = ((xw (xw (rotw b1 17) (rotw b1 19)) (dw b1 10) : Nat) : Int) := by
          rw [← bits64_xor (xw_lt _ _) (dw_lt l1 10)]; rfl
        have HX := Sl.mk (hx.trans hne)
        clear hne hx hb0 hb1 hb2 hb3 hs32
        go_wp2_with fail
        go_quiet ((go_at_call 75; first | exact Calls.quiet_of (turned_i _ _ _ (by assumption) (by omega) (by omega)) | exact quiet_add (turned_i _ _ _ (by assumption) (by omega) (by omega))))
        obtain ⟨q1, rfl⟩ : ∃ q, q = nq := ⟨_, rfl⟩
        go_wp2_with fail
        go_quiet ((go_at_call 75; first | exact Calls.quiet_of (turned_i _ _ _ (by assumption) (by omega) (by omega)) | exact quiet_add (turned_i _ _ _ (by assumption) (by omega) (by omega))))
        obtain ⟨q2, rfl⟩ : ∃ q, q = nq := ⟨_, rfl⟩
        have lp := xw_lt (xw (rotw b0 7) (rotw b0 18)) (dw b0 3)
        have lq := xw_lt (xw (rotw b1 17) (rotw b1 19)) (dw b1 10)
        obtain ⟨p, hp⟩ : ∃ p, xw (xw (rotw b0 7) (rotw b0 18)) (dw b0 3) = p := ⟨_, rfl⟩
        obtain ⟨q, hq⟩ : ∃ q, xw (xw (rotw b1 17) (rotw b1 19)) (dw b1 10) = q := ⟨_, rfl⟩
        rw [hp, hq] at HX
        rw [hp] at lp
        rw [hq] at lq
        rw [hp, hq]
        clear e1 e2 e3 e4 hp hq
        go_wp2_with fail
        refine wp_region_quiet_tail 16 (by kernel_rfl) (by kernel_rfl) ?_
        simp only [List.take_succ_cons, List.take_zero, List.drop_succ_cons, List.drop_zero]
        repeat (any_goals (first | go_big_quiet_step (fail) | quiet_step (fail)))
        refine wpQuiet_nil ?_
        intro _ hw'
        obtain ⟨nq, hw''⟩ := hw'
        subst hw''
        go_wp2_with fail
        go_roundw
        case rel =>
          refine ⟨i + 1, by omega, by go_num, (hT.drewN _).far (by dsimp only; omega) _, (hH.drewN _).far (by dsimp only; omega) _, (hZ.drewN _).far (by dsimp only; omega) _, ?_, (below_drN hB _).setCell (by dsimp only; omega) _⟩
          rw [← padW_set (x := aw (aw (aw b2 p) b3) q) hlt HX.out.symm]
          have e : ((b2 : Int) + p + b3 + q) % 4294967296 = ((aw (aw (aw b2 p) b3) q : Nat) : Int) := by unfold aw; omega
          refine set_i64' (hW.drewN _) i _ _ e
        case measure => simp [intOf]; omega
    · have hi64 : i = 64 := by omega
      have hd64 : decide ((i : Int) < 64) = false := by simp; omega
      have hHl := HHL.out
      have hh : ∀ k, k < 8 → wr.cell? ⟨w.heap.size + 1, k, none⟩ = some (.int .i64 ((H.getD k 0 : Nat) : Int)) := fun k hk => blk_at hH (get_i64 (by rw [hHl]; exact hk))
      have h0 := hh 0 (by omega)
      have h1 := hh 1 (by omega)
      have h2 := hh 2 (by omega)
      have h3 := hh 3 (by omega)
      have h4 := hh 4 (by omega)
      have h5 := hh 5 (by omega)
      have h6 := hh 6 (by omega)
      have h7 := hh 7 (by omega)
      rw [hi64, padW_64] at hW
      obtain ⟨Ws, hWs⟩ : ∃ Ws, spreadF R 64 = Ws := ⟨_, rfl⟩
      have hWl : Ws.length = 64 := by rw [← hWs, spreadF_len]
      have hW32 : ∀ y ∈ Ws, y < 4294967296 := by rw [← hWs]; exact spread_lt 64
      rw [hWs] at hW
      have HWS := Sl.mk hWs
      have HWL := Sl.mk hWl
      have HW32 := Sl.mk hW32
      clear hh hHl hWs hWl hW32 hi64
      obtain ⟨w0, hw0⟩ : ∃ w0, w0 = wr := ⟨_, rfl⟩
      subst hw0
      have n0 : w.heap.size + 3 < w0.heap.size := hW.lt
      have tA := hT.lt
      go_upto_region 10 with fail
      go_cut [11, 12, 13, 14] (fun v11 v12 v13 v14 wx => ∃ ga gc ge gg : Nat, v11 = .pointer (some ⟨ga, 0, none⟩) ∧ v12 = .pointer (some ⟨gc, 0, none⟩) ∧ v13 = .pointer (some ⟨ge, 0, none⟩) ∧ v14 = .pointer (some ⟨gg, 0, none⟩) ∧ ga ≠ gc ∧ ga ≠ ge ∧ ga ≠ gg ∧ gc ≠ ge ∧ gc ≠ gg ∧ ge ≠ gg ∧ w0.heap.size ≤ ga ∧ w0.heap.size ≤ gc ∧ w0.heap.size ≤ ge ∧ w0.heap.size ≤ gg ∧ Blk wx ga 126 (i64s [H.getD 0 0, H.getD 1 0]).toArray ∧ Blk wx gc 126 (i64s [H.getD 2 0, H.getD 3 0]).toArray ∧ Blk wx ge 126 (i64s [H.getD 4 0, H.getD 5 0]).toArray ∧ Blk wx gg 126 (i64s [H.getD 6 0, H.getD 7 0]).toArray ∧ Below w0.heap.size w0 wx)
      case first =>
        have h00 : w.heap.size + 1 < w0.heap.size := hH.lt
        refine wp_region_noPanic ?_
        refine wp_region_takes (n := 20) (Below w0.heap.size w0) (by kernel_rfl) (by kernel_rfl) (fun _ _ _ _ _ h => h) (Below.refl _ w0).drew ?_
        have e8 : ∀ k, k < 8 → ∀ w', Below w0.heap.size w0 w' → w'.cell? ⟨w.heap.size + 1, k, none⟩ = some (.int .i64 ((H.getD k 0 : Nat) : Int)) := fun k hk w' hb => (hb.cell (p := ⟨w.heap.size + 1, k, none⟩) h00).trans (blk_at hH (get_i64 (by rw [HHL.out]; exact hk)))
        iterate 20 (refine wpTake_step ?_ (by rfl) (fun w' hw' => ?_) ?_; rotate_left 1; (have c0 := e8 0 (by omega) w' hw'; have c1 := e8 1 (by omega) w' hw'; have c2 := e8 2 (by omega) w' hw'; have c3 := e8 3 (by omega) w' hw'; have c4 := e8 4 (by omega) w' hw'; have c5 := e8 5 (by omega) w' hw'; have c6 := e8 6 (by omega) w' hw'; have c7 := e8 7 (by omega) w' hw'; go_simp; rfl); rotate_left 1)
        refine wpAnyH_allocs (f := 4) (g := 4) (w0 := w0) (N := w0.heap.size) (t := 126) (zc := #[.int .i64 0, .int .i64 0]) (all := [(20, 11), (21, 12), (22, 13), (23, 14)]) (E := markN 24 0 (Array.replicate 28 false)) (fun x hx => ?_) (by decide) rfl (fun _ h => h) (fun G a w' hd hall => ?_) [(20, 11), (21, 12), (22, 13), (23, 14)] _ _ _ (fun _ => none) (by kernel_rfl) (fun _ h => h) (fun _ _ => rfl) (fun _ h => .inl h) ⟨rfl, rfl, fun _ _ => rfl, fun _ _ h => (by cases h), fun _ _ _ h => (by cases h), fun _ _ h => (by cases h), fun _ _ h => (by cases h), (Below.refl _ w0).drew⟩
        · simp only [List.mem_cons, List.not_mem_nil, or_false] at hx
          rcases hx with rfl | rfl | rfl | rfl
          all_goals refine ⟨by simp [Act.put], _, rfl, rfl, fun _ => rfl, fun ρ w' => ?_⟩
          all_goals (first | (go_simp; done) | (go_simp; rfl))
        obtain ⟨ga, g0⟩ := hall (20, 11) (by simp)
        obtain ⟨gc, g1⟩ := hall (21, 12) (by simp)
        obtain ⟨ge, g2⟩ := hall (22, 13) (by simp)
        obtain ⟨gg, g3⟩ := hall (23, 14) (by simp)
        have ea := hd.four g0 g1 g2 g3 (by decide) (by decide) (by decide) (by decide) (by decide) (by decide)
        obtain ⟨na, hA⟩ := hd.blk _ _ g0
        obtain ⟨nc, hC⟩ := hd.blk _ _ g1
        obtain ⟨ne, hE⟩ := hd.blk _ _ g2
        obtain ⟨ng, hGG⟩ := hd.blk _ _ g3
        have q1 : ga ≠ gc := fun e => by have := hd.inj _ _ _ g0 (e ▸ g1); cases this
        have q2 : ga ≠ ge := fun e => by have := hd.inj _ _ _ g0 (e ▸ g2); cases this
        have q3 : ga ≠ gg := fun e => by have := hd.inj _ _ _ g0 (e ▸ g3); cases this
        have q4 : gc ≠ ge := fun e => by have := hd.inj _ _ _ g1 (e ▸ g2); cases this
        have q5 : gc ≠ gg := fun e => by have := hd.inj _ _ _ g1 (e ▸ g3); cases this
        have q6 : ge ≠ gg := fun e => by have := hd.inj _ _ _ g2 (e ▸ g3); cases this
        have hBw := hd.below
        clear hd hall g0 g1 g2 g3
        subst ea
        simp only [Act.put, List.setIfInBounds_toArray, List.set_cons_zero, List.set_cons_succ]
        refine wpAnyH_store (k := 24) (g := 3) (by kernel_rfl) rfl (by rfl) 126 (.tmp 11) (.tmp 117) rfl rfl ga 126 [.int .i64 0, .int .i64 0] _ hA rfl rfl rfl (by rw [info70]; rfl) (pair_one rfl rfl) (fun w1 hA1 hG1 => ⟨below_only hBw hG1 hBw.size na, ?_⟩)
        have hB1 := below_only hBw hG1 hBw.size na
        have hC1 := blk_only hC hG1 (Ne.symm q1)
        have hE1 := blk_only hE hG1 (Ne.symm q2)
        have hH1 := blk_only hGG hG1 (Ne.symm q3)
        refine wpAnyH_store (k := 25) (g := 2) (by kernel_rfl) rfl (by rfl) 126 (.tmp 12) (.tmp 122) rfl rfl gc 126 [.int .i64 0, .int .i64 0] _ hC1 rfl rfl rfl (by rw [info70]; rfl) (pair_one rfl rfl) (fun w2 hC2 hG2 => ⟨below_only hB1 hG2 hB1.size nc, ?_⟩)
        have hB2 := below_only hB1 hG2 hB1.size nc
        have hA2 := blk_only hA1 hG2 q1
        have hE2 := blk_only hE1 hG2 (Ne.symm q4)
        have hH2 := blk_only hH1 hG2 (Ne.symm q5)
        refine wpAnyH_store (k := 26) (g := 1) (by kernel_rfl) rfl (by rfl) 126 (.tmp 13) (.tmp 127) rfl rfl ge 126 [.int .i64 0, .int .i64 0] _ hE2 rfl rfl rfl (by rw [info70]; rfl) (pair_one rfl rfl) (fun w3 hE3 hG3 => ⟨below_only hB2 hG3 hB2.size ne, ?_⟩)
        have hB3 := below_only hB2 hG3 hB2.size ne
        have hA3 := blk_only hA2 hG3 q2
        have hC3 := blk_only hC2 hG3 q4
        have hH3 := blk_only hH2 hG3 (Ne.symm q6)
        refine wpAnyH_store (k := 27) (g := 0) (by kernel_rfl) rfl (by rfl) 126 (.tmp 14) (.tmp 132) rfl rfl gg 126 [.int .i64 0, .int .i64 0] _ hH3 rfl rfl rfl (by rw [info70]; rfl) (pair_one rfl rfl) (fun w4 hH4 hG4 => ⟨below_only hB3 hG4 hB3.size ng, ?_⟩)
        have hB4 := below_only hB3 hG4 hB3.size ng
        have hA4 := blk_only hA3 hG4 q3
        have hC4 := blk_only hC3 hG4 q5
        have hE4 := blk_only hE3 hG4 q6
        refine wpAnyH_done (by kernel_rfl) ?_ _
        refine NoPanic.normal ?_
        clear hA hC hE hGG hBw hB1 hC1 hE1 hH1 hB2 hA2 hE2 hH2 hB3 hA3 hC3 hH3 hG1 hG2 hG3 hG4
        (try go_wp2_with fail)
        go_meet
        exact ⟨ga, gc, ge, gg, rfl, rfl, rfl, rfl, q1, q2, q3, q4, q5, q6, na, nc, ne, ng, hA4, hC4, hE4, hH4, hB4⟩
      case rest =>
        obtain ⟨ga, gc, ge, gg, rfl, rfl, rfl, rfl, q1, q2, q3, q4, q5, q6, na, nc, ne, ng, hA4, hC4, hE4, hH4, hB4⟩ := hcut
        clear h0 h1 h2 h3 h4 h5 h6 h7
        go_wp2_with fail
        go_loopw [15] (fun v15 wr => ∃ i : Nat, i ≤ 64 ∧ v15 = .int .i64 i ∧ Blk wr ga 126 (i64s [atV (mixV H Ws i) 0 i, atV (mixV H Ws i) 1 i]).toArray ∧ Blk wr gc 126 (i64s [atV (mixV H Ws i) 2 i, atV (mixV H Ws i) 3 i]).toArray ∧
          Blk wr ge 126 (i64s [atV (mixV H Ws i) 4 i, atV (mixV H Ws i) 5 i]).toArray ∧ Blk wr gg 126 (i64s [atV (mixV H Ws i) 6 i, atV (mixV H Ws i) 7 i]).toArray ∧ Below w0.heap.size w0 wr) (fun v15 _ => 64 - (intOf v15).toNat)
        case atStart => exact ⟨0, by omega, rfl, hA4, hC4, hE4, hH4, hB4⟩
        case round =>
          obtain ⟨i, hi, rfl, hA, hC, hE, hGG, hBw⟩ := hrel
          clear hA4 hC4 hE4 hH4 hB4
          by_cases hlt : i < 64
          · obtain ⟨s0, s1, s2, s3, s4, s5, s6, s7⟩ := step_regs (V := mixV H Ws i) (i := i) (rk := KT.getD i 0) (wi := Ws.getD i 0) (by rw [mixV_len, HHL.out]) hlt
            have es : stepV (mixV H Ws i) i (KT.getD i 0) (Ws.getD i 0) = mixV H Ws (i + 1) := rfl
            rw [es] at s0 s1 s2 s3 s4 s5 s6 s7
            have hv32 := mixV_lt (Ws := Ws) HH32.out i
            have l0 : atV (mixV H Ws i) 0 i < 4294967296 := getD_lt hv32 (by omega) _
            have l1 : atV (mixV H Ws i) 1 i < 4294967296 := getD_lt hv32 (by omega) _
            have l2 : atV (mixV H Ws i) 2 i < 4294967296 := getD_lt hv32 (by omega) _
            have l3 : atV (mixV H Ws i) 3 i < 4294967296 := getD_lt hv32 (by omega) _
            have l4 : atV (mixV H Ws i) 4 i < 4294967296 := getD_lt hv32 (by omega) _
            have l5 : atV (mixV H Ws i) 5 i < 4294967296 := getD_lt hv32 (by omega) _
            have l6 : atV (mixV H Ws i) 6 i < 4294967296 := getD_lt hv32 (by omega) _
            have l7 : atV (mixV H Ws i) 7 i < 4294967296 := getD_lt hv32 (by omega) _
            have lk := getD_lt KT_lt (by omega) i
            have lw := getD_lt HW32.out (by omega) i
            have ck := (hBw.cell (p := ⟨w.heap.size, 8 + i, none⟩) tA).trans (blk_at hT (HK.out i hlt))
            have cw := (hBw.cell (p := ⟨w.heap.size + 3, i, none⟩) n0).trans (blk_at hW (get_i64 (by rw [HWL.out]; exact hlt)))
            obtain ⟨x0, e0⟩ : ∃ x, atV (mixV H Ws i) 0 i = x := ⟨_, rfl⟩
            obtain ⟨x1, e1⟩ : ∃ x, atV (mixV H Ws i) 1 i = x := ⟨_, rfl⟩
            obtain ⟨x2, e2⟩ : ∃ x, atV (mixV H Ws i) 2 i = x := ⟨_, rfl⟩
            obtain ⟨x3, e3⟩ : ∃ x, atV (mixV H Ws i) 3 i = x := ⟨_, rfl⟩
            obtain ⟨x4, e4⟩ : ∃ x, atV (mixV H Ws i) 4 i = x := ⟨_, rfl⟩
            obtain ⟨x5, e5⟩ : ∃ x, atV (mixV H Ws i) 5 i = x := ⟨_, rfl⟩
            obtain ⟨x6, e6⟩ : ∃ x, atV (mixV H Ws i) 6 i = x := ⟨_, rfl⟩
            obtain ⟨x7, e7⟩ : ∃ x, atV (mixV H Ws i) 7 i = x := ⟨_, rfl⟩
            obtain ⟨rk, ek⟩ : ∃ x, KT.getD i 0 = x := ⟨_, rfl⟩
            obtain ⟨wi, ew⟩ : ∃ x, Ws.getD i 0 = x := ⟨_, rfl⟩
            rw [e0] at l0
            rw [e1] at l1
            rw [e2] at l2
            rw [e3] at l3
            rw [e4] at l4
            rw [e5] at l5
            rw [e6] at l6
            rw [e7] at l7
            rw [ek] at lk ck
            rw [ew] at lw cw
            rw [e0, e1, e2, e4, e5, e6, e7, ek, ew] at s0
            rw [e3, e4, e5, e6, e7, ek, ew] at s4
            rw [e0] at s1
            rw [e1] at s2
            rw [e2] at s3
            rw [e4] at s5
            rw [e5] at s6
            rw [e6] at s7
            rw [e0, e1] at hA
            rw [e2, e3] at hC
            rw [e4, e5] at hE
            rw [e6, e7] at hGG
            have S0 := Sl.mk s0
            have S1 := Sl.mk s1
            have S2 := Sl.mk s2
            have S3 := Sl.mk s3
            have S4 := Sl.mk s4
            have S5 := Sl.mk s5
            have S6 := Sl.mk s6
            have S7 := Sl.mk s7
            clear s0 s1 s2 s3 s4 s5 s6 s7 es hv32 e0 e1 e2 e3 e4 e5 e6 e7 ek ew
            have a0 := blk_at hA (i := 0) (v := .int .i64 (x0 : Int)) rfl
            have a1 := blk_at hA (i := 1) (v := .int .i64 (x1 : Int)) rfl
            have b0 := blk_at hC (i := 0) (v := .int .i64 (x2 : Int)) rfl
            have d0 := blk_at hE (i := 0) (v := .int .i64 (x4 : Int)) rfl
            have d1 := blk_at hE (i := 1) (v := .int .i64 (x5 : Int)) rfl
            have g0 := blk_at hGG (i := 0) (v := .int .i64 (x6 : Int)) rfl
            have g1 := blk_at hGG (i := 1) (v := .int .i64 (x7 : Int)) rfl
            have n1 := nw_lt x4 x5
            have n2 := nw_lt (4294967295 - x4) x6
            have f1 := bits64_and l4 l5
            have f2 : bits .and .i64 (4294967295 - (x4 : Int)) (x6 : Int) = ((nw (4294967295 - x4) x6 : Nat) : Int) := by
              rw [← bits64_and (show 4294967295 - x4 < 4294967296 by omega) l6]; congr 1; omega
            have f3 := bits64_and l0 l1
            have f4 := bits64_and l0 l2
            have f5 := bits64_and l1 l2
            have f6 := bits64_or (nw_lt x0 x1) (nw_lt x0 x2)
            have f7 := bits64_or (ow_lt (nw x0 x1) (nw x0 x2)) (nw_lt x1 x2)
            have g2 := bits64_xor (rotw_lt x4 6) (rotw_lt x4 11)
            have g3 := bits64_xor (xw_lt (rotw x4 6) (rotw x4 11)) (rotw_lt x4 25)
            have g4 := bits64_xor (rotw_lt x0 2) (rotw_lt x0 13)
            have g5 := bits64_xor (xw_lt (rotw x0 2) (rotw x0 13)) (rotw_lt x0 22)
            have m1 := ow_lt (ow (nw x0 x1) (nw x0 x2)) (nw x1 x2)
            have m2 := xw_lt (xw (rotw x4 6) (rotw x4 11)) (rotw x4 25)
            have m3 := xw_lt (xw (rotw x0 2) (rotw x0 13)) (rotw x0 22)
            have HCH := Sl.mk (choice_eq l4 l5 l6)
            have HMO := Sl.mk (most_eq l0 l1 l2)
            go_wp2_with fail
            go_quiet ((go_at_call 75; first | exact Calls.quiet_of (turned_i _ _ _ (by assumption) (by omega) (by omega)) | exact quiet_add (turned_i _ _ _ (by assumption) (by omega) (by omega))))
            obtain ⟨q1n, rfl⟩ : ∃ q, q = nq := ⟨_, rfl⟩
            go_wp2_with fail
            go_quiet ((go_at_call 75; first | exact Calls.quiet_of (turned_i _ _ _ (by assumption) (by omega) (by omega)) | exact quiet_add (turned_i _ _ _ (by assumption) (by omega) (by omega))))
            obtain ⟨q2n, rfl⟩ : ∃ q, q = nq := ⟨_, rfl⟩
            have hBd := below_drN hBw (q1n + q2n)
            have hAd := hA.drewN (q1n + q2n)
            have hCd := hC.drewN (q1n + q2n)
            have hEd := hE.drewN (q1n + q2n)
            have hGd := hGG.drewN (q1n + q2n)
            go_wp2_with (refine wpList_store_pair rfl (.tmp 14) (.tmp 208) rfl gg _ _ _ _ hGd rfl rfl rfl rfl ?_)
            intro w6 hG6 hgr6 _
            have hA6 := blk_only hAd hgr6 q3
            have hC6 := blk_only hCd hgr6 q5
            have hE6 := blk_only hEd hgr6 q6
            have hB6 := below_only hBd hgr6 hBd.size ng
            have k1 := blk_at hC6 (i := 1) (v := .int .i64 (x3 : Int)) rfl
            have k2 := blk_at hE6 (i := 0) (v := .int .i64 (x4 : Int)) rfl
            clear hAd hCd hEd hGd hBd hgr6 hA hC hE hGG a0 a1 b0 d0 d1 g0 g1 ck cw
            go_wp2_with (refine wpList_store_pair rfl (.tmp 13) (.tmp 216) rfl ge _ _ _ _ hE6 rfl rfl rfl rfl ?_)
            intro w7 hE7 hgr7 _
            have hA7 := blk_only hA6 hgr7 q2
            have hC7 := blk_only hC6 hgr7 q4
            have hG7 := blk_only hG6 hgr7 (Ne.symm q6)
            have hB7 := below_only hB6 hgr7 hB6.size ne
            have k3 := blk_at hA7 (i := 1) (v := .int .i64 (x1 : Int)) rfl
            have k4 := blk_at hC7 (i := 0) (v := .int .i64 (x2 : Int)) rfl
            clear hA6 hC6 hE6 hG6 hB6 hgr7 k1 k2
            go_wp2_with (refine wpList_store_pair rfl (.tmp 12) (.tmp 221) rfl gc _ _ _ _ hC7 rfl rfl rfl rfl ?_)
            intro w8 hC8 hgr8 _
            have hA8 := blk_only hA7 hgr8 q1
            have hE8 := blk_only hE7 hgr8 (Ne.symm q4)
            have hG8 := blk_only hG7 hgr8 (Ne.symm q5)
            have hB8 := below_only hB7 hgr8 hB7.size nc
            have k5 := blk_at hA8 (i := 0) (v := .int .i64 (x0 : Int)) rfl
            clear hA7 hC7 hE7 hG7 hB7 hgr8 k3 k4
            go_wp2_with (refine wpList_store_pair rfl (.tmp 11) (.tmp 228) rfl ga _ _ _ _ hA8 rfl rfl rfl rfl ?_)
            intro w9 hA9 hgr9 _
            have hC9 := blk_only hC8 hgr9 (Ne.symm q1)
            have hE9 := blk_only hE8 hgr9 (Ne.symm q2)
            have hG9 := blk_only hG8 hgr9 (Ne.symm q3)
            have hB9 := below_only hB8 hgr9 hB8.size na
            clear hA8 hC8 hE8 hG8 hB8 hgr9 k5
            go_wp2_with fail
            go_roundw
            case rel =>
              refine ⟨i + 1, by omega, by go_num, blk_pair hA9 ?_ (by rw [S1.out]), blk_pair hC9 (by rw [S2.out]) (by rw [S3.out]), blk_pair hE9 ?_ (by rw [S5.out]), blk_pair hG9 (by rw [S6.out]) (by rw [S7.out]), hB9⟩
              · rw [S0.out]; exact turnU_eq l0 l1 l2 l4 l5 l6
              · rw [S4.out]; exact turnT_eq l4 l5 l6
            case measure => simp [intOf]; omega
          · have hi64' : i = 64 := by omega
            have hd64' : decide ((i : Int) < 64) = false := by simp; omega
            obtain ⟨V, hV⟩ : ∃ V, mixV H Ws 64 = V := ⟨_, rfl⟩
            have hVl : V.length = 8 := by rw [← hV, mixV_len, HHL.out]
            have e : ∀ k, k < 8 → atV (mixV H Ws i) k i = V.getD k 0 := fun k hk => by
              rw [hi64', hV]
              show V.getD (pos k 64) 0 = _
              rw [show pos k 64 = k by unfold pos; omega]
            rw [e 0 (by omega), e 1 (by omega)] at hA
            rw [e 2 (by omega), e 3 (by omega)] at hC
            rw [e 4 (by omega), e 5 (by omega)] at hE
            rw [e 6 (by omega), e 7 (by omega)] at hGG
            have hL8 := list8 hVl
            have hv32 : ∀ y ∈ V, y < 4294967296 := by rw [← hV]; exact mixV_lt HH32.out 64
            have HV32 := Sl.mk hv32
            have HVL := Sl.mk hVl
            have hZV : mixF H R = List.zipWith aw H V := by unfold mixF; rw [HWS.out, hV]
            have HZV := Sl.mk hZV
            obtain ⟨y0, e0⟩ : ∃ x, V.getD 0 0 = x := ⟨_, rfl⟩
            obtain ⟨y1, e1⟩ : ∃ x, V.getD 1 0 = x := ⟨_, rfl⟩
            obtain ⟨y2, e2⟩ : ∃ x, V.getD 2 0 = x := ⟨_, rfl⟩
            obtain ⟨y3, e3⟩ : ∃ x, V.getD 3 0 = x := ⟨_, rfl⟩
            obtain ⟨y4, e4⟩ : ∃ x, V.getD 4 0 = x := ⟨_, rfl⟩
            obtain ⟨y5, e5⟩ : ∃ x, V.getD 5 0 = x := ⟨_, rfl⟩
            obtain ⟨y6, e6⟩ : ∃ x, V.getD 6 0 = x := ⟨_, rfl⟩
            obtain ⟨y7, e7⟩ : ∃ x, V.getD 7 0 = x := ⟨_, rfl⟩
            rw [e0, e1, e2, e3, e4, e5, e6, e7] at hL8
            rw [e0, e1] at hA
            rw [e2, e3] at hC
            rw [e4, e5] at hE
            rw [e6, e7] at hGG
            have HL8 := Sl.mk hL8
            clear e e0 e1 e2 e3 e4 e5 e6 e7 hL8 hV hVl hv32 hZV hi64'
            have a0 := blk_at hA (i := 0) (v := .int .i64 (y0 : Int)) rfl
            have a1 := blk_at hA (i := 1) (v := .int .i64 (y1 : Int)) rfl
            have b0 := blk_at hC (i := 0) (v := .int .i64 (y2 : Int)) rfl
            have b1 := blk_at hC (i := 1) (v := .int .i64 (y3 : Int)) rfl
            have d0 := blk_at hE (i := 0) (v := .int .i64 (y4 : Int)) rfl
            have d1 := blk_at hE (i := 1) (v := .int .i64 (y5 : Int)) rfl
            have g0 := blk_at hGG (i := 0) (v := .int .i64 (y6 : Int)) rfl
            have g1 := blk_at hGG (i := 1) (v := .int .i64 (y7 : Int)) rfl
            have h18' := i64s_one [y0, y1, y2, y3, y4, y5, y6, y7]
            obtain ⟨wo, hwo⟩ : ∃ wo, wo = wr := ⟨_, rfl⟩
            subst hwo
            go_wp2_with (refine wpList_store_fresh rfl 30 (.tmp 20) (.tmp 245) rfl 30 (i64s (List.replicate 8 0)) (i64s [y0, y1, y2, y3, y4, y5, y6, y7]) _ rfl rfl rfl (by rfl) (by rw [info42]; rfl) h18' ?_)
            intro w5 hL5 hB5 _
            have hBz := hBw.trans (hB5.mono hBw.size)
            have HLo := hBw.size
            rw [← HL8.out] at hL5
            have hZl : (mixF H R).length = 8 := by rw [HZV.out, List.length_zipWith, HHL.out, HVL.out]; rfl
            obtain ⟨Z, hZe⟩ : ∃ Z, mixF H R = Z := ⟨_, rfl⟩
            have HZE := Sl.mk hZe
            rw [hZe] at hZl
            have HZL := Sl.mk hZl
            have hZV2 := HZV.out
            rw [hZe] at hZV2
            have HZ2 := Sl.mk hZV2
            have h1Z := i64s_one Z
            clear hA hC hE hGG a0 a1 b0 b1 d0 d1 g0 g1 h18' hB5 hBw hZe hZl hZV2 q1 q2 q3 q4 q5 q6 na nc ne ng h1t h1h h18 h164
            go_wp2_with fail
            go_loopw [21] (fun v21 wx => ∃ j : Nat, j ≤ 8 ∧ v21 = .int .i64 j ∧ Blk wx wo.heap.size 30 (i64s (Z.take j ++ V.drop j)).toArray ∧ Below w0.heap.size w0 wx) (fun v21 _ => 8 - (intOf v21).toNat)
            case atStart => exact ⟨0, by omega, rfl, by simpa using hL5, hBz⟩
            case round =>
              obtain ⟨j, hj, rfl, hL, hBx⟩ := hrel
              clear hL5 hBz
              by_cases hj8 : j < 8
              · have hj8' : decide ((j : Int) < 8) = true := by simp; omega
                have hlen : (Z.take j ++ V.drop j).length = 8 := by rw [List.length_append, List.length_take, List.length_drop, HZL.out, HVL.out]; omega
                have hzv : Z.length = V.length := by rw [HZL.out, HVL.out]
                have c0 := blk_at hL (i := j) (get_i64 (by rw [hlen]; exact hj8))
                rw [td_get hzv (by rw [HVL.out]; exact hj8)] at c0
                have f0 := hL.frozen j
                have c1 := (hBx.cell (p := ⟨w.heap.size + 1, j, none⟩) hH.lt).trans (blk_at hH (get_i64 (by rw [HHL.out]; exact hj8)))
                have l0 : V.getD j 0 < 4294967296 := getD_lt HV32.out (by omega) _
                have l1 : H.getD j 0 < 4294967296 := getD_lt HH32.out (by omega) _
                have hzj : Z.getD j 0 = (V.getD j 0 + H.getD j 0) % 4294967296 := by
                  rw [HZ2.out]
                  simp [List.getD, HHL.out, HVL.out, hj8, aw, Nat.add_comm]
                have hset := td_set hzv (show j < V.length by rw [HVL.out]; exact hj8)
                rw [hzj] at hset
                obtain ⟨a, ea⟩ : ∃ x, V.getD j 0 = x := ⟨_, rfl⟩
                obtain ⟨b, eb⟩ : ∃ x, H.getD j 0 = x := ⟨_, rfl⟩
                rw [ea] at c0 l0
                rw [eb] at c1 l1
                rw [ea, eb] at hset
                have HS := Sl.mk hset
                clear hset hzj ea eb hlen hzv
                go_wp2_with fail
                refine wp_region_quiet_tail 10 (by kernel_rfl) (by kernel_rfl) ?_
                simp only [List.take_succ_cons, List.take_zero, List.drop_succ_cons, List.drop_zero]
                repeat (any_goals (first | go_big_quiet_step (fail) | quiet_step (fail)))
                refine wpQuiet_nil ?_
                intro _ hw'
                obtain ⟨nq, hw''⟩ := hw'
                subst hw''
                go_wp2_with fail
                go_roundw
                case rel =>
                  refine ⟨j + 1, by omega, by go_num, ?_, (below_drN hBx _).setCell (by dsimp only; omega) _⟩
                  rw [← HS.out]
                  exact set_i64' (hL.drewN _) j _ _ (by omega)
                case measure => simp [intOf]; omega
              · have hj8' : decide ((j : Int) < 8) = false := by simp; omega
                have hj88 : j = 8 := by omega
                have eZ : Z.take j ++ V.drop j = Z := by rw [hj88, List.take_of_length_le (by rw [HZL.out]; omega), List.drop_of_length_le (by rw [HVL.out]; omega), List.append_nil]
                rw [eZ] at hL
                have hZx : Blk wr (w.heap.size + 2) 30 (i64s (List.replicate 8 0)).toArray := (hBx.block _ hZ.lt).trans hZ
                clear eZ hj88
                have HZI : Sl ((i64s Z).length = 8) := .mk (by rw [i64s_len, HZL.out])
                have HRI : Sl ((i64s (List.replicate 8 0)).length = 8) := .mk rfl
                go_wp2_with (first
                  | (refine wpList_load_row rfl 30 (.tmp 20) rfl wo.heap.size rfl 30 (i64s Z).toArray (0, 0) _ hL Tryz.underlying30 rfl (by rw [info42, List.size_toArray, HZI.out]) ?_)
                  | (refine wpList_store_blk rfl 30 (.tmp 6) (.tmp 260) rfl (w.heap.size + 2) 0 30 (i64s (List.replicate 8 0)) (i64s Z) hZx rfl rfl (by have := HZI.out; have := HRI.out; omega) (by rw [info42, HZI.out]) h1Z ?_))
                intro w9 hZ9 hG9 _
                rw [List.drop_of_length_le (show (i64s [0, 0, 0, 0, 0, 0, 0, 0]).length ≤ (i64s Z).length by rw [HZI.out]; decide), List.append_nil] at hZ9
                have hEE := below_only (hB.trans (hBx.mono hB.size)) hG9 (Nat.le_trans hB.size hBx.size) (by omega)
                clear hG9
                go_wp2_with fail
                refine bodyPost_ret (v := .agg (i64s Z).toArray) (results_cell_row Tryz.results58 _ _ (w.heap.size + 2) 30 (i64s Z).toArray (0, 0) _ rfl hZ9 Tryz.underlying30 rfl (by rw [info42, List.size_toArray, HZI.out])) rfl ?_
                exact ⟨by rw [HZE.out], hEE⟩

end Go.Proofs.YticcphppnmoogaaGreatDoor
