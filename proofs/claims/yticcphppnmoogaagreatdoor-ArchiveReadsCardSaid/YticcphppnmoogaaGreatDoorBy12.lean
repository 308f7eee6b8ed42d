/-
  The contract of mix: a block more.
-/
import Derived.Test.YticcphppnmoogaaGreatDoorBy11

namespace Go.Proofs.YticcphppnmoogaaGreatDoor
open Go.RowKit
attribute [local go_sem ↓] Go.wp_at_zero Go.wp_at_succ

def KT : List Nat := [1116352408, 1899447441, 3049323471, 3921009573, 961987163, 1508970993, 2453635748, 2870763221, 3624381080, 310598401, 607225278, 1426881987, 1925078388, 2162078206, 2614888103, 3248222580, 3835390401, 4022224774, 264347078, 604807628, 770255983, 1249150122, 1555081692, 1996064986, 2554220882, 2821834349, 2952996808, 3210313671, 3336571891, 3584528711, 113926993, 338241895, 666307205, 773529912, 1294757372, 1396182291, 1695183700, 1986661051, 2177026350, 2456956037, 2730485921, 2820302411, 3259730800, 3345764771, 3516065817, 3600352804, 4094571909, 275423344, 430227734, 506948616, 659060556, 883997877, 958139571, 1322822218, 1537002063, 1747873779, 1955562222, 2024104815, 2227730452, 2361852424, 2428436474, 2756734187, 3204031479, 3329325298]
def FT : List Nat := [1779033703, 3144134277, 1013904242, 2773480762, 1359893119, 2600822924, 528734635, 1541459225]
/-- The two tables, in memory. -/
def Tabs (w : World) : Prop := 2 < w.heap.size ∧ (∀ i, i < 64 → w.cell? ⟨2, i, none⟩ = some (.int .u32 ((KT.getD i 0 : Nat) : Int))) ∧ ∀ i, i < 8 → w.cell? ⟨0, i, none⟩ = some (.int .u32 ((FT.getD i 0 : Nat) : Int))
theorem Tabs.below {w w' : World} {B : Nat} (h : Tabs w) (hb : Below B w w') (hB : 2 < B) : Tabs w' :=
  ⟨Nat.lt_of_lt_of_le h.1 hb.size, fun i hi => (hb.cell (p := ⟨2, i, none⟩) (show 2 < B by omega)).trans (h.2.1 i hi), fun i hi => (hb.cell (p := ⟨0, i, none⟩) (show 0 < B by omega)).trans (h.2.2 i hi)⟩
theorem Tabs.only {w w' : World} {g : Nat} (h : Tabs w) (hb : w.grownBy w' (some g)) (hg : 2 < g) : Tabs w' :=
  ⟨Nat.lt_of_lt_of_le h.1 hb.size, fun i hi => (World.cell?_of_block (hb.block 2 (by have := h.1; omega) (by intro e; injection e with e; omega))).trans (h.2.1 i hi),
    fun i hi => (World.cell?_of_block (hb.block 0 (by have := h.1; omega) (by intro e; injection e with e; omega))).trans (h.2.2 i hi)⟩

def pos (k i : Nat) : Nat := (k + 64 - i) % 8
theorem pos_lt (k i : Nat) : pos k i < 8 := Nat.mod_lt _ (by decide)
theorem and7 : ∀ x : Fin 64, ∀ k : Fin 8, bits .and .i64 (((k.val : Nat) : Int) - ((x.val : Nat) : Int)) 7 = ((pos k.val x.val : Nat) : Int) := by decide +kernel

theorem at_any (gv gi i : Nat) (k : Int) (w : World) (hi : i < 64) (h0 : 0 ≤ k) (h1 : k ≤ 7) (hc : w.cell? ⟨gi, 0, none⟩ = some (.int .i64 i)) :
    Calls Tryz.prog 114 #[.int .i64 k, .pointer (some ⟨gv, 0, none⟩), .pointer (some ⟨gi, 0, none⟩)] w fun e w' => e = .returned (.pointer (some ⟨gv, pos k.toNat i, none⟩)) ∧ w = w' := by
  obtain ⟨n, rfl⟩ := Int.eq_ofNat_of_zero_le h0
  have hb := and7 ⟨i, hi⟩ ⟨n, by omega⟩
  have hp : pos n i < 8 := pos_lt n i
  simp only at hb
  rw [Int.toNat_natCast]
  obtain ⟨p, he⟩ : ∃ p, pos n i = p := ⟨_, rfl⟩
  rw [he] at hb hp ⊢
  clear he
  have hp' : (p : Int) < 8 := by omega
  go_enter Tryz.func114, Tryz.ntmps114
  go_wp2_with fail
  go_ret
  exact ⟨rfl, rfl⟩

def bs1 (e : Nat) : Nat := xw (xw (rotw e 6) (rotw e 11)) (rotw e 25)
def bs0 (a : Nat) : Nat := xw (xw (rotw a 2) (rotw a 13)) (rotw a 22)
def tW (x4 x5 x6 x7 rk wi : Nat) : Nat := aw (aw (aw (aw x7 (bs1 x4)) (xw x6 (nw x4 (xw x5 x6)))) rk) wi
def uW (x0 x1 x2 t : Nat) : Nat := aw (aw t (bs0 x0)) (ow (nw x0 x1) (nw x2 (ow x0 x1)))
def atV (V : List Nat) (k i : Nat) : Nat := V.getD (pos k i) 0
def stepV (V : List Nat) (i rk wi : Nat) : List Nat :=
  (V.set (pos 3 i) (aw (atV V 3 i) (tW (atV V 4 i) (atV V 5 i) (atV V 6 i) (atV V 7 i) rk wi))).set (pos 7 i)
    (uW (atV V 0 i) (atV V 1 i) (atV V 2 i) (tW (atV V 4 i) (atV V 5 i) (atV V 6 i) (atV V 7 i) rk wi))
def mixV (H Ws : List Nat) : Nat → List Nat
  | 0 => H
  | i + 1 => stepV (mixV H Ws i) i (KT.getD i 0) (Ws.getD i 0)
theorem mixV_len (H Ws : List Nat) (i : Nat) : (mixV H Ws i).length = H.length := by
  induction i with
  | zero => rfl
  | succ i ih => simp [mixV, stepV, ih]
theorem blk_u32 {w : World} {g : Nat} {t : TypeId} {V : List Nat} (h : Blk w g t (u32s V).toArray) {p : Nat} (hp : p < V.length) : w.cell? ⟨g, p, none⟩ = some (.int .u32 ((V.getD p 0 : Nat) : Int)) :=
  blk_at h (by have := get_u32 (r := []) hp; simpa using this)
theorem set_u32 {w : World} {g : Nat} {t : TypeId} {V : List Nat} (h : Blk w g t (u32s V).toArray) (p x : Nat) : Blk (w.setCell ⟨g, p, none⟩ (.int .u32 (x : Int))) g t (u32s (V.set p x)).toArray := by
  refine blk_set _ _ _ _ p _ _ h ?_
  simp [u32s]
theorem u_eq (x0 x1 x2 T : Nat) : ((T : Int) + bits BinOp.xor IntKind.u32 (bits BinOp.xor IntKind.u32 ((rotw x0 2 : Nat) : Int) ((rotw x0 13 : Nat) : Int)) ((rotw x0 22 : Nat) : Int) + bits BinOp.or IntKind.u32 (bits BinOp.and IntKind.u32 (x0 : Int) (x1 : Int)) (bits BinOp.and IntKind.u32 (x2 : Int) (bits BinOp.or IntKind.u32 (x0 : Int) (x1 : Int)))) % 4294967296 =
    ((uW x0 x1 x2 T : Nat) : Int) := by
  rw [bits_xor, bits_xor, bits_and, bits_or, bits_and, bits_or]
  unfold uW bs0
  generalize xw (xw (rotw x0 2) (rotw x0 13)) (rotw x0 22) = X
  generalize ow (nw x0 x1) (nw x2 (ow x0 x1)) = Y
  unfold aw; omega
theorem pos_ne (i : Nat) (hi : i < 64) (a b : Nat) (ha : a < 8) (hb : b < 8) (h : a ≠ b) : pos a i ≠ pos b i := by unfold pos; omega
theorem getD_set_ne' {l : List Nat} {p q x : Nat} (h : p ≠ q) : (l.set p x).getD q 0 = l.getD q 0 := by
  simp [List.getD, List.getElem?_set_ne h]
theorem t_eq (x4 x5 x6 x7 rk wi : Nat) : (((x7 : Int) + bits BinOp.xor IntKind.u32 (bits BinOp.xor IntKind.u32 ((rotw x4 6 : Nat) : Int) ((rotw x4 11 : Nat) : Int)) ((rotw x4 25 : Nat) : Int) + bits BinOp.xor IntKind.u32 (x6 : Int) (bits BinOp.and IntKind.u32 (x4 : Int) (bits BinOp.xor IntKind.u32 (x5 : Int) (x6 : Int))) + (rk : Int)) % 4294967296 + (wi : Int)) % 4294967296 =
    ((tW x4 x5 x6 x7 rk wi : Nat) : Int) := by
  rw [bits_xor, bits_xor, bits_xor, bits_and, bits_xor]
  unfold tW bs1
  generalize xw (xw (rotw x4 6) (rotw x4 11)) (rotw x4 25) = X
  generalize xw x6 (nw x4 (xw x5 x6)) = Y
  unfold aw; omega

/-- A stream's cells: the words, the rest, how many bytes. -/
def strC (H R : List Nat) (n : Nat) : List Value := u32s H ++ (u8s R ++ [.int .i64 (n : Int)])
def mixF (H R : List Nat) : List Nat := List.zipWith aw H (mixV H (spreadF R 64) 64)
theorem info8 : (Tryz.prog.info? 118).map (·.size) = some 8 := by kernel_rfl

theorem zip_get {H V R : List Nat} {n j : Nat} (hl : V.length = H.length) (hj : j < H.length) : (strC ((List.zipWith aw H V).take j ++ H.drop j) R n)[j]? = some (.int .u32 ((H.getD j 0 : Nat) : Int)) := by
  have hz : ((List.zipWith aw H V).take j).length = j := by simp; omega
  unfold strC
  rw [get_u32 (by simp; omega)]
  congr 3
  have e : ((List.zipWith aw H V).take j ++ H.drop j)[j]? = H[j]? := by
    rw [List.getElem?_append_right (by omega), hz, Nat.sub_self, List.getElem?_drop, Nat.add_zero]
  simp [List.getD, e]
theorem zip_set {w : World} {g : Nat} {t : TypeId} {H V R : List Nat} {n j : Nat} (h : Blk w g t (strC ((List.zipWith aw H V).take j ++ H.drop j) R n).toArray) (hl : V.length = H.length) (hj : j < H.length) :
    Blk (w.setCell ⟨g, j, none⟩ (.int .u32 ((aw (H.getD j 0) (V.getD j 0) : Nat) : Int))) g t (strC ((List.zipWith aw H V).take (j + 1) ++ H.drop (j + 1)) R n).toArray := by
  refine blk_set _ _ _ _ j _ _ h ?_
  have hz : (List.zipWith aw H V).length = H.length := by simp; omega
  have e : (List.zipWith aw H V).take (j + 1) ++ H.drop (j + 1) = ((List.zipWith aw H V).take j ++ H.drop j).set j (aw (H.getD j 0) (V.getD j 0)) := by
    rw [List.set_append_right _ _ (by simp; omega), List.take_succ_eq_append_getElem (by omega), List.append_assoc]
    have h2 : ((List.zipWith aw H V).take j).length = j := by simp; omega
    have e1 : (List.zipWith aw H V)[j]'(by omega) = aw (H.getD j 0) (V.getD j 0) := by simp [hj, show j < V.length by omega]
    rw [h2, Nat.sub_self, List.drop_eq_getElem_cons hj, e1, List.set_cons_zero]
    rfl
  rw [e]
  unfold strC
  rw [List.setIfInBounds_toArray, List.set_append_left _ _ (by rw [u32s_len]; simp; omega)]
  simp [u32s]

set_option maxRecDepth 100000 in
set_option maxHeartbeats 8000000 in
theorem mix_any (g n : Nat) (H R : List Nat) (w : World) (hH : H.length = 8) (hR : R.length = 64) (hg : 2 < g) (hT : Tabs w) (hS : Blk w g 121 (strC H R n).toArray) :
    Calls Tryz.prog 104 #[.pointer (some ⟨g, 0, none⟩), .slice (some ⟨g, 8, none⟩) 64 64] w fun e w' => e = .returned (.tuple #[]) ∧
      Blk w' g 121 (strC (mixF H R) R n).toArray ∧ w.grownBy w' (some g) := by
  have hgl := hS.lt
  go_enter Tryz.func104, Tryz.ntmps104
  go_wp2_with fail
  refine (spread_any g 8 64 R _ (fun k hk => by
    have h1 : (strC H R n)[8 + k]? = some (.int .u8 ((R.getD k 0 : Nat) : Int)) := by
      rw [strC, List.getElem?_append_right (by rw [u32s_len]; omega), u32s_len, hH, Nat.add_sub_cancel_left, List.getElem?_append_left (by rw [u8s_len]; omega)]
      simp [u8s, hR, hk]
    exact blk_at hS h1) (by omega) (by omega)).mono ?_
  rintro e w1 ⟨rfl, hB1⟩
  obtain ⟨Ws, hWs⟩ : ∃ Ws, spreadF R 64 = Ws := ⟨_, rfl⟩
  have hWl : (u32s Ws).length = 64 := by rw [u32s_len, ← hWs, spreadF_len]
  have HWs := Sl.mk hWs
  rw [hWs]
  clear hWs
  have hS1 := hS.below hB1 hgl
  have hT1 := hT.below hB1 hT.1
  have hHl : (u32s H).length = 8 := by rw [u32s_len, hH]
  have hdr : ((strC H R n).drop 0).take 8 = u32s H := by rw [List.drop_zero, strC, List.take_append_of_le_length (by omega), List.take_of_length_le (by omega)]
  have HWl := hide hWl
  have HHl := hide hHl
  have HH := hide hH
  have HR := hide hR
  clear hWl hH hR
  go_wp2_with ((refine wpList_store_fresh rfl 162 (.tmp 4) (.tmp 13) rfl 162 (z32 64) (u32s Ws) _ rfl rfl rfl (by rw [HWl.out]; simp [z32]) (by rw [info64, HWl.out]) (u32s_one _) ?_))
  intro w2 hW2 hB2 hs2
  have hS2 := hS1.be hB2
  have HS2 := hide hs2
  clear hs2
  go_wp2_with (first
    | (refine wpList_load_vs rfl 118 (.tmp 15) rfl g 0 8 121 (strC H R n) (u32s H) _ hS2 rfl hdr hHl Tryz.underlying118 rfl info8 ?_)
    | (refine wpList_store_fresh rfl 118 (.tmp 5) (.tmp 16) rfl 118 (z32 8) (u32s H) _ rfl rfl rfl (by rw [HHl.out]; simp [z32]) (by rw [info8, HHl.out]) (u32s_one _) ?_))
  intro w3 hV3 hB3 hs3
  have hS3 := hS2.be hB3
  have hW3 := hW2.be hB3
  have hT3 := (hT1.below hB2 (hT1.1)).below hB3 (by have := hT1.1; have := hB2.size; omega)
  have hB03 : Below w.heap.size w w3 := below_tr (below_tr hB1 hB2) hB3
  have hlw : w.heap.size ≤ w1.heap.size := hB1.size
  have hl12 : w1.heap.size < w2.heap.size := by rw [HS2.out]; omega
  have hl23 : w2.heap.size < w3.heap.size := by rw [hs3]; omega
  clear hs3 hS1 hT1 hS2 hW2 HS2 hdr hHl
  go_wp2_with fail
  go_loopw [17] (fun v17 wr => ∃ (i : Nat) (V : List Nat), i ≤ 64 ∧ v17 = .int .i64 i ∧ V.length = 8 ∧ Sl (mixV H Ws i = V) ∧ Blk wr w2.heap.size 118 (u32s V).toArray ∧ Blk wr w1.heap.size 162 (u32s Ws).toArray ∧
      Blk wr g 121 (strC H R n).toArray ∧ Tabs wr ∧ Below w.heap.size w wr ∧ w2.heap.size < wr.heap.size) (fun v17 _ => 64 - (intOf v17).toNat)
  case atStart => exact ⟨0, H, by omega, rfl, HH.out, ⟨rfl⟩, hV3, hW3, hS3, hT3, hB03, hl23⟩
  case round =>
    obtain ⟨i, V, hi, rfl, hVl, HV, hV, hW, hS, hT, hB, hl⟩ := hrel
    clear hV3 hW3 hS3 hT3 hB03 hl23
    by_cases hlt : i < 64
    · have HVl := hide hVl
      clear hVl
      go_wp2_with fail
      obtain ⟨wa, hwa⟩ : ∃ wa, wr.alloc (.cells #[.int .i64 (i : Int)] 3) = wa := ⟨_, rfl⟩
      have ci : wa.cell? ⟨wr.heap.size, 0, none⟩ = some (.int .i64 i) := by rw [← hwa]; simp
      have hVa : Blk wa w2.heap.size 118 (u32s V).toArray := by rw [← hwa]; exact hV.alloc _
      have hWa : Blk wa w1.heap.size 162 (u32s Ws).toArray := by rw [← hwa]; exact hW.alloc _
      have hSa : Blk wa g 121 (strC H R n).toArray := by rw [← hwa]; exact hS.alloc _
      have hBa : Below wr.heap.size wr wa := by rw [← hwa]; exact below_al (Below.refl _ _) _
      have hTa : Tabs wa := hT.below hBa (by omega)
      have hBa : Below w.heap.size w wa := below_tr hB hBa
      have hsa : wa.heap.size = wr.heap.size + 1 := by rw [← hwa]; simp
      rw [hwa]
      have hla : w2.heap.size < wa.heap.size := by omega
      have hlr : w2.heap.size < wr.heap.size := hl
      clear hwa hsa hV hW hS hT hB hl
      have v8 : V.length = 8 := HVl.out
      have c0 := blk_u32 hVa (p := pos 0 i) (by rw [v8]; exact pos_lt _ _)
      have c1 := blk_u32 hVa (p := pos 1 i) (by rw [v8]; exact pos_lt _ _)
      have c2 := blk_u32 hVa (p := pos 2 i) (by rw [v8]; exact pos_lt _ _)
      have c3 := blk_u32 hVa (p := pos 3 i) (by rw [v8]; exact pos_lt _ _)
      have c4 := blk_u32 hVa (p := pos 4 i) (by rw [v8]; exact pos_lt _ _)
      have c5 := blk_u32 hVa (p := pos 5 i) (by rw [v8]; exact pos_lt _ _)
      have c6 := blk_u32 hVa (p := pos 6 i) (by rw [v8]; exact pos_lt _ _)
      have c7 := blk_u32 hVa (p := pos 7 i) (by rw [v8]; exact pos_lt _ _)
      have ck := hTa.2.1 i hlt
      have cw := blk_u32 hWa (p := i) (by have := HWl.out; rw [u32s_len] at this; omega)
      obtain ⟨x0, e0⟩ : ∃ x, V.getD (pos 0 i) 0 = x := ⟨_, rfl⟩
      obtain ⟨x1, e1⟩ : ∃ x, V.getD (pos 1 i) 0 = x := ⟨_, rfl⟩
      obtain ⟨x2, e2⟩ : ∃ x, V.getD (pos 2 i) 0 = x := ⟨_, rfl⟩
      obtain ⟨x3, e3⟩ : ∃ x, V.getD (pos 3 i) 0 = x := ⟨_, rfl⟩
      obtain ⟨x4, e4⟩ : ∃ x, V.getD (pos 4 i) 0 = x := ⟨_, rfl⟩
      obtain ⟨x5, e5⟩ : ∃ x, V.getD (pos 5 i) 0 = x := ⟨_, rfl⟩
      obtain ⟨x6, e6⟩ : ∃ x, V.getD (pos 6 i) 0 = x := ⟨_, rfl⟩
      obtain ⟨x7, e7⟩ : ∃ x, V.getD (pos 7 i) 0 = x := ⟨_, rfl⟩
      obtain ⟨rk, ek⟩ : ∃ x, KT.getD i 0 = x := ⟨_, rfl⟩
      obtain ⟨wi, ew⟩ : ∃ x, Ws.getD i 0 = x := ⟨_, rfl⟩
      rw [e0] at c0
      rw [e1] at c1
      rw [e2] at c2
      rw [e3] at c3
      rw [e4] at c4
      rw [e5] at c5
      rw [e6] at c6
      rw [e7] at c7
      rw [ek] at ck
      rw [ew] at cw
      have hst : mixV H Ws (i + 1) = (V.set (pos 3 i) (aw x3 (tW x4 x5 x6 x7 rk wi))).set (pos 7 i) (uW x0 x1 x2 (tW x4 x5 x6 x7 rk wi)) := by
        show stepV (mixV H Ws i) i (KT.getD i 0) (Ws.getD i 0) = _
        rw [HV.out]
        unfold stepV atV
        rw [e0, e1, e2, e3, e4, e5, e6, e7, ek, ew]
      have E1 := hide e1
      have E2 := hide e2
      have HST := Sl.mk hst
      clear e0 e1 e2 e3 e4 e5 e6 e7 ek ew hst v8 HV
      go_quiet ((go_at_call 114; exact quiet_lf (at_any _ _ i _ _ hlt (by omega) (by omega) ci)))
      obtain ⟨q1, rfl⟩ : ∃ q, q = nq := ⟨_, rfl⟩
      go_wp2_with fail
      go_quiet ((first
        | (go_at_call 114; exact quiet_add_lf (at_any _ _ i _ _ hlt (by omega) (by omega) ci))
        | (go_at_call 115; exact quiet_add (spin_i _ _ _ (by omega) (by omega)))))
      obtain ⟨q2, rfl⟩ : ∃ q, q = nq := ⟨_, rfl⟩
      rw [t_eq]
      obtain ⟨T, hT⟩ : ∃ T, tW x4 x5 x6 x7 rk wi = T := ⟨_, rfl⟩
      have HT := hide hT
      rw [hT]
      clear hT c4 c5 c6 ck cw
      have f3 := hVa.frozen (pos 3 i)
      go_wp2_with (go_at_call 114; refine (at_any _ _ i _ _ hlt (by omega) (by omega) (by exact ci)).mono ?_; rintro e w' ⟨rfl, rfl⟩)
      rw [add_u32']
      obtain ⟨wb, hwb⟩ : ∃ wb, (wa.drewN (q1 + q2)).setCell ⟨w2.heap.size, pos 3 i, none⟩ (.int .u32 ((aw x3 T : Nat) : Int)) = wb := ⟨_, rfl⟩
      rw [hwb]
      have v8 : V.length = 8 := HVl.out
      have hVb : Blk wb w2.heap.size 118 (u32s (V.set (pos 3 i) (aw x3 T))).toArray := by rw [← hwb]; exact set_u32 (hVa.drewN _) _ _
      have hne2 : w1.heap.size ≠ w2.heap.size := by omega
      have hneg : g ≠ w2.heap.size := by have := hB1.size; omega
      have hne4 : wr.heap.size ≠ w2.heap.size := by omega
      have hGb : wa.grownBy wb (some w2.heap.size) := by rw [← hwb]; exact only_setCell (only_drewN (only_refl _ _) _) _ _
      have hWb := blk_only hWa hGb hne2
      have hSb := blk_only hSa hGb hneg
      have hTb := hTa.only hGb (by omega)
      have hBb := below_only hBa hGb (by omega) (by omega)
      have cib : wb.cell? ⟨wr.heap.size, 0, none⟩ = some (.int .i64 i) := by rw [← hwb]; exact (World.cell?_setCell_other _ _ _ _ (fun e => hne4 (by injection e with e; exact e.symm))).trans ci
      have hlb : w2.heap.size < wb.heap.size := Nat.lt_of_lt_of_le hla hGb.size
      clear hwb hVa hWa hSa hTa hBa hGb c0 c1 c2 c3 c7 f3 ci hla
      have d1 := blk_u32 hVb (p := pos 1 i) (by rw [List.length_set, v8]; exact pos_lt _ _)
      have d2 := blk_u32 hVb (p := pos 2 i) (by rw [List.length_set, v8]; exact pos_lt _ _)
      have d7 := blk_u32 hVb (p := pos 7 i) (by rw [List.length_set, v8]; exact pos_lt _ _)
      have f7 := hVb.frozen (pos 7 i)
      rw [getD_set_ne' (pos_ne i hlt 3 1 (by decide) (by decide) (by decide)), E1.out] at d1
      rw [getD_set_ne' (pos_ne i hlt 3 2 (by decide) (by decide) (by decide)), E2.out] at d2
      clear v8
      refine wp_region_quiet_tail 32 (by kernel_rfl) (by kernel_rfl) ?_
      simp only [List.take_succ_cons, List.take_zero, List.drop_succ_cons, List.drop_zero]
      repeat (any_goals (first | go_big_quiet_step ((first | (go_at_call 114; first | exact quiet_lf (at_any _ _ i _ _ hlt (by omega) (by omega) (by exact cib)) | exact quiet_add_lf (at_any _ _ i _ _ hlt (by omega) (by omega) (by exact cib))) | (go_at_call 115; first | exact Calls.quiet_of (spin_i _ _ _ (by omega) (by omega)) | exact quiet_add (spin_i _ _ _ (by omega) (by omega))))) | quiet_step ((first | (go_at_call 114; first | exact quiet_lf (at_any _ _ i _ _ hlt (by omega) (by omega) (by exact cib)) | exact quiet_add_lf (at_any _ _ i _ _ hlt (by omega) (by omega) (by exact cib))) | (go_at_call 115; first | exact Calls.quiet_of (spin_i _ _ _ (by omega) (by omega)) | exact quiet_add (spin_i _ _ _ (by omega) (by omega)))))))
      refine wpQuiet_nil ?_
      intro _ hw'
      obtain ⟨nq, hw''⟩ := hw'
      subst hw''
      go_wp2_with fail
      go_roundw
      case rel =>
        refine ⟨i + 1, (V.set (pos 3 i) (aw x3 T)).set (pos 7 i) (uW x0 x1 x2 T), by omega, by go_num, by simp [HVl.out], ⟨by rw [HST.out, HT.out]⟩, ?_, (hWb.drewN _).far (by simpa using hne2) _, (hSb.drewN _).far (by simpa using hneg) _, ?_, ?_, ?_⟩
        · rw [u_eq]
          exact set_u32 (hVb.drewN _) _ _
        · exact hTb.only (only_setCell (only_drewN (only_refl _ _) _) _ _) (by omega)
        · exact (below_drN hBb _).setCell (by simp; omega) _
        · simpa [World.setCell] using hlb
      case measure => simp [intOf]; omega
    · obtain rfl : i = 64 := by omega
      have hlen : V.length = H.length := by rw [hVl, HH.out]
      have hVg : w2.heap.size ≠ g := by omega
      have HLN := hide hlen
      have HVl := hide hVl
      clear hW hT hlen hVl
      go_wp2_with fail
      obtain ⟨wo, hwo⟩ : ∃ wo, wo = wr := ⟨_, rfl⟩
      subst hwo
      have hG0 : w.grownBy wo (some g) := only_below (only_refl _ _) hB
      go_loopw [107] (fun v107 wr => ∃ j : Nat, j ≤ 8 ∧ v107 = .int .i64 j ∧ Blk wr g 121 (strC ((List.zipWith aw H V).take j ++ H.drop j) R n).toArray ∧ Blk wr w2.heap.size 118 (u32s V).toArray ∧ w.grownBy wr (some g)) (fun v107 _ => 8 - (intOf v107).toNat)
      case atStart => exact ⟨0, by omega, rfl, hS, hV, hG0⟩
      case round =>
        obtain ⟨j, hj, rfl, hSj, hVj, hGj⟩ := hrel
        clear hS hV hG0
        by_cases hjl : j < 8
        · have cS := blk_at hSj (zip_get (R := R) (n := n) (H := H) (V := V) HLN.out (by rw [HH.out]; omega))
          have cV := blk_u32 hVj (p := j) (by rw [HVl.out]; omega)
          have fS := hSj.frozen j
          obtain ⟨x, ex⟩ : ∃ x, H.getD j 0 = x := ⟨_, rfl⟩
          obtain ⟨y, ey⟩ : ∃ y, V.getD j 0 = y := ⟨_, rfl⟩
          rw [ex] at cS
          rw [ey] at cV
          have HX := Sl.mk (And.intro ex ey)
          clear ex ey
          go_wp2_with fail
          refine wp_region_quiet_tail 11 (by kernel_rfl) (by kernel_rfl) ?_
          simp only [List.take_succ_cons, List.take_zero, List.drop_succ_cons, List.drop_zero]
          repeat (any_goals (first | go_big_quiet_step (fail) | quiet_step (fail)))
          refine wpQuiet_nil ?_
          intro _ hw'
          obtain ⟨nq, hw''⟩ := hw'
          subst hw''
          go_wp2_with fail
          go_roundw
          case rel =>
            refine ⟨j + 1, by omega, by go_num, ?_, (hVj.drewN _).far (by simpa using hVg) _, only_setCell (only_drewN hGj _) _ _⟩
            rw [add_u32', ← HX.out.1, ← HX.out.2]
            exact zip_set (hSj.drewN _) HLN.out (by rw [HH.out]; omega)
          case measure => simp [intOf]; omega
        · obtain rfl : j = 8 := by omega
          go_wp2_with fail
          go_end0
          have e : (List.zipWith aw H V).take 8 ++ H.drop 8 = mixF H R := by
            unfold mixF
            rw [HWs.out, HV.out, List.take_of_length_le (by simp [HH.out]; omega), List.drop_of_length_le (by rw [HH.out]; omega), List.append_nil]
          rw [e] at hSj
          exact ⟨rfl, hSj, hGj⟩

end Go.Proofs.YticcphppnmoogaaGreatDoor
