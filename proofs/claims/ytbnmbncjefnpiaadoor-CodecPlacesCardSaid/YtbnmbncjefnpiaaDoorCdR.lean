/-
  The contracts of Next, Decode: at a value's own bytes; at the chapter's two wrong texts.
-/
import Derived.Test.YtbnmbncjefnpiaaDoorCdO
import Derived.Test.YtbnmbncjefnpiaaDoorWordsX
namespace Go.Proofs.YtbnmbncjefnpiaaDoor
open Go.RowKit
attribute [local go_sem ↓] Go.wp_at_zero Go.wp_at_succ

theorem own_base {w : World} {base base' : Nat} {e : TypeId} {size : Nat} {v : Value} {n : Nat} {xs : List Value} (h : w.ownsRow base e size v n xs) (hb : base' ≤ base) : w.ownsRow base' e size v n xs :=
  ⟨h.1, h.2.imp id fun ⟨g, cap, cur, h1, h2, h3⟩ => ⟨g, cap, cur, h1, Nat.le_trans hb h2, h3⟩⟩

def Bad2 (b : List Nat) : Prop := b = [105, 45, 48, 59] ∨ b = [105, 48, 49, 59]
structure BadS (S : ByteArray) : Prop where
  ne : S.toList.isEmpty = false
  n1 : (S.toList == [45]) = false
  sz : S.size = 2
  or_ : (S.toList == [45, 48]) = true ∨ ((S.toList == [45, 48]) = false ∧ ∀ h : 0 < S.size, (((S[0]'h).toNat : Int) == 48) = true)

set_option maxRecDepth 100000 in
set_option maxHeartbeats 2000000 in
theorem number_bad (R : Nat) (A : Option Addr) (c : Nat) (b : List Nat) (w : World) (hb : Bad2 b) (h : Rst w R A 4 c b 1 0) :
    Calls Tryd.prog 38 #[.pointer (some ⟨R, 0, none⟩), .bool true, .int .u8 59] w fun e w' => e = .returned (.int .i64 0) ∧ Rst w' R A 4 c b 3 3 ∧ w.grownBy w' (some R) := by
  have HD := Sl.mk (digits_any true R A 4 c b 1 0 w h)
  obtain ⟨S, hS, hB⟩ : ∃ S, strN ((b.drop 1).take 2) = S ∧ BadS S := by
    rcases hb with rfl | rfl
    · exact ⟨_, rfl, by decide +kernel, by decide +kernel, by decide +kernel, .inl (by decide +kernel)⟩
    · exact ⟨_, rfl, by decide +kernel, by decide +kernel, by decide +kernel, .inr ⟨by decide +kernel, fun _ => rfl⟩⟩
  have hj3 : 1 + sgnD true b 1 + runD (b.drop (1 + sgnD true b 1)) = 3 := by rcases hb with rfl | rfl <;> decide
  have HM := Sl.mk (fun W (hW : Rst W R A 4 c b 3 0) => more_any R A 4 c b 3 0 W hW)
  have HW := Sl.mk (fun W (hW : Rst W R A 4 c b 3 0) => wrong_any 3 R A 4 c b 3 0 W hW)
  rw [show decide (3 < 4) = true from rfl] at HM
  have HJ := Sl.mk hj3
  have HS := Sl.mk hS
  have HB := Sl.mk hB
  clear h hj3 hS hB hb
  go_enter Tryd.func38, Tryd.ntmps38
  go_wp2_with fail
  refine HD.out.mono ?_
  rintro e w1 ⟨j', hj', rfl, hR1, hG1⟩
  have hje : j' = 3 := by rw [hj', HJ.out]
  subst hje
  rw [show (3 - 1) = 2 from rfl, HS.out]
  clear hj' HD
  go_wp2_with fail
  refine (HM.out w1 hR1).mono ?_
  rintro e w2 ⟨rfl, k, hw2⟩
  have hR2 : Rst w2 R A 4 c b 3 0 := by rw [hw2]; exact hR1.dr k
  have hG2 : w.grownBy w2 (some R) := by rw [hw2]; exact only_drewN hG1 k
  clear hw2 hR1 hG1
  have s1 := HB.out.ne
  have s2 := HB.out.n1
  have s4 : 0 < S.size := by rw [HB.out.sz]; decide
  have s5 : (1 : Int) < (S.size : Int) := by rw [HB.out.sz]; decide
  rcases HB.out.or_ with s3 | ⟨s3, s6⟩
  · go_wp2_with fail
    refine (HW.out w2 hR2).mono ?_
    rintro e w3 ⟨rfl, hR3, hG3⟩
    have hG4 := only_trans hG2 hG3
    clear hR2 hG2 hG3 s1 s2 s3 s4 s5
    go_wp2_with fail
    go_ret
    exact ⟨rfl, hR3, hG4⟩
  · have s7 := s6 s4
    clear s6
    go_wp2_with fail
    refine (HW.out w2 hR2).mono ?_
    rintro e w3 ⟨rfl, hR3, hG3⟩
    have hG4 := only_trans hG2 hG3
    clear hR2 hG2 hG3 s1 s2 s3 s5 s7
    go_wp2_with fail
    go_ret
    exact ⟨rfl, hR3, hG4⟩

set_option maxRecDepth 100000 in
set_option maxHeartbeats 2000000 in
theorem value_bad (R : Nat) (A : Option Addr) (c : Nat) (b : List Nat) (w : World) (hb : Bad2 b) (h : Rst w R A 4 c b 0 0) :
    Calls Tryd.prog 23 #[.pointer (some ⟨R, 0, none⟩), .int .i64 1] w fun e w' => e = .returned (.agg #[.int .i64 0, .int .i64 0, .slice none 0 0, .slice none 0 0]) ∧ Rst w' R A 4 c b 3 3 ∧ w.grownBy w' (some R) := by
  have hZ := Blk.new w 26 #[.int .i64 0, .int .i64 0, .slice none 0 0, .slice none 0 0]
  have hwa := below_al (Below.refl w.heap.size w) (.cells #[.int .i64 0, .int .i64 0, .slice none 0 0, .slice none 0 0] 26)
  have hRa := h.be hwa
  have hRw := h.blk.lt
  have hga := only_alloc (only_refl w (some R)) (.cells #[.int .i64 0, .int .i64 0, .slice none 0 0, .slice none 0 0] 26)
  have h105 : b.getD 0 0 = 105 := by rcases hb with rfl | rfl <;> rfl
  have HT := Sl.mk (fun W hW => take_any 105 R A 4 c b 0 W hW (by decide) h105)
  have HN := Sl.mk (fun W hW => number_bad R A c b W hb hW)
  have HI1 := Sl.mk (fun W hW => is_any 40 R A 4 c b 0 0 W hW)
  have HI2 := Sl.mk (fun W hW => is_any 105 R A 4 c b 0 0 W hW)
  have HM1 := Sl.mk (fun W hW => more_any R A 4 c b 0 0 W hW)
  rw [show decide (0 < 4) = true from rfl] at HM1
  rw [show decide (0 < 4) = true from rfl, decide_eq_false (show ¬ b.getD 0 0 = 40 by omega)] at HI1
  rw [show decide (0 < 4) = true from rfl, decide_eq_true h105] at HI2
  clear h hb h105
  go_enter Tryd.func23, Tryd.ntmps23
  go_wp2_with fail
  refine (HM1.out _ hRa).mono ?_
  rintro e w1 ⟨rfl, q1, hw1⟩
  have hR1 : Rst w1 R A 4 c b 0 0 := by rw [hw1]; exact hRa.dr q1
  have hZ1 : Blk w1 w.heap.size 26 #[.int .i64 0, .int .i64 0, .slice none 0 0, .slice none 0 0] := by rw [hw1]; exact hZ.drewN q1
  have hG1 : w.grownBy w1 (some R) := by rw [hw1]; exact only_drewN hga q1
  clear hw1 hRa hZ hga hwa
  go_wp2_with fail
  refine (HI1.out _ hR1).mono ?_
  rintro e w2 ⟨rfl, q2, hw2⟩
  have hR2 : Rst w2 R A 4 c b 0 0 := by rw [hw2]; exact hR1.dr q2
  have hZ2 : Blk w2 w.heap.size 26 #[.int .i64 0, .int .i64 0, .slice none 0 0, .slice none 0 0] := by rw [hw2]; exact hZ1.drewN q2
  have hG2 : w.grownBy w2 (some R) := by rw [hw2]; exact only_drewN hG1 q2
  clear hw2 hR1 hZ1 hG1
  go_wp2_with fail
  refine (HI2.out _ hR2).mono ?_
  rintro e w3 ⟨rfl, q3, hw3⟩
  have hR3 : Rst w3 R A 4 c b 0 0 := by rw [hw3]; exact hR2.dr q3
  have hZ3 : Blk w3 w.heap.size 26 #[.int .i64 0, .int .i64 0, .slice none 0 0, .slice none 0 0] := by rw [hw3]; exact hZ2.drewN q3
  have hG3 : w.grownBy w3 (some R) := by rw [hw3]; exact only_drewN hG2 q3
  clear hw3 hR2 hZ2 hG2 HM1 HI1 HI2
  go_wp2_with fail
  refine (HT.out _ hR3).mono ?_
  rintro e w4 ⟨rfl, hR4, hg4⟩
  have hZ4 := blk_only hZ3 hg4 (by omega)
  have hG4 := only_trans hG3 hg4
  clear hR3 hZ3 hG3 hg4 HT
  go_wp2_with fail
  refine (HN.out _ hR4).mono ?_
  rintro e w5 ⟨rfl, hR5, hg5⟩
  have hZ5 := blk_only hZ4 hg5 (by omega)
  have hG5 := only_trans hG4 hg5
  clear hR4 hZ4 hG4 hg5 HN
  go_wp2_with (refine st_vx hZ5 rfl (.tmp 4) (.tmp 92) rfl 0 0 none 0 0 none 0 0 rfl (by rfl) rfl ?_)
  intro w6 hZ6 hG6 _
  have hR6 := hR5.gr hG6 (fun g e => by injection e; omega)
  have hG7 := only_new hG5 hG6 (fun g e => by injection e; omega)
  clear hG6 hR5 hG5 hZ5
  go_wp2_with fail
  refine bodyPost_ret (v := .agg #[.int .i64 0, .int .i64 0, .slice none 0 0, .slice none 0 0]) (res_cell Tryd.results23 _ _ _ rfl hZ6 Tryd.underlying26 vxSize) rfl ?_
  exact ⟨rfl, hR6, hG7⟩

theorem vxZeroV : ∀ w : World, (zeroValue 26).run Tryd.prog w = .ok (.agg #[.int .i64 0, .int .i64 0, .slice none 0 0, .slice none 0 0]) w := fun _ => by kernel_rfl

def NextPost (w : World) (v : Vc) (rest : List Nat) (e : Ending) (w' : World) : Prop :=
  ∃ (x : Vx) (A : Option Addr) (q c : Nat), e = .returned (.tuple #[.agg (vxC x).toArray, .slice A q c, .int .i64 0]) ∧ x.v = v ∧ VxOk w' (fun g => w.heap.size ≤ g ∧ g < w'.heap.size) x ∧ rest.length = q ∧ w'.ownsRow w.heap.size 5 1 (.slice A q c) q (u8s rest) ∧ Below w.heap.size w w'

set_option maxRecDepth 100000 in
set_option maxHeartbeats 2000000 in
theorem next_ok (v : Vc) (A : Option Addr) (n c : Nat) (b rest : List Nat) (w : World) (hall : allV v = true) (hnum : numV v) (hd : depV v ≤ 8) (hb : b = encV v ++ rest) (hn : n ≤ 131072) (hc : n ≤ c) (hby : ∀ x ∈ b, x < 256) (hR : Reads w w.heap.size 1 A n (u8s b)) :
    Calls Tryd.prog 10 #[.slice A n c] w (NextPost w v rest) := by
  have hlen : b.length = n := by have := hR.1; simp [u8s] at this; omega
  have hZ := (Blk.new w 26 #[.int .i64 0, .int .i64 0, .slice none 0 0, .slice none 0 0]).alloc (.cells #[.slice A n c, .int .i64 0, .int .i64 0] 64)
  have hE := below_al (below_al (Below.refl w.heap.size w) (.cells #[.int .i64 0, .int .i64 0, .slice none 0 0, .slice none 0 0] 26)) (.cells #[.slice A n c, .int .i64 0, .int .i64 0] 64)
  have hB : Blk ((w.alloc (.cells #[.int .i64 0, .int .i64 0, .slice none 0 0, .slice none 0 0] 26)).alloc (.cells #[.slice A n c, .int .i64 0, .int .i64 0] 64)) (w.heap.size + 1) 64 #[.slice A n c, .int .i64 0, .int .i64 0] := Blk.new' (by simp)
  have hsz : ((w.alloc (.cells #[.int .i64 0, .int .i64 0, .slice none 0 0, .slice none 0 0] 26)).alloc (.cells #[.slice A n c, .int .i64 0, .int .i64 0] 64)).heap.size = w.heap.size + 2 := by simp
  obtain ⟨w0, hw0⟩ : ∃ w0, (w.alloc (.cells #[.int .i64 0, .int .i64 0, .slice none 0 0, .slice none 0 0] 26)).alloc (.cells #[.slice A n c, .int .i64 0, .int .i64 0] 64) = w0 := ⟨_, rfl⟩
  rw [hw0] at hZ hE hB hsz
  have hRs : Rst w0 (w.heap.size + 1) A n c b 0 0 := ⟨hB, (hR.below hE).more (by omega), hlen, Nat.zero_le _, hc, by omega, hby⟩
  obtain ⟨j, hj⟩ : ∃ j, (encV v).length = j := ⟨_, rfl⟩
  have HV := Sl.mk (value_ok v 1 w0 (w.heap.size + 1) A n c b 0 rest hall hnum (by omega) hRs (by rw [List.drop_zero]; exact hb))
  rw [hj, Nat.zero_add] at HV
  have hjn : j ≤ n := by rw [← hlen, hb, List.length_append]; omega
  have hq : rest.length = n - j := by rw [← hlen, hb, List.length_append]; omega
  have htk : (b.drop j).take (n - j) = rest := by rw [hb, ← hj, List.drop_left, List.take_of_length_le (by rw [hj]; omega)]
  have HTK := Sl.mk htk
  have HQ := Sl.mk hq
  have hgt : ¬ (131072 : Int) < (n : Int) := by omega
  have HHW := Sl.mk hw0
  clear hall hnum hd hlen hB hR htk hq hj hb hRs hby
  go_enter Tryd.func10, Tryd.ntmps10
  go_wp2_with fail
  refine HV.out.mono ?_
  rintro e w1 ⟨x, rfl, hxv, hxk, hR1, hG1⟩
  have hZ1 := blk_only hZ hG1 (by omega)
  have hE1 := below_only hE hG1 hE.size (by omega)
  have hsz1 := hG1.size
  have HXV := Sl.mk hxv
  have HXK := Sl.mk hxk
  obtain ⟨k7, n7, pb7, b7, cb7, pl7, l7, cl7⟩ := x
  rw [vxC_mk]
  clear hxv hxk hG1 hZ hE HV
  have hX2 := Blk.new w1 26 #[.int .i64 k7, .int .i64 n7, .slice pb7 b7.length cb7, .slice pl7 l7.length cl7]
  have hBa := below_al (Below.refl w1.heap.size w1) (.cells #[.int .i64 k7, .int .i64 n7, .slice pb7 b7.length cb7, .slice pl7 l7.length cl7] 26)
  have hR2 := hR1.be hBa
  have hZ2 := hZ1.be hBa
  have hE2 := hE1.trans (hBa.mono (by omega))
  have HXK2 := Sl.mk (VxOk.keep (w' := w1.alloc (.cells #[.int .i64 k7, .int .i64 n7, .slice pb7 b7.length cb7, .slice pl7 l7.length cl7] 26)) (fun p hp => hBa.cell hp.2) _ HXK.out)
  have hsz2 : (w1.alloc (.cells #[.int .i64 k7, .int .i64 n7, .slice pb7 b7.length cb7, .slice pl7 l7.length cl7] 26)).heap.size = w1.heap.size + 1 := by simp
  obtain ⟨w2, hw2⟩ : ∃ w2, w1.alloc (.cells #[.int .i64 k7, .int .i64 n7, .slice pb7 b7.length cb7, .slice pl7 l7.length cl7] 26) = w2 := ⟨_, rfl⟩
  rw [hw2] at hX2 hR2 hZ2 hE2 hsz2 HXK2
  have c0 := hR2.blk.cell 0
  have c1 := hR2.blk.cell 1
  have c2 := hR2.blk.cell 2
  clear hR1 hZ1 hE1 hBa HXK
  go_wp2_with fail
  obtain ⟨wd, hwd⟩ : ∃ wd, w2.drew = wd := ⟨_, rfl⟩
  have hXd : Blk wd w1.heap.size 26 #[.int .i64 k7, .int .i64 n7, .slice pb7 b7.length cb7, .slice pl7 l7.length cl7] := by rw [← hwd]; exact hX2.drew
  have hZd : Blk wd w.heap.size 26 #[.int .i64 0, .int .i64 0, .slice none 0 0, .slice none 0 0] := by rw [← hwd]; exact hZ2.drew
  have hRd : Rst wd (w.heap.size + 1) A n c b j 0 := by rw [← hwd]; exact hR2.dr 1
  have hEd : Below w.heap.size w wd := by rw [← hwd]; exact hE2.drew
  have hsd : wd.heap.size = w2.heap.size := by rw [← hwd]; rfl
  have HXKd : Sl (VxOk wd (fun g => w0.heap.size ≤ g ∧ g < w1.heap.size) (.mk k7 n7 pb7 b7 cb7 pl7 l7 cl7)) := by rw [← hwd]; exact ⟨VxOk.keep (w := w2) (w' := w2.drew) (fun p hp => rfl) _ HXK2.out⟩
  have HSF : Sl (∀ W, Below wd.heap.size wd W → W.cell? ⟨w.heap.size + 1, 1, none⟩ = some (.int .i64 j)) := Sl.mk (fun W hW => (hRd.blk.be hW).cell 1)
  have HLV : Sl (∀ W, Below wd.heap.size wd W → (loadVar 26 ⟨w1.heap.size, 0, none⟩).run Tryd.prog W = .ok (.agg #[.int .i64 k7, .int .i64 n7, .slice pb7 b7.length cb7, .slice pl7 l7.length cl7]) W) := Sl.mk (fun W hW =>
          run_loadVar_at W ⟨w1.heap.size, 0, none⟩ 26 [.int .i64 k7, .int .i64 n7, .slice pb7 b7.length cb7, .slice pl7 l7.length cl7] _ (fun j v hv => by
            have e2 : (⟨w1.heap.size, 0, none⟩ : Addr).add j = ⟨w1.heap.size, j, none⟩ := by unfold Addr.add; split <;> simp_all
            rw [e2, (hXd.be hW).cell j]; simpa using hv) Tryd.underlying26 rfl vxSize)
  have hjc : (j : Int) ≤ (n : Int) := by omega
  have HCUT := Sl.mk (fun (A' : Option Addr) (hA : A' = A.map (fun x => x.add j) ∨ c = j) => cut_any hRd.row (m := n - j) (by omega) hc hA HTK.out)
  have hjn63 : (n : Int) ≤ 9223372036854775807 := by omega
  have HRL := Sl.mk hRd.blk.lt
  clear hX2 hR2 hZ2 hE2 c0 c1 c2 hw2 HXK2 hRd
  refine wp_region_X (fun W => Below wd.heap.size wd W) [9, 10, 11] (by kernel_rfl) (by rw [hwd]; exact Below.refl _ _) (fun hS => ?_)
  rw [hwd] at hS ⊢
  clear hwd
  refine wpAnyX_S (i := 0) (v := .agg #[.int .i64 k7, .int .i64 n7, .slice pb7 b7.length cb7, .slice pl7 l7.length cl7]) rfl (by kernel_rfl) (by kernel_rfl) (by kernel_rfl) (by kernel_rfl) (fun _ _ _ h => h) (yieldsIf_loadA (by rfl) 26 (.tmp 6) rfl ⟨w1.heap.size, 0, none⟩ _ rfl (fun w' hw' => HLV.out w' hw')) hS ?_
  simp only [Act.put, List.setIfInBounds_toArray, List.set_cons_zero, List.set_cons_succ]
  refine wpAnyX_S (i := 1) (v := ?_) rfl (by kernel_rfl) (by kernel_rfl) (by kernel_rfl) (by kernel_rfl) (fun _ _ _ h => h) (Or.inl ⟨by rfl, ?_⟩) hS ?_
  rotate_left 1
  · (intro w' hw'; (first | rw [hw'] | (have hw2 := HSF.out w' hw') | skip); go_simp; (try with_reducible rfl))
  simp only [Act.put, List.setIfInBounds_toArray, List.set_cons_zero, List.set_cons_succ]
  refine wpAnyX_S (i := 2) (v := ?_) rfl (by kernel_rfl) (by kernel_rfl) (by kernel_rfl) (by kernel_rfl) (fun _ _ _ h => h) (Or.inl ⟨by rfl, ?_⟩) hS ?_
  rotate_left 1
  · (intro w' hw'; (first | rw [hw'] | (have hw2 := HSF.out w' hw') | skip); go_simp; (try with_reducible rfl))
  simp only [Act.put, List.setIfInBounds_toArray, List.set_cons_zero, List.set_cons_succ]
  refine wpAnyX_S (i := 3) (v := ?_) rfl (by kernel_rfl) (by kernel_rfl) (by kernel_rfl) (by kernel_rfl) (fun _ _ _ h => h) (Or.inl ⟨by rfl, ?_⟩) hS ?_
  rotate_left 1
  · (intro w' hw'; (first | rw [hw'] | (have hw2 := HSF.out w' hw') | skip); go_simp; (try with_reducible rfl))
  simp only [Act.put, List.setIfInBounds_toArray, List.set_cons_zero, List.set_cons_succ]
  refine wpAnyX_S (i := 4) (v := ?_) rfl (by kernel_rfl) (by kernel_rfl) (by kernel_rfl) (by kernel_rfl) (fun _ _ _ h => h) (Or.inl ⟨by rfl, ?_⟩) hS ?_
  rotate_left 1
  · (intro w' hw'; (first | rw [hw'] | (have hw2 := HSF.out w' hw') | skip); go_simp; (try with_reducible rfl))
  simp only [Act.put, List.setIfInBounds_toArray, List.set_cons_zero, List.set_cons_succ]
  refine wpAnyX_S (i := 5) (v := ?_) rfl (by kernel_rfl) (by kernel_rfl) (by kernel_rfl) (by kernel_rfl) (fun _ _ _ h => h) (Or.inl ⟨by rfl, ?_⟩) hS ?_
  rotate_left 1
  · (intro w' hw'; (first | rw [hw'] | (have hw2 := HSF.out w' hw') | skip); go_simp; (try with_reducible rfl))
  simp only [Act.put, List.setIfInBounds_toArray, List.set_cons_zero, List.set_cons_succ]
  refine wpAnyX_S (i := 6) (v := ?_) rfl (by kernel_rfl) (by kernel_rfl) (by kernel_rfl) (by kernel_rfl) (fun _ _ _ h => h) (Or.inl ⟨by rfl, ?_⟩) hS ?_
  rotate_left 1
  · (intro w' hw'; (first | rw [hw'] | (have hw2 := HSF.out w' hw') | skip); go_simp; (try with_reducible rfl))
  simp only [Act.put, List.setIfInBounds_toArray, List.set_cons_zero, List.set_cons_succ]
  refine wpAnyX_S (i := 7) (v := ?_) rfl (by kernel_rfl) (by kernel_rfl) (by kernel_rfl) (by kernel_rfl) (fun _ _ _ h => h) (Or.inl ⟨by rfl, ?_⟩) hS ?_
  rotate_left 1
  · (intro w' hw'; (first | rw [hw'] | (have hw2 := HSF.out w' hw') | skip); go_simp; (try with_reducible rfl))
  simp only [Act.put, List.setIfInBounds_toArray, List.set_cons_zero, List.set_cons_succ]
  refine wpAnyX_oneL (k := 8) rfl (by kernel_rfl) rfl ?_
  have hA : (if c = j then A else A.map (fun x => x.add j)) = A.map (fun x => x.add j) ∨ c = j := by
    by_cases h : c = j
    · exact .inr h
    · exact .inl (if_neg h)
  refine wp_of_call (f := 24) (args := #[.slice (if c = j then A else A.map (fun x => x.add j)) (n - j) (c - j)]) (by go_simp) (bclone_any _ (n - j) (c - j) rest wd (by omega) ((HCUT.out _ hA).more (Nat.le_of_lt HRL.out))) (fun e w7 hq => ?_)
  obtain ⟨v7, rfl, hown, hB7⟩ := hq
  obtain ⟨A7, c7, rfl⟩ := ownForm hown
  refine ⟨_, rfl, fun _ => hB7, ?_⟩
  simp only [Act.put, List.setIfInBounds_toArray, List.set_cons_zero, List.set_cons_succ]
  refine wpAnyX_tailF [9, 10, 11] (by kernel_rfl) (by rfl) (by rfl) (by rfl) ?_
  simp only [List.filterMap_cons, List.filterMap_nil, List.getElem?_cons_succ, List.getElem?_cons_zero]
  have hZ7 := hZd.be hB7
  have hE7 := hEd.trans (hB7.mono hEd.size)
  have HO := Sl.mk hown
  have HXK7 := Sl.mk (VxOk.keep (w' := w7) (fun p hp => hB7.cell (by have := hp.2; omega)) _ HXKd.out)
  have hsz7 := hB7.size
  clear hB7 hown HCUT HLV HSF hXd hZd hEd hS hA
  generalize (if c = j then A else A.map (fun x => x.add j)) = AA
  refine st_vx hZ7 rfl (.tmp 2) (.tmp 27) rfl k7 n7 pb7 b7.length cb7 pl7 l7.length cl7 rfl (by rfl) rfl ?_
  intro w8 hZ8 hG8 _
  have hE9 := below_only hE7 hG8 hE7.size (by omega)
  have HG8 := Sl.mk hG8
  clear hG8 hE7 hZ7
  go_wp2_with fail
  refine NoPanic.normal ?_
  go_wp2_with fail
  refine bodyPost_ret (v := .tuple #[.agg #[.int .i64 k7, .int .i64 n7, .slice pb7 b7.length cb7, .slice pl7 l7.length cl7], .slice A7 (n - j) c7, .int .i64 0]) (results_cell2 Tryd.results10 _ _ _ rfl hZ8 Tryd.underlying26 vxSize rfl rfl) rfl ?_
  have hs78 := HG8.out.size
  refine ⟨.mk k7 n7 pb7 b7 cb7 pl7 l7 cl7, A7, n - j, c7, rfl, HXV.out, ?_, HQ.out, ?_, hE9⟩
  · have h1 := HXK7.out.only HG8.out (fun g hg => ⟨by omega, fun e => by injection e; omega⟩)
    exact VxOk.mono (fun g hg => ⟨by omega, by omega⟩) _ h1
  · have h1 := HO.out.kept HG8.out (ownNe HO.out (by omega))
    exact own_base h1 (by omega)

def DecPost (w : World) (v : Vc) (e : Ending) (w' : World) : Prop :=
  ∃ x : Vx, e = .returned (.tuple #[.agg (vxC x).toArray, .int .i64 0]) ∧ x.v = v ∧ VxOk w' (fun g => w.heap.size ≤ g ∧ g < w'.heap.size) x ∧ Below w.heap.size w w'

set_option maxRecDepth 100000 in
set_option maxHeartbeats 2000000 in
theorem decode_ok (v : Vc) (A : Option Addr) (n c : Nat) (w : World) (hall : allV v = true) (hnum : numV v) (hd : depV v ≤ 8) (hn : n ≤ 131072) (hc : n ≤ c) (hby : ∀ x ∈ encV v, x < 256) (hR : Reads w w.heap.size 1 A n (u8s (encV v))) :
    Calls Tryd.prog 16 #[.slice A n c] w (DecPost w v) := by
  have hZ := Blk.new w 26 #[.int .i64 0, .int .i64 0, .slice none 0 0, .slice none 0 0]
  have hE := below_al (Below.refl w.heap.size w) (.cells #[.int .i64 0, .int .i64 0, .slice none 0 0, .slice none 0 0] 26)
  have hsz : (w.alloc (.cells #[.int .i64 0, .int .i64 0, .slice none 0 0, .slice none 0 0] 26)).heap.size = w.heap.size + 1 := by simp
  have HV := Sl.mk (next_ok v A n c (encV v) [] (w.alloc (.cells #[.int .i64 0, .int .i64 0, .slice none 0 0, .slice none 0 0] 26)) hall hnum hd (by simp) hn hc hby ((hR.below hE).more hE.size))
  clear hall hnum hd hby hR
  go_enter Tryd.func16, Tryd.ntmps16
  go_wp2_with fail
  refine HV.out.mono ?_
  rintro e w1 ⟨x, A1, q, c1, rfl, hxv, hxk, hq, hown, hB1⟩
  obtain rfl : 0 = q := hq
  have hZ1 := hZ.be hB1
  have hE1 := below_tr hE hB1
  have hs1 := hB1.size
  rw [hsz] at hs1 hxk
  have HXV := Sl.mk hxv
  have HXK := Sl.mk hxk
  obtain ⟨k7, n7, pb7, b7, cb7, pl7, l7, cl7⟩ := x
  rw [vxC_mk]
  have hX2 := Blk.new w1 26 #[.int .i64 k7, .int .i64 n7, .slice pb7 b7.length cb7, .slice pl7 l7.length cl7]
  have hBa := below_al (Below.refl w1.heap.size w1) (.cells #[.int .i64 k7, .int .i64 n7, .slice pb7 b7.length cb7, .slice pl7 l7.length cl7] 26)
  have hZ2 := hZ1.be hBa
  have hE2 := below_tr hE1 hBa
  have HXK2 := Sl.mk (VxOk.keep (w' := w1.alloc (.cells #[.int .i64 k7, .int .i64 n7, .slice pb7 b7.length cb7, .slice pl7 l7.length cl7] 26)) (fun p hp => hBa.cell hp.2) _ HXK.out)
  have hsz2 : (w1.alloc (.cells #[.int .i64 k7, .int .i64 n7, .slice pb7 b7.length cb7, .slice pl7 l7.length cl7] 26)).heap.size = w1.heap.size + 1 := by simp
  clear hxv hxk hZ hE HV hown hZ1 hE1 hB1 hBa HXK
  go_wp2_with (first | refine ld_vx0 hX2 rfl (.tmp 4) rfl rfl rfl ?_ | refine st_vx hZ2 rfl (.tmp 2) (.tmp 23) rfl k7 n7 pb7 b7.length cb7 pl7 l7.length cl7 rfl (by rfl) rfl ?_)
  intro w8 hZ8 hG8 _
  have hE9 := below_only hE2 hG8 hE2.size (by omega)
  have HG8 := Sl.mk hG8
  clear hG8 hE2 hZ2 hX2
  go_wp2_with fail
  refine bodyPost_ret (v := .tuple #[.agg #[.int .i64 k7, .int .i64 n7, .slice pb7 b7.length cb7, .slice pl7 l7.length cl7], .int .i64 0]) (res_cell_tmp Tryd.results16 _ _ _ rfl hZ8 Tryd.underlying26 vxSize rfl) rfl ?_
  have hs78 := HG8.out.size
  refine ⟨.mk k7 n7 pb7 b7 cb7 pl7 l7 cl7, rfl, HXV.out, ?_, hE9⟩
  have h1 := HXK2.out.only HG8.out (fun g hg => ⟨by omega, fun e => by injection e; omega⟩)
  exact VxOk.mono (fun g hg => ⟨by omega, by omega⟩) _ h1

set_option maxRecDepth 100000 in
set_option maxHeartbeats 2000000 in
theorem next_bad (A : Option Addr) (c : Nat) (b : List Nat) (w : World) (hb : Bad2 b) (hc : 4 ≤ c) (hR : Reads w w.heap.size 1 A 4 (u8s b)) :
    Calls Tryd.prog 10 #[.slice A 4 c] w fun e w' => e = .returned (.tuple #[.agg #[.int .i64 0, .int .i64 0, .slice none 0 0, .slice none 0 0], .slice none 0 0, .int .i64 3]) ∧ Below w.heap.size w w' := by
  have hZ := (Blk.new w 26 #[.int .i64 0, .int .i64 0, .slice none 0 0, .slice none 0 0]).alloc (.cells #[.slice A 4 c, .int .i64 0, .int .i64 0] 64)
  have hE := below_al (below_al (Below.refl w.heap.size w) (.cells #[.int .i64 0, .int .i64 0, .slice none 0 0, .slice none 0 0] 26)) (.cells #[.slice A 4 c, .int .i64 0, .int .i64 0] 64)
  have hB : Blk ((w.alloc (.cells #[.int .i64 0, .int .i64 0, .slice none 0 0, .slice none 0 0] 26)).alloc (.cells #[.slice A 4 c, .int .i64 0, .int .i64 0] 64)) (w.heap.size + 1) 64 #[.slice A 4 c, .int .i64 0, .int .i64 0] := Blk.new' (by simp)
  have hsz : ((w.alloc (.cells #[.int .i64 0, .int .i64 0, .slice none 0 0, .slice none 0 0] 26)).alloc (.cells #[.slice A 4 c, .int .i64 0, .int .i64 0] 64)).heap.size = w.heap.size + 2 := by simp
  obtain ⟨w0, hw0⟩ : ∃ w0, (w.alloc (.cells #[.int .i64 0, .int .i64 0, .slice none 0 0, .slice none 0 0] 26)).alloc (.cells #[.slice A 4 c, .int .i64 0, .int .i64 0] 64) = w0 := ⟨_, rfl⟩
  rw [hw0] at hZ hE hB hsz
  have hRs : Rst w0 (w.heap.size + 1) A 4 c b 0 0 := ⟨hB, (hR.below hE).more (by omega), by rcases hb with rfl | rfl <;> rfl, Nat.zero_le _, hc, by omega, by rcases hb with rfl | rfl <;> decide⟩
  have HV := Sl.mk (value_bad (w.heap.size + 1) A c b w0 hb hRs)
  clear hB hR hb hRs
  go_enter Tryd.func10, Tryd.ntmps10
  go_wp2_with fail
  refine HV.out.mono ?_
  rintro e w1 ⟨rfl, hR1, hG1⟩
  have hZ1 := blk_only hZ hG1 (by omega)
  have hE1 := below_only hE hG1 hE.size (by omega)
  have hsz1 := hG1.size
  clear hG1 hZ hE HV
  have hBa := below_al (Below.refl w1.heap.size w1) (.cells #[.int .i64 0, .int .i64 0, .slice none 0 0, .slice none 0 0] 26)
  have hR2 := hR1.be hBa
  have hZ2 := hZ1.be hBa
  have hE2 := hE1.trans (hBa.mono (by omega))
  have c0 := hR2.blk.cell 0
  have c1 := hR2.blk.cell 1
  have c2 := hR2.blk.cell 2
  clear hR1 hZ1 hE1 hBa
  go_wp2_with fail
  obtain ⟨w2, hw2⟩ : ∃ w2, w1.alloc (.cells #[.int .i64 0, .int .i64 0, .slice none 0 0, .slice none 0 0] 26) = w2 := ⟨_, rfl⟩
  rw [hw2] at hR2 hZ2 hE2 c0 c1 c2 ⊢
  clear hw2
  have hL0 : ∀ v ∈ [Value.int .i64 0, .int .i64 0, .slice none 0 0, .slice none 0 0], v.oneCell' = true := vxC_one (.mk 0 0 none [] 0 none [] 0)
  have HZ3 := Sl.mk (show Blk w2.drew w.heap.size 26 [Value.int .i64 0, .int .i64 0, .slice none 0 0, .slice none 0 0].toArray from hZ2.drew)
  have HE3 := Sl.mk hE2.drew
  have HC2 := Sl.mk (hR2.dr 1).blk
  have HC0 := Sl.mk hR2.blk
  have hwR : w.heap.size < w.heap.size + 1 := Nat.lt_succ_self _
  have hws2 := hE2.size
  clear hZ2 hE2 hR2 c0 c1 c2
  refine wp_region_X (fun W => True) [0, 1, 2, 3, 4, 5, 6, 7] (by kernel_rfl) trivial (fun hS => ?_)
  refine wpAnyX_P (i := 0) (v := ?_) rfl (by kernel_rfl) (by kernel_rfl) (by kernel_rfl) (by kernel_rfl) (fun _ _ _ h => h) (Or.inl ⟨by rfl, ?_⟩) ?_
  rotate_left 1
  · (intro w' hw'; (first | rw [hw'] | (have hw2 := HSF.out w' hw') | skip); go_simp; (try with_reducible rfl))
  simp only [Act.put, List.setIfInBounds_toArray, List.set_cons_zero, List.set_cons_succ]
  refine wpAnyX_P (i := 1) (v := ?_) rfl (by kernel_rfl) (by kernel_rfl) (by kernel_rfl) (by kernel_rfl) (fun _ _ _ h => h) (Or.inl ⟨by rfl, ?_⟩) ?_
  rotate_left 1
  · (intro w' hw'; (first | rw [hw'] | (have hw2 := HSF.out w' hw') | skip); go_simp; (try with_reducible rfl))
  simp only [Act.put, List.setIfInBounds_toArray, List.set_cons_zero, List.set_cons_succ]
  refine wpAnyX_P (i := 2) (v := ?_) rfl (by kernel_rfl) (by kernel_rfl) (by kernel_rfl) (by kernel_rfl) (fun _ _ _ h => h) (Or.inl ⟨by rfl, ?_⟩) ?_
  rotate_left 1
  · (intro w' hw'; (first | rw [hw'] | (have hw2 := HSF.out w' hw') | skip); go_simp; (try with_reducible rfl))
  simp only [Act.put, List.setIfInBounds_toArray, List.set_cons_zero, List.set_cons_succ]
  refine wpAnyX_P (i := 3) (v := ?_) rfl (by kernel_rfl) (by kernel_rfl) (by kernel_rfl) (by kernel_rfl) (fun _ _ _ h => h) (Or.inl ⟨by rfl, ?_⟩) ?_
  rotate_left 1
  · (intro w' hw'; (first | rw [hw'] | (have hw2 := HSF.out w' hw') | skip); go_simp; (try with_reducible rfl))
  simp only [Act.put, List.setIfInBounds_toArray, List.set_cons_zero, List.set_cons_succ]
  refine wpAnyX_twoL (i := 4) (j := 5) rfl rfl (by kernel_rfl) rfl rfl ?_ ?_
  · refine wp_of_run (v := .int .i64 3) (w' := w2.drew) (by have c2 := HC0.out.cell 2; go_simp) ⟨fun _ => trivial, ?_⟩
    simp only [Act.put, List.setIfInBounds_toArray, List.set_cons_zero, List.set_cons_succ]
    refine wpAnyX_oneL (k := 5) rfl (by kernel_rfl) rfl ?_
    refine wp_store_allB 26 (.tmp 2) (.tmp 22) rfl _ _ _ [Value.int .i64 0, .int .i64 0, .slice none 0 0, .slice none 0 0] HZ3.out rfl rfl rfl vxSize hL0 (fun w8 hZ8 hG8 _ => ⟨fun _ => trivial, ?_⟩)
    have hE9 := below_only HE3.out hG8 HE3.out.size (Nat.le_refl _)
    clear hG8
    simp only [Act.put]
    refine wpAnyX_tailF [6, 7] (by kernel_rfl) (by rfl) (by rfl) (by rfl) ?_
    simp only [List.filterMap_cons, List.filterMap_nil, List.getElem?_cons_succ, List.getElem?_cons_zero]
    go_wp2_with fail
    refine NoPanic.normal ?_
    go_wp2_with fail
    refine bodyPost_ret (v := .tuple #[.agg #[.int .i64 0, .int .i64 0, .slice none 0 0, .slice none 0 0], .slice none 0 0, .int .i64 3]) (results_cell2 Tryd.results10 _ _ _ rfl hZ8 Tryd.underlying26 vxSize rfl rfl) rfl ?_
    exact ⟨rfl, hE9⟩
  · refine wp_store_allB 26 (.tmp 2) (.tmp 22) rfl _ _ _ [Value.int .i64 0, .int .i64 0, .slice none 0 0, .slice none 0 0] HZ3.out rfl rfl rfl vxSize hL0 (fun w8 hZ8 hG8 _ => ⟨fun _ => trivial, ?_⟩)
    have hE9 := below_only HE3.out hG8 HE3.out.size (Nat.le_refl _)
    have HC8 := Sl.mk (blk_only HC2.out hG8 (by omega))
    clear hG8
    simp only [Act.put]
    refine wpAnyX_twoL (i := 4) (j := 6) rfl rfl (by kernel_rfl) rfl rfl ?_ ?_
    · refine wp_of_run (v := .int .i64 3) (w' := w8) (by have c2 := HC8.out.cell 2; go_simp) ⟨fun _ => trivial, ?_⟩
      simp only [Act.put, List.setIfInBounds_toArray, List.set_cons_zero, List.set_cons_succ]
      refine wpAnyX_tailF [6, 7] (by kernel_rfl) (by rfl) (by rfl) (by rfl) ?_
      simp only [List.filterMap_cons, List.filterMap_nil, List.getElem?_cons_succ, List.getElem?_cons_zero]
      go_wp2_with fail
      refine NoPanic.normal ?_
      go_wp2_with fail
      refine bodyPost_ret (v := .tuple #[.agg #[.int .i64 0, .int .i64 0, .slice none 0 0, .slice none 0 0], .slice none 0 0, .int .i64 3]) (results_cell2 Tryd.results10 _ _ _ rfl hZ8 Tryd.underlying26 vxSize rfl rfl) rfl ?_
      exact ⟨rfl, hE9⟩
    · refine wp_of_run (v := .slice none 0 0) (w' := w8) (by go_simp) ⟨fun _ => trivial, ?_⟩
      simp only [Act.put, List.setIfInBounds_toArray, List.set_cons_zero, List.set_cons_succ]
      refine wpAnyX_oneL (k := 4) rfl (by kernel_rfl) rfl ?_
      refine wp_of_run (v := .int .i64 3) (w' := w8) (by have c2 := HC8.out.cell 2; go_simp) ⟨fun _ => trivial, ?_⟩
      simp only [Act.put, List.setIfInBounds_toArray, List.set_cons_zero, List.set_cons_succ]
      refine wpAnyX_tailF [7] (by kernel_rfl) (by rfl) (by rfl) (by rfl) ?_
      simp only [List.filterMap_cons, List.filterMap_nil, List.getElem?_cons_succ, List.getElem?_cons_zero]
      go_wp2_with fail
      refine NoPanic.normal ?_
      go_wp2_with fail
      refine bodyPost_ret (v := .tuple #[.agg #[.int .i64 0, .int .i64 0, .slice none 0 0, .slice none 0 0], .slice none 0 0, .int .i64 3]) (results_cell2 Tryd.results10 _ _ _ rfl hZ8 Tryd.underlying26 vxSize rfl rfl) rfl ?_
      exact ⟨rfl, hE9⟩

set_option maxRecDepth 100000 in
set_option maxHeartbeats 2000000 in
theorem decode_bad (A : Option Addr) (c : Nat) (b : List Nat) (w : World) (hb : Bad2 b) (hc : 4 ≤ c) (hR : Reads w w.heap.size 1 A 4 (u8s b)) :
    Calls Tryd.prog 16 #[.slice A 4 c] w fun e w' => e = .returned (.tuple #[.agg #[.int .i64 0, .int .i64 0, .slice none 0 0, .slice none 0 0], .int .i64 3]) ∧ Below w.heap.size w w' := by
  have hZ := Blk.new w 26 #[.int .i64 0, .int .i64 0, .slice none 0 0, .slice none 0 0]
  have hE := below_al (Below.refl w.heap.size w) (.cells #[.int .i64 0, .int .i64 0, .slice none 0 0, .slice none 0 0] 26)
  have HV := Sl.mk (next_bad A c b (w.alloc (.cells #[.int .i64 0, .int .i64 0, .slice none 0 0, .slice none 0 0] 26)) hb hc ((hR.below hE).more hE.size))
  clear hb hR
  go_enter Tryd.func16, Tryd.ntmps16
  go_wp2_with fail
  refine HV.out.mono ?_
  rintro e w1 ⟨rfl, hB1⟩
  have hZ1 := hZ.be hB1
  have hE1 := below_tr hE hB1
  have hBa := below_al (Below.refl w1.heap.size w1) (.cells #[.int .i64 0, .int .i64 0, .slice none 0 0, .slice none 0 0] 26)
  have hZ2 := hZ1.be hBa
  have hE2 := below_tr hE1 hBa
  clear hZ hE HV hZ1 hE1 hB1 hBa
  go_wp2_with (refine st_vx hZ2 rfl (.tmp 2) (.tmp 16) rfl 0 0 none 0 0 none 0 0 rfl (by rfl) rfl ?_)
  intro w8 hZ8 hG8 _
  have hE9 := below_only hE2 hG8 hE2.size (by omega)
  clear hG8 hE2 hZ2
  go_wp2_with fail
  refine bodyPost_ret (v := .tuple #[.agg #[.int .i64 0, .int .i64 0, .slice none 0 0, .slice none 0 0], .int .i64 3]) (res_cell_tmp Tryd.results16 _ _ _ rfl hZ8 Tryd.underlying26 vxSize rfl) rfl ?_
  exact ⟨rfl, hE9⟩

end Go.Proofs.YtbnmbncjefnpiaaDoor
