/-
  The walk of the law ModeGrows.
-/
import Derived.Test.YtheffimpadccaaaModeK
import Derived.Deep.RegionHeld3
import Derived.Deep.DeepCutAuto
import Derived.ChangeShapes
namespace Go.Proofs.Ytheffimpadccaaa
open Go.RowKit

structure Two (w wx : World) (g1 g2 : Nat) (t : TypeId) (A B : Array Value) : Prop where
  b1 : Blk wx g1 t A
  b2 : Blk wx g2 t B
  below : Below w.heap.size w wx
theorem Two.dr {w wx : World} {g1 g2 : Nat} {t : TypeId} {A B : Array Value} (h : Two w wx g1 g2 t A B) : Two w wx.drew g1 g2 t A B := ⟨h.b1.drew, h.b2.drew, h.below.drew⟩
theorem Two.al {w wx : World} {g1 g2 : Nat} {t : TypeId} {A B : Array Value} (h : Two w wx g1 g2 t A B) (o : Obj) : Two w (wx.alloc o) g1 g2 t A B := ⟨h.b1.alloc o, h.b2.alloc o, below_al h.below o⟩
theorem Two.be {w wx w' : World} {g1 g2 : Nat} {t : TypeId} {A B : Array Value} (h : Two w wx g1 g2 t A B) (hb : Below wx.heap.size wx w') : Two w w' g1 g2 t A B := ⟨h.b1.below hb h.b1.lt, h.b2.below hb h.b2.lt, below_tr h.below hb⟩
theorem Two.step {w wx w' : World} {g1 g2 : Nat} {t : TypeId} {A B : Array Value} (h : Two w wx g1 g2 t A B) (o : Obj) (hb : Below (wx.alloc o).heap.size (wx.alloc o) w') : Two w w' g1 g2 t A B :=
  ⟨(h.b1.alloc o).below hb (by have := h.b1.lt; simp; omega), (h.b2.alloc o).below hb (by have := h.b2.lt; simp; omega), (h.below.alloc h.below.size o).trans (hb.mono (by have := h.below.size; simp; omega))⟩

def m8 (a : Int) : Int := wrap64 ((IntKind.u64.wrap a).tmod 8)
def m512 (a : Int) : Int := wrap64 ((IntKind.u64.wrap a).tmod 512)
theorem u64_range (a : Int) : 0 ≤ IntKind.u64.wrap a := by simp [IntKind.wrap, IntKind.bits, IntKind.signed]; omega
theorem m8_range (a : Int) : 0 ≤ m8 a ∧ m8 a < 8 := by
  have h := u64_range a
  unfold m8
  rw [Int.tmod_eq_emod_of_nonneg h, IntWalk.wrap64_in _ (by omega)]
  omega
theorem m512_range (a : Int) : 0 ≤ m512 a ∧ m512 a < 512 := by
  have h := u64_range a
  unfold m512
  rw [Int.tmod_eq_emod_of_nonneg h, IntWalk.wrap64_in _ (by omega)]
  omega

theorem to_any (k m o g : Int) (w : World) :
    Calls Try.prog 7 #[.agg #[.int .i64 k, .int .i64 m, .int .i64 o, .int .i64 g]] w fun e w' => e = .returned (.agg #[.int .i64 k, .int .i64 m, .int .i64 o, .int .i64 g]) ∧
      (w.alloc (.cells #[.int .i64 k, .int .i64 m, .int .i64 o, .int .i64 g] 23)).alloc (.cells #[.int .i64 k, .int .i64 m, .int .i64 o, .int .i64 g] 24) = w' := by
  go_enter Try.func7, Try.ntmps7
  go_wp2
  exact bodyPost_ret (v := .agg #[.int .i64 k, .int .i64 m, .int .i64 o, .int .i64 g]) (by simp [results, Try.results7, go_sem]) rfl ⟨rfl, rfl⟩

set_option maxRecDepth 100000 in
set_option maxHeartbeats 8000000 in
theorem grows_walk (k m o g who grp more a b : Int) (w : World)
    (hplain : ∀ x y t : Int, 0 ≤ x → x < 8 → 0 ≤ y → y < 8 → 0 ≤ t → t < 512 → chk k m o g = 0 → 0 ≤ who → who ≤ 65535 → 0 ≤ grp → grp ≤ 65535 →
      (canB k m o g who grp [x] = true → canB k (bits .or .i64 m t) o g who grp [x] = true) ∧ canB k m o g 0 grp [x, y] = true ∧
      canB k m o g who grp [x, y] = (canB k m o g who grp [x] && canB k m o g who grp [y]) ∧ canB k m o g who grp [bits .or .i64 x y] = (canB k m o g who grp [x] && canB k m o g who grp [y])) :
    Calls Try.prog 3 #[.agg #[.int .i64 k, .int .i64 m, .int .i64 o, .int .i64 g], .int .i64 who, .int .i64 grp, .int .i64 more, .int .i64 a, .int .i64 b] w fun e w' => e = .returned (.bool true) ∧ Below w.heap.size w w' := by
  have hx := m8_range a
  have hy := m8_range b
  have ht := m512_range more
  unfold m8 at hx hy
  unfold m512 at ht
  have HP := hplain _ _ _ hx.1 hx.2 hy.1 hy.2 ht.1 ht.2
  clear hplain hx hy ht
  have HQ := hide HP
  clear HP
  go_enter Try.func3, Try.ntmps3
  go_upto_region 1 with fail
  go_cut [13, 14] (fun s13 s14 wx => ∃ g1 g2 : Nat, s13 = .pointer (some ⟨g1, 0, none⟩) ∧ s14 = .pointer (some ⟨g2, 0, none⟩) ∧ g1 ≠ g2 ∧
    Blk wx g1 24 #[.int .i64 k, .int .i64 m, .int .i64 o, .int .i64 g] ∧ Blk wx g2 24 #[.int .i64 k, .int .i64 m, .int .i64 o, .int .i64 g] ∧
    Blk wx w.heap.size 23 #[.int .i64 k, .int .i64 m, .int .i64 o, .int .i64 g] ∧ w.heap.size < g1 ∧ w.heap.size < g2 ∧ Below w.heap.size w wx)
  case first =>
    clear HQ
    go_region_held3 (fun w' => w'.cell? ⟨w.heap.size, 0, none⟩ = some (.int .i64 k) ∧ w'.cell? ⟨w.heap.size, 1, none⟩ = some (.int .i64 m) ∧ w'.cell? ⟨w.heap.size, 2, none⟩ = some (.int .i64 o) ∧ w'.cell? ⟨w.heap.size, 3, none⟩ = some (.int .i64 g)) (first | assumption | exact s4_alloc _ (by assumption) | go_simp)
      (first | (go_at_call 7; refine (to_any _ _ _ _ _).mono ?_; rintro e w' ⟨rfl, rfl⟩))
    all_goals (go_wp2_with fail; go_meet)
    all_goals refine ⟨_, _, rfl, rfl, by omega, ?_, ?_, ?_, by omega, by omega, ?_⟩
    all_goals first | ((repeat (first | (refine Blk.new' ?_; simp only [World.size_alloc]; done) | refine Blk.drew ?_ | refine Blk.alloc ?_ _)); done) | ((repeat (first | exact Below.refl _ _ | refine Below.drew ?_ | refine below_al ?_ _)); done)
  case rest =>
    obtain ⟨g1, g2, rfl, rfl, hne, hb1, hb2, hb0, hg1, hg2, hW⟩ := hcut
    have hx1 := hb1.lt
    have hx2 := hb2.lt
    obtain ⟨c10, c11, c12, c13⟩ := hb1.c4
    obtain ⟨c20, c21, c22, c23⟩ := hb2.c4
    obtain ⟨c00, c01, c02, c03⟩ := hb0.c4
    have f21 := hb2.frozen 1
    by_cases hy : chk k m o g = 0 ∧ 0 ≤ who ∧ who ≤ 65535 ∧ 0 ≤ grp ∧ grp ≤ 65535
    · obtain ⟨hc, y1, y2, y3, y4⟩ := hy
      have hc' : (chk k m o g != 0) = false := by simpa using hc
      have HP := hide (unhide HQ hc y1 y2 y3 y4)
      clear hc HQ
      have d1 : decide (who < 0) = false := by simp; omega
      have d2 : decide (65535 < who) = false := by simp; omega
      have d3 : decide (grp < 0) = false := by simp; omega
      have d4 : decide (65535 < grp) = false := by simp; omega
      go_upto_region 6 with (first | (go_at_call 8; refine (check_any _ _ _ _ _).mono ?_; rintro e w1 ⟨rfl, hbc⟩))
      have hT : Two w w1 g1 g2 24 #[.int .i64 k, .int .i64 m, .int .i64 o, .int .i64 g] #[.int .i64 k, .int .i64 (bits .or .i64 m (wrap64 ((IntKind.u64.wrap more).tmod 512))), .int .i64 o, .int .i64 g] := ⟨(hb1.far (p := ⟨g2, 1, none⟩) hne _).below hbc (by simp; exact hx1), (hb2.set_ 1 _).below hbc (by simp; exact hx2), (hW.setCell (by simp; omega) _).trans (hbc.mono (by simp; exact hW.size))⟩
      clear hb1 hb2 hb0 hbc hW c10 c11 c12 c13 c20 c21 c22 c23 c00 c01 c02 c03 f21 hx1 hx2
      have hx1 := hT.b1.lt
      have hx2 := hT.b2.lt
      obtain ⟨c10, c11, c12, c13⟩ := hT.b1.c4
      go_cut [15, 16] (fun s15 s16 wx => s15 = .bool (canB k m o g who grp [wrap64 ((IntKind.u64.wrap a).tmod 8)]) ∧ s16 = .bool (canB k m o g who grp [wrap64 ((IntKind.u64.wrap b).tmod 8)]) ∧ Two w wx g1 g2 24 #[.int .i64 k, .int .i64 m, .int .i64 o, .int .i64 g] #[.int .i64 k, .int .i64 (bits .or .i64 m (wrap64 ((IntKind.u64.wrap more).tmod 512))), .int .i64 o, .int .i64 g])
      case first =>
        go_region_held3 (fun w' => w'.cell? ⟨g1, 0, none⟩ = some (.int .i64 k) ∧ w'.cell? ⟨g1, 1, none⟩ = some (.int .i64 m) ∧ w'.cell? ⟨g1, 2, none⟩ = some (.int .i64 o) ∧ w'.cell? ⟨g1, 3, none⟩ = some (.int .i64 g)) (first | assumption | exact s4_alloc _ (by assumption) | go_simp)
          (first
            | (go_at_call 10; refine (can_oneS k m o g who grp (wrap64 ((IntKind.u64.wrap a).tmod 8)) _ g1 (.int .i64 k) (.int .i64 m) (.int .i64 o) (.int .i64 g) _ ?_ ?_ ?_).mono ?_; (focus (go_simp; done)); (focus (first | (go_simp; done) | (have h5 := hsz; simp only [World.size_alloc, World.size_drew] at h5; omega))); (focus assumption); rintro e w2 ⟨rfl, hb, hcc, hsz, hS⟩)
            | (go_at_call 10; refine (can_oneS k m o g who grp (wrap64 ((IntKind.u64.wrap b).tmod 8)) _ g1 (.int .i64 k) (.int .i64 m) (.int .i64 o) (.int .i64 g) _ ?_ ?_ ?_).mono ?_; (focus (go_simp; done)); (focus (first | (go_simp; done) | (have h5 := hsz; simp only [World.size_alloc, World.size_drew] at h5; omega))); (focus assumption); rintro e w2 ⟨rfl, hb, hcc, hsz, hS⟩))
        all_goals (go_wp2_with fail; go_meet)
        all_goals refine ⟨rfl, rfl, ?_⟩
        all_goals repeat (first | exact hT | refine Two.dr ?_ | refine Two.al ?_ _ | refine Two.be ?_ (by assumption))
      case rest =>
        obtain ⟨rfl, rfl, hT1⟩ := hcut
        clear hT c10 c11 c12 c13 hx1 hx2
        obtain ⟨p1, p2, p3, p4⟩ := unhide HP
        have HP1 := hide p1
        clear p1 HP
        go_wp2_with fail
        refine (known_any _).mono ?_
        rintro e w3 ⟨rfl, hbk⟩
        have hT2 := hT1.be hbk
        clear hT1 hbk
        obtain ⟨c10, c11, c12, c13⟩ := hT2.b1.c4
        obtain ⟨c20, c21, c22, c23⟩ := hT2.b2.c4
        cases e1 : canB k m o g who grp [wrap64 ((IntKind.u64.wrap a).tmod 8)]
        · cases e2 : canB k m o g who grp [wrap64 ((IntKind.u64.wrap b).tmod 8)]
          all_goals
            rw [e1, e2] at p3 p4
            simp only [Bool.false_and] at p3 p4
            clear HP1
            go_wp2_with fail
            refine (can_two k m o g 0 grp (wrap64 ((IntKind.u64.wrap a).tmod 8)) (wrap64 ((IntKind.u64.wrap b).tmod 8)) _ _ ?_ ?_ ?_).mono ?_
            · go_simp
            · go_simp
            · go_simp
            rintro e w4 ⟨rfl, hb⟩
            have hT3 := (hT2.al _).be hb
            clear hT2 hb c10 c11 c12 c13 c20 c21 c22 c23
            obtain ⟨c10, c11, c12, c13⟩ := hT3.b1.c4
            go_wp2_with fail
            refine (can_two k m o g who grp (wrap64 ((IntKind.u64.wrap a).tmod 8)) (wrap64 ((IntKind.u64.wrap b).tmod 8)) _ _ ?_ ?_ ?_).mono ?_
            · go_simp
            · go_simp
            · go_simp
            rintro e w5 ⟨rfl, hb⟩
            have hT4 := (hT3.al _).be hb
            clear hT3 hb c10 c11 c12 c13
            obtain ⟨c10, c11, c12, c13⟩ := hT4.b1.c4
            go_wp2_with fail
            refine (can_one k m o g who grp (bits .or .i64 (wrap64 ((IntKind.u64.wrap a).tmod 8)) (wrap64 ((IntKind.u64.wrap b).tmod 8))) _ _ ?_ ?_).mono ?_
            · go_simp
            · go_simp
            rintro e w6 ⟨rfl, hb⟩
            have hT5 := (hT4.al _).be hb
            clear hT4 hb c10 c11 c12 c13
            obtain ⟨c10, c11, c12, c13⟩ := hT5.b1.c4
            go_wp2_with fail
            go_ret
            exact ⟨rfl, hT5.below⟩
        · have q1 := unhide HP1 e1
          cases e2 : canB k m o g who grp [wrap64 ((IntKind.u64.wrap b).tmod 8)]
          all_goals
            rw [e1, e2] at p3 p4
            simp only [Bool.true_and] at p3 p4
            clear HP1
            go_wp2_with fail
            refine (can_one k (bits .or .i64 m (wrap64 ((IntKind.u64.wrap more).tmod 512))) o g who grp (wrap64 ((IntKind.u64.wrap a).tmod 8)) _ _ ?_ ?_).mono ?_
            · go_simp
            · go_simp
            rintro e w4 ⟨rfl, hb⟩
            have hT3 := (hT2.al _).be hb
            clear hT2 hb c10 c11 c12 c13 c20 c21 c22 c23
            obtain ⟨c10, c11, c12, c13⟩ := hT3.b1.c4
            go_wp2_with fail
            refine (can_two k m o g 0 grp (wrap64 ((IntKind.u64.wrap a).tmod 8)) (wrap64 ((IntKind.u64.wrap b).tmod 8)) _ _ ?_ ?_ ?_).mono ?_
            · go_simp
            · go_simp
            · go_simp
            rintro e w5 ⟨rfl, hb⟩
            have hT4 := (hT3.al _).be hb
            clear hT3 hb c10 c11 c12 c13
            obtain ⟨c10, c11, c12, c13⟩ := hT4.b1.c4
            go_wp2_with fail
            refine (can_two k m o g who grp (wrap64 ((IntKind.u64.wrap a).tmod 8)) (wrap64 ((IntKind.u64.wrap b).tmod 8)) _ _ ?_ ?_ ?_).mono ?_
            · go_simp
            · go_simp
            · go_simp
            rintro e w6 ⟨rfl, hb⟩
            have hT5 := (hT4.al _).be hb
            clear hT4 hb c10 c11 c12 c13
            obtain ⟨c10, c11, c12, c13⟩ := hT5.b1.c4
            go_wp2_with fail
            refine (can_one k m o g who grp (bits .or .i64 (wrap64 ((IntKind.u64.wrap a).tmod 8)) (wrap64 ((IntKind.u64.wrap b).tmod 8))) _ _ ?_ ?_).mono ?_
            · go_simp
            · go_simp
            rintro e w7 ⟨rfl, hb⟩
            have hT6 := (hT5.al _).be hb
            clear hT5 hb c10 c11 c12 c13
            obtain ⟨c10, c11, c12, c13⟩ := hT6.b1.c4
            go_wp2_with fail
            go_ret
            exact ⟨rfl, hT6.below⟩
    · go_upto_region 6 with (first | (go_at_call 8; refine (check_any _ _ _ _ _).mono ?_; rintro e w1 ⟨rfl, hbc⟩) | (go_at_call 9; refine (known_any _).mono ?_; rintro e w2 ⟨rfl, hbk⟩))
      all_goals go_ret
      all_goals exact ⟨rfl, ((hW.setCell (by simp; omega) _).trans (hbc.mono (by simp; exact hW.size))).trans (hbk.mono (by have := hbc.size; have := hW.size; simp at *; omega))⟩

end Go.Proofs.Ytheffimpadccaaa
