/-
  Copy.
-/
import Derived.Test.YtpffdlnjpjoikaaBlkQ
import Derived.Deep.RegionHeld3
namespace Go.Proofs.Ytpffdlnjpjoikaa
open Go.RowKit

set_option maxHeartbeats 1000000 in
theorem clone_secs (A : Option Addr) (n c : Nat) (l : List Int) (w : World) (hn : n ≤ 1000000) (hR : Reads w w.heap.size 64 A n (bsC l)) :
    Calls Try.prog 40 #[.slice A n c] w fun e w' => ∃ v', e = .returned v' ∧ w'.ownsRow w.heap.size 75 64 v' n (bsC l) ∧ Below w.heap.size w w' := by
  have q : ∀ (w : World) (a : Option Addr) (n c n' c' : Nat), (binOp .eql 60 (.slice a n c) (.slice none n' c')).run Try.prog w = .ok (.bool a.isNone) w := fun w a n c n' c' => Lib.run_eql_slice_nil w _ _ a n c n' c' Try.underlying60
  obtain ⟨i0, hi0, hz0, hz1, hz2⟩ := info_parts infoSec3
  have hl := hR.1
  cases A with
  | none =>
    have h0 : n = 0 := by
      rcases Nat.eq_zero_or_pos n with h | h
      · exact h
      · obtain ⟨ad, h, _⟩ := hR.2 h; cases h
    subst h0
    have hl0 : bsC l = [] := List.eq_nil_of_length_eq_zero (by omega)
    have HL := Sl.mk hl0
    clear hR hl hl0
    go_enter Try.func40, Try.ntmps40
    go_wp2
    go_ret
    exact ⟨_, rfl, by rw [HL.out]; exact World.ownsRow_nil _ _ _ _, Below.refl _ _⟩
  | some ad =>
    have HR := Sl.mk (hR.alloc (Nat.le_refl _) (.cells #[] 75))
    clear hR hl
    go_enter Try.func40, Try.ntmps40
    go_wp2_with (at_builtin; refine wpList_append_anyG _ rfl (.tmp 5) (.tmp 6) 60 rfl w.heap.size 75 i0 z64 64 64 Try.underlying60 hi0 hz0 hz1 hz2 (by rfl) (by decide) _ _ _ rfl (own_empty w _ 64) w.heap.size _ _ _ _ rfl HR.out (bsC_one l) (by unfold maxLen; omega) (by omega) (by simp) ?_)
    intro v1 w1 hown hg hb
    go_wp2_with fail
    go_ret
    refine ⟨_, rfl, by simpa using hown, (below_al (Below.refl _ _) _).grown hg (by simp) (fun x hx => by simp [Value.ownBlock] at hx; omega)⟩
theorem lineC_one (l : List Wt) : ∀ v ∈ lineC l, v.oneCell' = true := by
  intro v hv
  obtain ⟨x, -, hx⟩ := List.mem_flatMap.1 hv
  exact wtC_one x v hx
set_option maxHeartbeats 1000000 in
theorem clone_wts (A : Option Addr) (n c : Nat) (l : List Wt) (w : World) (hn : n ≤ 1000000) (hR : Reads w w.heap.size 65 A n (lineC l)) :
    Calls Try.prog 41 #[.slice A n c] w fun e w' => ∃ v', e = .returned v' ∧ w'.ownsRow w.heap.size 77 65 v' n (lineC l) ∧ Below w.heap.size w w' := by
  have q : ∀ (w : World) (a : Option Addr) (n c n' c' : Nat), (binOp .eql 63 (.slice a n c) (.slice none n' c')).run Try.prog w = .ok (.bool a.isNone) w := fun w a n c n' c' => Lib.run_eql_slice_nil w _ _ a n c n' c' Try.underlying63
  obtain ⟨i0, hi0, hz0, hz1, hz2⟩ := info_parts infoWt3
  have hl := hR.1
  cases A with
  | none =>
    have h0 : n = 0 := by
      rcases Nat.eq_zero_or_pos n with h | h
      · exact h
      · obtain ⟨ad, h, _⟩ := hR.2 h; cases h
    subst h0
    have hl0 : lineC l = [] := List.eq_nil_of_length_eq_zero (by omega)
    have HL := Sl.mk hl0
    clear hR hl hl0
    go_enter Try.func41, Try.ntmps41
    go_wp2
    go_ret
    exact ⟨_, rfl, by rw [HL.out]; exact World.ownsRow_nil _ _ _ _, Below.refl _ _⟩
  | some ad =>
    have HR := Sl.mk (hR.alloc (Nat.le_refl _) (.cells #[] 77))
    clear hR hl
    go_enter Try.func41, Try.ntmps41
    go_wp2_with (at_builtin; refine wpList_append_anyG _ rfl (.tmp 5) (.tmp 6) 63 rfl w.heap.size 77 i0 (.agg (wtC wt0).toArray) 65 72 Try.underlying63 hi0 hz0 hz1 hz2 (by rfl) (by decide) _ _ _ rfl (own_empty w _ 65) w.heap.size _ _ _ _ rfl HR.out (lineC_one l) (by unfold maxLen; omega) (by omega) (by simp) ?_)
    intro v1 w1 hown hg hb
    go_wp2_with fail
    go_ret
    refine ⟨_, rfl, by simpa using hown, (below_al (Below.refl _ _) _).grown hg (by simp) (fun x hx => by simp [Value.ownBlock] at hx; omega)⟩

theorem c_alloc {W : World} {p : Addr} {v : Value} (o : Obj) (h : W.cell? p = some v) : (W.alloc o).cell? p = some v := (World.cell?_alloc_lt W o p (World.block_lt_of_cell? W p h)).trans h
theorem s5_alloc {W : World} {g : Nat} {a b c d e : Value} (o : Obj) (h : W.cell? ⟨g, 0, none⟩ = some a ∧ W.cell? ⟨g, 1, none⟩ = some b ∧ W.cell? ⟨g, 2, none⟩ = some c ∧ W.cell? ⟨g, 3, none⟩ = some d ∧ W.cell? ⟨g, 4, none⟩ = some e) :
    (W.alloc o).cell? ⟨g, 0, none⟩ = some a ∧ (W.alloc o).cell? ⟨g, 1, none⟩ = some b ∧ (W.alloc o).cell? ⟨g, 2, none⟩ = some c ∧ (W.alloc o).cell? ⟨g, 3, none⟩ = some d ∧ (W.alloc o).cell? ⟨g, 4, none⟩ = some e :=
  ⟨c_alloc o h.1, c_alloc o h.2.1, c_alloc o h.2.2.1, c_alloc o h.2.2.2.1, c_alloc o h.2.2.2.2⟩

set_option maxRecDepth 100000 in
set_option maxHeartbeats 4000000 in
theorem copy_any (g : Nat) (s : DSt) (Al Aq : Option Addr) (cl cq base : Nat) (w : World) (hD : Dk w base g s (.slice Al s.n cl) (.slice Aq s.line.length cq)) (hn : s.line.length ≤ 1000000) (hs : s.n ≤ 1000000) :
    Calls Try.prog 16 #[.pointer (some ⟨g, 0, none⟩)] w fun e w' => ∃ g' vl' vq', e = .returned (.pointer (some ⟨g', 0, none⟩)) ∧ Dk w' w.heap.size g' s vl' vq' ∧ Below w.heap.size w w' := by
  have hD0 := hD.be (Below.refl w.heap.size w).drew
  have hS0 : w.drew.cell? ⟨g, 0, none⟩ = some (.bool s.off) ∧ w.drew.cell? ⟨g, 1, none⟩ = some (.bool false) ∧ w.drew.cell? ⟨g, 2, none⟩ = some (.int .i64 0) ∧ w.drew.cell? ⟨g, 3, none⟩ = some (.slice Al s.n cl) ∧ w.drew.cell? ⟨g, 4, none⟩ = some (.slice Aq s.line.length cq) := ⟨hD0.blk.cell 0, hD0.blk.cell 1, hD0.blk.cell 2, hD0.blk.cell 3, hD0.blk.cell 4⟩
  go_enter Try.func16, Try.ntmps16
  go_wp2_with fail
  go_region_held3 (fun W => W.cell? ⟨g, 0, none⟩ = some (.bool s.off) ∧ W.cell? ⟨g, 1, none⟩ = some (.bool false) ∧ W.cell? ⟨g, 2, none⟩ = some (.int .i64 0) ∧ W.cell? ⟨g, 3, none⟩ = some (.slice Al s.n cl) ∧ W.cell? ⟨g, 4, none⟩ = some (.slice Aq s.line.length cq)) (first | assumption | exact hS0 | exact s5_alloc _ (by assumption))
    (first
      | (go_at_call 40; refine (clone_secs Al s.n cl s.laid _ hs (Reads.of_own hD0.laid)).mono ?_; rintro e w1 ⟨v1, rfl, ho1, hB1⟩; obtain ⟨A1, c1, rfl⟩ := ownForm ho1; have hD1 := hD0.be hB1; have hS1 : w1.cell? ⟨g, 0, none⟩ = some (.bool s.off) ∧ w1.cell? ⟨g, 1, none⟩ = some (.bool false) ∧ w1.cell? ⟨g, 2, none⟩ = some (.int .i64 0) ∧ w1.cell? ⟨g, 3, none⟩ = some (.slice Al s.n cl) ∧ w1.cell? ⟨g, 4, none⟩ = some (.slice Aq s.line.length cq) := ⟨hD1.blk.cell 0, hD1.blk.cell 1, hD1.blk.cell 2, hD1.blk.cell 3, hD1.blk.cell 4⟩)
      | (go_at_call 41; refine (clone_wts Aq s.line.length cq s.line _ hn (Reads.of_own hD1.line)).mono ?_; rintro e w2 ⟨v2, rfl, ho2, hB2⟩; obtain ⟨A2, c2, rfl⟩ := ownForm ho2; have hD2 := hD1.be hB2; have hS2 : w2.cell? ⟨g, 0, none⟩ = some (.bool s.off) ∧ w2.cell? ⟨g, 1, none⟩ = some (.bool false) ∧ w2.cell? ⟨g, 2, none⟩ = some (.int .i64 0) ∧ w2.cell? ⟨g, 3, none⟩ = some (.slice Al s.n cl) ∧ w2.cell? ⟨g, 4, none⟩ = some (.slice Aq s.line.length cq) := ⟨hD2.blk.cell 0, hD2.blk.cell 1, hD2.blk.cell 2, hD2.blk.cell 3, hD2.blk.cell 4⟩))
  have hX := Blk.new w2 70 #[.bool s.off, .bool false, .int .i64 0, .slice A1 s.n c1, .slice A2 s.line.length c2, .int .i64 0, .int .i64 0]
  have hba := (Below.refl w2.heap.size w2).alloc (Nat.le_refl _) (.cells #[.bool s.off, .bool false, .int .i64 0, .slice A1 s.n c1, .slice A2 s.line.length c2, .int .i64 0, .int .i64 0] 70)
  have hl3 := own_below (own_below ho1 hB2) hba
  have hq3 := own_below ho2 hba
  have hD3 := hD2.be hba
  have hB3 : Below w.heap.size w (w2.alloc (.cells #[.bool s.off, .bool false, .int .i64 0, .slice A1 s.n c1, .slice A2 s.line.length c2, .int .i64 0, .int .i64 0] 70)) := by
    have h1 : Below w.heap.size w w1 := (Below.refl w.heap.size w).drew.trans hB1
    have h2 := h1.trans (hB2.mono h1.size)
    exact h2.alloc h2.size _
  have hge1 : w.heap.size ≤ w1.heap.size := hB1.size
  have hge2 : w.heap.size ≤ w2.heap.size := Nat.le_trans hge1 hB2.size
  obtain ⟨w3, hw3⟩ : ∃ w3, w2.alloc (.cells #[.bool s.off, .bool false, .int .i64 0, .slice A1 s.n c1, .slice A2 s.line.length c2, .int .i64 0, .int .i64 0] 70) = w3 := ⟨_, rfl⟩
  rw [hw3] at hX hl3 hq3 hD3 hB3 ⊢
  obtain ⟨g', hg'⟩ : ∃ g', w2.heap.size = g' := ⟨_, rfl⟩
  rw [hg'] at hX hge2 ⊢
  have hg0 : g < w.heap.size := hD.blk.lt
  clear hS0 hD0 hba hw3 hg' hB1 hB2 hD1 hD2 hS1 hS2 ho1 ho2
  have d5 : w3.cell? ⟨g, 5, none⟩ = some (.int .i64 s.wr) := hD3.blk.cell 5
  have d6 : w3.cell? ⟨g, 6, none⟩ = some (.int .i64 s.fl) := hD3.blk.cell 6
  have hne : g ≠ g' := by omega
  go_wp2_with fail
  refine wp_region_quiet_tail 7 (by kernel_rfl) (by kernel_rfl) ?_
  simp only [List.take_succ_cons, List.take_zero, List.drop_succ_cons, List.drop_zero]
  repeat (any_goals (first | go_big_quiet_step ((go_at_call 43; exact quiet_lf (load_any g 5 s.wr _ d5))) | quiet_step ((go_at_call 43; exact quiet_lf (load_any g 5 s.wr _ d5)))))
  refine wpQuiet_nil ?_
  intro _ hw'
  obtain ⟨nq, hw''⟩ := hw'
  subst hw''
  have x5 : (w3.drewN nq).cell? ⟨g', 5, none⟩ = some (.int .i64 0) := (hX.drewN nq).cell 5
  have y5 := (hX.drewN nq).frozen 5
  have hX4 := (hX.drewN nq).set_ 5 (.int .i64 s.wr)
  go_wp2_with fail
  refine (store_any g' 5 s.wr _ _ x5 y5).mono ?_
  rintro e w4 ⟨rfl, hw4⟩
  have e6 : w4.cell? ⟨g, 6, none⟩ = some (.int .i64 s.fl) := by rw [hw4]; exact ((hD3.blk.drewN nq).far (p := ⟨g', 5, none⟩) hne (.int .i64 s.wr)).cell 6
  rw [← hw4] at hX4
  have hl4 : w4.ownsRow w.heap.size 75 64 (.slice A1 s.n c1) s.n (bsC s.laid) := by rw [hw4]; exact dk_row (own_below hl3 (below_drN (Below.refl _ _) nq)) (own_blk_ne hl3 hX (by decide)) 5 _
  have hq4 : w4.ownsRow w1.heap.size 77 65 (.slice A2 s.line.length c2) s.line.length (lineC s.line) := by rw [hw4]; exact dk_row (own_below hq3 (below_drN (Below.refl _ _) nq)) (own_blk_ne hq3 hX (by decide)) 5 _
  have hB4 : Below w.heap.size w w4 := by rw [hw4]; exact (hB3.trans (below_drN (Below.refl _ _) nq)).setCell (p := ⟨g', 5, none⟩) hge2 _
  clear hw4 x5 y5 d5 d6 hX hl3 hq3 hD3 hB3
  go_wp2_with fail
  refine wp_region_quiet_tail 7 (by kernel_rfl) (by kernel_rfl) ?_
  simp only [List.take_succ_cons, List.take_zero, List.drop_succ_cons, List.drop_zero]
  repeat (any_goals (first | go_big_quiet_step ((go_at_call 43; exact quiet_lf (load_any g 6 s.fl _ e6))) | quiet_step ((go_at_call 43; exact quiet_lf (load_any g 6 s.fl _ e6)))))
  refine wpQuiet_nil ?_
  intro _ hw'
  obtain ⟨nq, hw''⟩ := hw'
  subst hw''
  have x6 : ∀ n, (w4.drewN n).cell? ⟨g', 6, none⟩ = some (.int .i64 0) := fun n => (hX4.drewN n).cell 6
  have y6 : ∀ n, (w4.drewN n).frozen? ⟨g', 6, none⟩ = false := fun n => (hX4.drewN n).frozen 6
  have HX4 := Sl.mk hX4
  have HL4 := Sl.mk hl4
  have HQ4 := Sl.mk hq4
  have HB4 := Sl.mk hB4
  clear hX4 hl4 hq4 hB4 e6
  go_wp2_with fail
  refine (store_any g' 6 s.fl _ _ (x6 _) (y6 _)).mono ?_
  rintro e w5 ⟨rfl, rfl⟩
  clear x6 y6
  go_wp2_with fail
  go_ret
  refine ⟨g', .slice A1 s.n c1, .slice A2 s.line.length c2, rfl, ⟨(HX4.out.drewN _).set_ 6 _, ?_, ?_, hge2⟩, ?_⟩
  · exact dk_row (own_below HL4.out (below_drN (Below.refl _ _) _)) (own_blk_ne HL4.out HX4.out (by decide)) 6 _
  · exact own_mono (dk_row (own_below HQ4.out (below_drN (Below.refl _ _) _)) (own_blk_ne HQ4.out HX4.out (by decide)) 6 _) hge1
  · exact (HB4.out.trans (below_drN (Below.refl _ _) _)).setCell (p := ⟨g', 6, none⟩) hge2 _

end Go.Proofs.Ytpffdlnjpjoikaa
