/-
  The chapter's example.
-/
import Derived.Test.YtkmdhmnjohlnaaaRevI
namespace Go.Proofs.Ytkmdhmnjohlnaaa
open Go.RowKit

def rvN (n k : Int) : Rv := ⟨n, List.replicate 32 0, k, by simp⟩

theorem reads_revs (w : World) (l : List Rv) (cs : Array Value) (hcs : cs = (revC l).toArray) : Reads (w.alloc (.cells cs 36)) (w.heap.size + 1) 34 (some ⟨w.heap.size, 0, none⟩) l.length (revC l) := by
  subst hcs
  refine ⟨revC_len l, fun _ => ⟨_, rfl, by simp, fun j u hj => ?_⟩⟩
  have hadd : (⟨w.heap.size, 0, none⟩ : Addr).add j = ⟨w.heap.size, j, none⟩ := by unfold Addr.add; split <;> simp_all
  rw [hadd, (Blk.new w _ _).cell j]
  simpa using hj

theorem kn_e : addE ⟨#[97]⟩ ⟨#[98]⟩ 1 [rvN 1 0, rvN 2 0, rvN 3 0] (rvN 4 0) = 0 := by decide +kernel
theorem kn_1 : addL true 1 [rvN 1 0, rvN 2 0, rvN 3 0] (rvN 4 0) = [rvN 2 0] := by rfl
theorem kn_2 : addL false 1 [rvN 1 0, rvN 2 0, rvN 3 0] (rvN 4 0) = [rvN 1 0, rvN 3 0, rvN 4 0] := by rfl

set_option maxRecDepth 100000 in
set_option maxHeartbeats 4000000 in
theorem known_any (w : World) : Calls Try.prog 19 #[] w fun e w' => e = .returned (.bool true) ∧ Below w.heap.size w w' := by
  obtain ⟨w0, hw0⟩ : ∃ w0, w.alloc (.cells #[.int .i64 1, .int .u8 0, .int .u8 0, .int .u8 0, .int .u8 0, .int .u8 0, .int .u8 0, .int .u8 0, .int .u8 0, .int .u8 0, .int .u8 0, .int .u8 0, .int .u8 0, .int .u8 0, .int .u8 0, .int .u8 0, .int .u8 0, .int .u8 0, .int .u8 0, .int .u8 0, .int .u8 0, .int .u8 0, .int .u8 0, .int .u8 0, .int .u8 0, .int .u8 0, .int .u8 0, .int .u8 0, .int .u8 0, .int .u8 0, .int .u8 0, .int .u8 0, .int .u8 0, .int .i64 0, .int .i64 2, .int .u8 0, .int .u8 0, .int .u8 0, .int .u8 0, .int .u8 0, .int .u8 0, .int .u8 0, .int .u8 0, .int .u8 0, .int .u8 0, .int .u8 0, .int .u8 0, .int .u8 0, .int .u8 0, .int .u8 0, .int .u8 0, .int .u8 0, .int .u8 0, .int .u8 0, .int .u8 0, .int .u8 0, .int .u8 0, .int .u8 0, .int .u8 0, .int .u8 0, .int .u8 0, .int .u8 0, .int .u8 0, .int .u8 0, .int .u8 0, .int .u8 0, .int .u8 0, .int .i64 0, .int .i64 3, .int .u8 0, .int .u8 0, .int .u8 0, .int .u8 0, .int .u8 0, .int .u8 0, .int .u8 0, .int .u8 0, .int .u8 0, .int .u8 0, .int .u8 0, .int .u8 0, .int .u8 0, .int .u8 0, .int .u8 0, .int .u8 0, .int .u8 0, .int .u8 0, .int .u8 0, .int .u8 0, .int .u8 0, .int .u8 0, .int .u8 0, .int .u8 0, .int .u8 0, .int .u8 0, .int .u8 0, .int .u8 0, .int .u8 0, .int .u8 0, .int .u8 0, .int .u8 0, .int .i64 0] 36) = w0 := ⟨_, rfl⟩
  have hR0 : Reads w0 (w.heap.size + 1) 34 (some ⟨w.heap.size, 0, none⟩) 3 (revC [rvN 1 0, rvN 2 0, rvN 3 0]) := by rw [← hw0]; exact reads_revs w [rvN 1 0, rvN 2 0, rvN 3 0] _ rfl
  have hB0 : Below w.heap.size w w0 := by rw [← hw0]; exact below_al (Below.refl _ _) _
  have hs0 : w0.heap.size = w.heap.size + 1 := by rw [← hw0]; simp
  go_enter Try.func19, Try.ntmps19
  have hs0' := Sl.mk hs0
  clear hs0
  go_wp2_with (refine st_pkn rfl (.tmp 1) (.tmp 10) rfl ⟨#[97]⟩ ⟨#[98]⟩ 1 (some ⟨w.heap.size, 0, none⟩) 3 3 rfl rfl ?_)
  intro w1 hP1 hB1 hs1
  clear hw0
  have hR1 := Sl.mk ((hR0.below (hB1.mono (by rw [hs0'.out]; exact Nat.le_refl _))).more (B' := w1.heap.size) (by rw [hs1, hs0'.out]; omega))
  have hE1 := below_tr hB0 hB1
  clear hR0 hB0 hB1 hs1
  go_wp2_with (refine ld_pk hP1 rfl (.tmp 1) rfl rfl rfl ?_)
  refine (add_any ⟨#[97]⟩ ⟨#[98]⟩ 1 (some ⟨w.heap.size, 0, none⟩) 3 3 [rvN 1 0, rvN 2 0, rvN 3 0] (rvN 4 0) _ (by decide) (by decide) (by omega) hR1.out).mono ?_
  rintro e w2 ⟨hB2, hp⟩
  rw [kn_e, kn_1, kn_2] at hp
  rcases hp with ⟨h, _⟩ | ⟨_, A1, c1, A2, c2, rfl, hrows⟩
  · exact absurd rfl h
  have hE2 := below_tr hE1 hB2
  go_wp2_with (refine st_pkn rfl (.tmp 2) (.tmp 15) rfl ⟨#[97]⟩ ⟨#[98]⟩ 4 A2 3 c2 rfl rfl ?_)
  intro w3 hQ3 hB3 _
  have hrows3 := hrows.below hB3
  have hE3 := below_tr hE2 hB3
  clear hrows hE2 hB3 hB2 hE1
  go_wp2_with (refine ld_pk hQ3 rfl (.tmp 2) rfl rfl rfl ?_)
  refine (kept_any ⟨#[97]⟩ ⟨#[98]⟩ 4 A2 3 c2 [rvN 1 0, rvN 3 0, rvN 4 0] _ (by omega) (Reads.of_own hrows3.own2)).mono ?_
  rintro e w4 ⟨A', c', rfl, hown, hB4⟩
  have hrows4 := hrows3.below hB4
  have hQ4 := hQ3.be hB4
  have hE4 := below_tr hE3 hB4
  obtain ⟨q0, q1, q2, q3⟩ := hQ4.c4
  obtain ⟨g, cc, hv, _, _, hcell⟩ := ownCells hown (by omega)
  injection hv with hA _ hcc
  subst hA hcc
  have k0 := hcell 0 _ rfl
  have k1 := hcell 1 _ rfl
  have k2 := hcell 2 _ rfl
  obtain ⟨g2, cc2, hv2, _, _, hcell2⟩ := ownCells hrows4.own1 (by simp)
  injection hv2 with hA2 _ hcc2
  subst hA2 hcc2
  have m0 := hcell2 0 _ rfl
  clear hcell hcell2 hrows4 hrows3 hown
  go_wp2_with fail
  go_ret
  exact ⟨rfl, hE4⟩

end Go.Proofs.Ytkmdhmnjohlnaaa
