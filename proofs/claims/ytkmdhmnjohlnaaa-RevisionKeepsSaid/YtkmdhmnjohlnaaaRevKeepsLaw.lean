/-
  The walk of the law RevisionKeeps.
-/
import Derived.Test.YtkmdhmnjohlnaaaRevKP
import Derived.Test.YtkmdhmnjohlnaaaWordsP
namespace Go.Proofs.Ytkmdhmnjohlnaaa
open Go.RowKit

abbrev sA : ByteArray := ⟨#[97]⟩
abbrev sB : ByteArray := ⟨#[98]⟩

/-- The package of the law, behind i steps. -/
structure KP (w wr : World) (pg i : Nat) (l : List Rv) (a : Int) (A : Option Addr) (c : Nat) : Prop where
  blk : Blk wr pg 30 #[.string sA, .string sB, .int .i64 a, .slice A l.length c]
  own : wr.ownsRow w.heap.size 36 34 (.slice A l.length c) l.length (revC l)
  ne : (Value.slice A l.length c).ownBlock ≠ some pg
  ok : checkF sA sB a l = 0
  last : lastF l ≤ 1 + 5 * i
  below : Below w.heap.size w wr
  pgE : w.heap.size ≤ pg

theorem KP.be {w wr w' : World} {pg i : Nat} {l : List Rv} {a : Int} {A : Option Addr} {c : Nat} (h : KP w wr pg i l a A c) (hb : Below wr.heap.size wr w') : KP w w' pg i l a A c :=
  ⟨h.blk.be hb, own_below h.own hb, h.ne, h.ok, h.last, below_tr h.below hb, h.pgE⟩

theorem KP.step {w wr : World} {pg i : Nat} {l : List Rv} {a : Int} {A : Option Addr} {c : Nat} (h : KP w wr pg i l a A c) : KP w wr pg (i + 1) l a A c :=
  ⟨h.blk, h.own, h.ne, h.ok, by have := h.last; omega, h.below, h.pgE⟩

theorem k_of (x : Int) : ∃ k : Nat, wrap64 ((IntKind.u64.wrap x).tmod 8) = (k : Int) ∧ k ≤ 7 := by
  have h := Int.emod_nonneg x (show (18446744073709551616 : Int) ≠ 0 by decide)
  have e : IntKind.u64.wrap x = x % 18446744073709551616 := by rw [IntKind.wrap_u64]
  rw [e, Int.tmod_eq_emod_of_nonneg h]
  refine ⟨((x % 18446744073709551616) % 8).toNat, ?_, by omega⟩
  unfold wrap64
  omega

set_option maxRecDepth 100000 in
set_option maxHeartbeats 4000000 in
theorem keeps_walk (sl : List Int) (A0 : Option Addr) (n0 c0 : Nat) (w : World) (hn0 : n0 ≤ 9223372036854775807) (hR : Reads w w.heap.size 1 A0 n0 (sl.map (Value.int .i64))) :
    Calls Try.prog 4 #[.slice A0 n0 c0] w fun e w' => e = .returned (.bool true) ∧ Below w.heap.size w w' := by
  have hsl : sl.length = n0 := by simpa using hR.1
  have HSL := Sl.mk hsl
  clear hsl
  go_enter Try.func4, Try.ntmps4
  go_wp2_with fail
  refine (first_any sA sB (rvN 1 0) _ (by decide) (by decide)).mono ?_
  rintro e w1 ⟨hB1, hp⟩
  have hc1 : checkF sA sB (rvN 1 0).no [rvN 1 0] = 0 := by decide +kernel
  rcases hp with ⟨h, _⟩ | ⟨_, A1, c1, rfl, hown⟩
  · exact absurd hc1 h
  have HC1 := Sl.mk hc1
  have hne1 := ownNeLt hown (Nat.le_refl _)
  clear hc1
  go_wp2_with (refine st_pkn rfl (.tmp 3) (.tmp 19) rfl sA sB 1 A1 1 c1 rfl rfl ?_)
  intro w2 hP2 hB2 _
  have hne1' : (Value.slice A1 [rvN 1 0].length c1).ownBlock ≠ some w1.heap.size := by
    show (Value.slice A1 1 c1).ownBlock ≠ some w1.heap.size
    rcases hne1 with h | h
    · rw [h]; simp
    · exact h
  have hK0 : KP w w2 w1.heap.size 0 [rvN 1 0] 1 A1 c1 := ⟨hP2, own_below hown hB2, hne1', HC1.out, by simp [lastF, rvN], below_tr hB1 hB2, hB1.size⟩
  have hpg := hB1.size
  clear hP2 hown hB1 hB2 hne1
  go_wp2_with fail
  go_loopw [5] (fun s5 wr => ∃ (i : Nat) (l : List Rv) (a : Int) (A : Option Addr) (c : Nat), i ≤ 20 ∧ i ≤ n0 ∧ s5 = .int .i64 i ∧ KP w wr w1.heap.size i l a A c) (fun s5 _ => n0 - (intOf s5).toNat)
  case atStart => exact ⟨0, [rvN 1 0], 1, A1, c1, by omega, by omega, rfl, hK0⟩
  case round =>
    obtain ⟨i, l, a, A, c, hi20, hin, rfl, hK⟩ := hrel
    clear hK0
    obtain ⟨hnA, hnB, hl1, hl3, hgood, hhas⟩ := check_parts hK.ok
    obtain ⟨p0, p1, p2, p3⟩ := hK.blk.c4
    have hown := Sl.mk hK.own
    have hlast := hK.last
    have HGood := Sl.mk hgood
    have HHas := Sl.mk hhas
    clear hgood hhas hnA hnB
    by_cases hend : i < n0 ∧ i < 20
    · obtain ⟨hin', hi20'⟩ := hend
      have e1 : decide ((i : Int) < n0) = true := by simp; omega
      have e2 : decide ((i : Int) < 20) = true := by simp; omega
      obtain ⟨x, hx⟩ : ∃ x, sl[i]? = some x := ⟨_, List.getElem?_eq_getElem (by rw [HSL.out]; exact hin')⟩
      obtain ⟨ad, u, rfl, hbl, hu, hcx⟩ := hR.at_ hin'
      obtain rfl : u = .int .i64 x := by rw [List.getElem?_map, hx] at hu; simpa using hu.symm
      have hcr : wr.cell? (ad.add i) = some (.int .i64 x) := (hK.below.cell (by rw [block_of_add]; exact hbl)).trans hcx
      clear hx hu hcx
      obtain ⟨k, hk, hk7⟩ : ∃ k : Nat, wrap64 ((IntKind.u64.wrap x).tmod 8) = (k : Int) ∧ k ≤ 7 := k_of x
      obtain ⟨g, cc, hv, _, hglt, hcell⟩ := ownCells hown.out (by omega)
      injection hv with hA _ hcc
      subst hA hcc
      by_cases hk3 : k < 3
      · have e3 : decide ((k : Int) < 3) = true := by simp; omega
        go_wp2_with (refine ld_pk hK.blk rfl (.tmp 3) rfl rfl rfl ?_)
        refine (back_any sA sB a _ l.length c l _ (by decide) (by decide) (by omega) (Reads.of_own hown.out)).mono ?_
        rintro e w3 ⟨hB3, hp⟩
        have hK3 := hK.be hB3
        rcases hp with ⟨hE, rfl⟩ | ⟨hE, A4, c4, rfl, hown4⟩
        · have h0 : idxR a l = 0 := by
            unfold backF at hE
            rw [hK.ok] at hE
            simp at hE
            exact hE
          have hE7 : backF sA sB a l = 7 := by unfold backF; rw [hK.ok, h0]; simp
          rw [hE7]
          have hc0 : w3.cell? ⟨g, 0, none⟩ = some (.int .i64 a) := by
            obtain ⟨r0, hr0, hra⟩ := idx_at a l (has_idx a l HHas.out)
            rw [h0] at hr0
            have h1 := revC_at l 0 r0 hr0 0 _ (rvC_0 r0)
            rw [hra] at h1
            exact (hB3.cell (p := ⟨g, 0, none⟩) hglt).trans (hcell 0 _ h1)
          clear h0 hE hE7 hcell
          go_wp2_with (refine st_pkn rfl (.tmp 8) (.tmp 47) rfl ⟨#[]⟩ ⟨#[]⟩ 0 none 0 0 rfl rfl ?_)
          intro w4 _ hB4 _
          have hK4 := hK3.be hB4
          have hc4 := cell_later hB4 hc0
          obtain ⟨q0, q1, q2, q3⟩ := hK4.blk.c4
          clear hK hK3 hc0 p0 p1 p2 p3 hcr hown hB3 hB4
          go_wp2_with fail
          exact ⟨⟨i + 1, l, a, _, c, by omega, by omega, by go_num, hK4.step⟩, by simp [intOf]; omega⟩
        · have hne0 : idxR a l ≠ 0 := by
            intro h0
            unfold backF at hE
            rw [hK.ok, h0] at hE
            simp at hE
          have hcp : checkF sA sB (prevNo a l) l = 0 := by
            refine check_of (by decide +kernel) (by decide +kernel) hl1 hl3 HGood.out ?_
            have h1 := has_idx a l HHas.out
            have hr : l[idxR a l - 1]? = some l[idxR a l - 1] := List.getElem?_eq_getElem (by omega)
            unfold prevNo hasF
            rw [hr]
            exact List.any_eq_true.2 ⟨l[idxR a l - 1], List.mem_of_getElem? hr, by simp⟩
          have HCP := Sl.mk hcp
          obtain ⟨a', ha'⟩ : ∃ a', prevNo a l = a' := ⟨_, rfl⟩
          rw [ha'] at HCP ⊢
          have hlo := hK.blk.lt
          clear hne0 hcp hE ha' hcell
          go_wp2_with (refine st_pkn rfl (.tmp 8) (.tmp 47) rfl sA sB a' A4 l.length c4 rfl rfl ?_)
          intro w4 hT4 hB4 _
          have hK4 := hK3.be hB4
          have hown5 := own_below hown4 hB4
          obtain ⟨q0, q1, q2, q3⟩ := hK4.blk.c4
          have hcE := hB3.size
          clear hK hK3 p0 p1 p2 p3 hcr hown hown4 hB3 hB4
          go_wp2_with (first | refine ld_pk hT4 rfl (.tmp 8) rfl rfl rfl ?_ | refine st_pk hK4.blk rfl (.tmp 3) (.tmp 62) rfl sA sB a' A4 l.length c4 rfl rfl rfl ?_)
          intro w5 hP5 hG5 _
          have hne5 : (Value.slice A4 l.length c4).ownBlock ≠ some w1.heap.size := fun e => by have := ownGe hown5 e; omega
          have hK5 : KP w w5 w1.heap.size (i + 1) l a' A4 c4 := ⟨hP5, own_mono (hown5.kept hG5 (.inr hne5)) (by have := hK4.pgE; omega), hne5, HCP.out, by have := hK4.last; omega, below_only hK4.below hG5 hK4.below.size hK4.pgE, hK4.pgE⟩
          go_wp2_with fail
          exact ⟨⟨i + 1, l, a', A4, c4, by omega, by omega, by go_num, hK5⟩, by simp [intOf]; omega⟩
      · have e3 : decide ((k : Int) < 3) = false := by simp; omega
        go_wp2_with (refine ld_pk hK.blk rfl (.tmp 3) rfl rfl rfl ?_)
        refine (next_any sA sB a _ l.length c l _ (by omega) (Reads.of_own hown.out) HGood.out).mono ?_
        rintro e w3 ⟨rfl, hB3⟩
        have hK3 := hK.be hB3
        have hlz := lastF_le l HGood.out
        clear hK hcell p0 p1 p2 p3 hown hcr
        go_wp2_with (refine ld_pk hK3.blk rfl (.tmp 3) rfl rfl rfl ?_)
        obtain ⟨N, hN⟩ : ∃ N, lastF l + 1 + (k : Int) - 3 = N := ⟨_, rfl⟩
        rw [hN]
        have hr : rightB (rvN N k) (lastF l) = true := by unfold rightB rvN; simp; omega
        have hr0 : rightB (rvN N k) 0 = true := by unfold rightB rvN; simp; omega
        have hok := add_ok (r := rvN N k) hl1 hl3 HGood.out HHas.out hr
        have hE0 : addE sA sB a l (rvN N k) = 0 := by
          have h1 : checkF sA sB N [rvN N k] = 0 := check_of (by decide +kernel) (by decide +kernel) (by simp) (by simp) (by simp [goodF, hr0]) (by simp [hasF, rvN])
          unfold addE
          rw [if_neg (by rw [hK3.ok]; simp), if_neg (idx_none fun r hr2 => by have := last_top l 0 HGood.out r hr2; show r.no ≠ N; omega), if_neg (by rw [show (rvN N k).no = N from rfl, h1]; simp; omega)]
        refine (add_any sA sB a _ l.length c l (rvN N k) _ (by decide) (by decide) (by omega) (Reads.of_own hK3.own)).mono ?_
        rintro e w4 ⟨hB4, hp⟩
        rcases hp with ⟨h, _⟩ | ⟨_, A1, d1, A2, d2, rfl, hrows⟩
        · exact absurd hE0 h
        obtain ⟨L1, hL1⟩ : ∃ L1, addL true a l (rvN N k) = L1 := ⟨_, rfl⟩
        obtain ⟨L2, hL2⟩ : ∃ L2, addL false a l (rvN N k) = L2 := ⟨_, rfl⟩
        rw [hL1, hL2] at hrows ⊢
        rw [hL2] at hok
        have hK4 := hK3.be hB4
        have hlo := hK3.blk.lt
        have hL3 := hok.len
        have hfi := has_idx a L2 hok.was
        have hNle : N ≤ 1 + 5 * ((i + 1 : Nat) : Int) := by omega
        have hnew : checkF sA sB N L2 = 0 := check_of (by decide +kernel) (by decide +kernel) hok.pos hok.len hok.good hok.has
        have HNew := Sl.mk hnew
        have HLast := Sl.mk hok.last
        clear hL1 hL2 hK3 hr hr0 hE0 hN hnew hok hk hlz hlast
        go_wp2_with (refine st_pkn rfl (.tmp 11) (.tmp 74) rfl sA sB N A2 L2.length d2 rfl rfl ?_)
        intro w5 hT5 hB5 _
        have hK5 := hK4.be hB5
        have hrows5 := hrows.below hB5
        have hsz : w3.heap.size ≤ w5.heap.size := Nat.le_trans hB4.size hB5.size
        clear hrows hK4 hB4 hB5
        obtain ⟨q0, q1, q2, q3⟩ := hT5.c4
        have eL : decide ((3 : Int) < L2.length) = false := by simp; omega
        go_wp2_with (refine ld_pk hT5 rfl (.tmp 11) rfl rfl rfl ?_)
        trace_state
        refine (find_any sA sB N a A2 L2.length d2 L2 _ (by omega) (Reads.of_own hrows5.own2)).mono ?_
        rintro e w6 ⟨rfl, hB6⟩
        rw [if_pos hfi]
        obtain ⟨rf, hrf⟩ : ∃ rf, (L2[idxR a L2]?).getD rv0 = rf := ⟨_, rfl⟩
        rw [hrf]
        have hK6 := hK5.be hB6
        have hT6 := hT5.be hB6
        have hrows6 := hrows5.below hB6
        clear hfi hrf hK5 hT5 hrows5 hB6 q0 q1 q2 q3
        go_wp2_with (refine st_new (by rfl) rfl (.tmp 14) (.tmp 95) rfl rf rfl rfl ?_)
        intro w7 _ hB7 _
        have hK7 := hK6.be hB7
        have hT7 := hT6.be hB7
        have hrows7 := hrows6.below hB7
        clear hK6 hT6 hrows6 hB7
        go_wp2_with (first | refine ld_pk hT7 rfl (.tmp 11) rfl rfl rfl ?_ | refine st_pk hK7.blk rfl (.tmp 3) (.tmp 99) rfl sA sB N A2 L2.length d2 rfl rfl rfl ?_)
        intro w8 hP8 hG8 _
        have hne8 : (Value.slice A2 L2.length d2).ownBlock ≠ some w1.heap.size := fun e => by have := ownGe hrows7.own2 e; omega
        have hK8 : KP w w8 w1.heap.size (i + 1) L2 N A2 d2 := ⟨hP8, own_mono (hrows7.own2.kept hG8 (.inr hne8)) (by have := hK7.pgE; omega), hne8, HNew.out, by rw [HLast.out]; exact hNle, below_only hK7.below hG8 hK7.below.size hK7.pgE, hK7.pgE⟩
        go_wp2_with fail
        exact ⟨⟨i + 1, L2, N, A2, d2, by omega, by omega, by go_num, hK8⟩, by simp [intOf]; omega⟩
    · by_cases hin' : i < n0
      · obtain rfl : i = 20 := by omega
        have e1 : decide (((20 : Nat) : Int) < n0) = true := by simp; omega
        clear hend
        go_wp2_with fail
        refine (known_any _).mono ?_
        rintro e w3 ⟨rfl, hB3⟩
        have hK3 := hK.be hB3
        have hR3 := Reads.of_own hK3.own
        clear p0 p1 p2 p3
        obtain ⟨p0, p1, p2, p3⟩ := hK3.blk.c4
        go_wp2_with fail
        refine (check_any sA sB a A l.length c l _ (by decide) (by decide) (by omega) hR3).mono ?_
        rintro e w4 ⟨rfl, hB4⟩
        rw [hK.ok]
        go_wp2_with fail
        go_ret
        exact ⟨rfl, below_tr hK3.below hB4⟩
      · obtain rfl : i = n0 := by omega
        clear hend
        go_wp2_with fail
        refine (known_any _).mono ?_
        rintro e w3 ⟨rfl, hB3⟩
        have hK3 := hK.be hB3
        have hR3 := Reads.of_own hK3.own
        clear p0 p1 p2 p3
        obtain ⟨p0, p1, p2, p3⟩ := hK3.blk.c4
        go_wp2_with fail
        refine (check_any sA sB a A l.length c l _ (by decide) (by decide) (by omega) hR3).mono ?_
        rintro e w4 ⟨rfl, hB4⟩
        rw [hK.ok]
        go_wp2_with fail
        go_ret
        exact ⟨rfl, below_tr hK3.below hB4⟩

end Go.Proofs.Ytkmdhmnjohlnaaa
