/-
  The contracts of slices.EqualFunc at entries, archive.Same, creelref12.Same.
-/
import Derived.Test.YticcphppnmoogaaDoorArcM
namespace Go.Proofs.YticcphppnmoogaaDoor
open Go.RowKit
attribute [local go_sem ↓] Go.wp_at_zero Go.wp_at_succ

/-- The same entries? -/
def eqL : List Ex → List Ex → Bool
  | [], [] => true
  | x :: l, y :: m => sameE x.e y.e && eqL l m
  | _, _ => false
theorem eqL_iff : ∀ l m : List Ex, eqL l m = true ↔ l.map (·.e) = m.map (·.e)
  | [], [] => by simp [eqL]
  | [], _ :: _ => by simp [eqL]
  | _ :: _, [] => by simp [eqL]
  | x :: l, y :: m => by
    have h1 := sameE_iff x.e y.e
    have h2 := eqL_iff l m
    simp only [eqL, Bool.and_eq_true, List.map_cons, List.cons.injEq, h1, h2]
theorem eqL_len {l m : List Ex} (h : l.length ≠ m.length) : eqL l m = false := by
  cases he : eqL l m
  · rfl
  · have := (eqL_iff l m).1 he
    have h2 := congrArg List.length this
    simp at h2
    exact absurd h2 h

set_option maxRecDepth 100000 in
set_option maxHeartbeats 4000000 in
theorem eqfunc_any (A1 A2 : Option Addr) (n c m d : Nat) (l1 l2 : List Ex) (w : World) (hn : n ≤ 1000000) (hm : m ≤ 1000000) (hE1 : Exs w A1 n l1) (hE2 : Exs w A2 m l2) :
    Calls Tryd.prog 29 #[.slice A1 n c, .slice A2 m d, .func (.func 30) #[] #[]] w fun e w' => e = .returned (.bool (eqL l1 l2)) ∧ Below w.heap.size w w' := by
  have HL1 := Sl.mk hE1.n_
  have HL2 := Sl.mk hE2.n_
  have HE1 := Sl.mk hE1
  have HE2 := Sl.mk hE2
  clear hE1 hE2
  by_cases hnm : n = m
  · subst hnm
    go_enter Tryd.func29, Tryd.ntmps29
    go_wp2_with fail
    go_loopw [7, 8, 9, 17] (fun _ _ _ v17 wr => ∃ i : Nat, i ≤ n ∧ v17 = .int .i64 i ∧ Sl (eqL l1 l2 = eqL (l1.drop i) (l2.drop i)) ∧ Below w.heap.size w wr) (fun _ _ _ v17 _ => n - (intOf v17).toNat)
    case atStart => exact ⟨0, Nat.zero_le _, rfl, ⟨by simp⟩, Below.refl _ _⟩
    case round =>
      obtain ⟨i, hi, rfl, HI, hB⟩ := hrel
      by_cases hil : i < n
      · obtain ⟨x, hx⟩ : ∃ x, l1[i]? = some x := ⟨_, List.getElem?_eq_getElem (by rw [HL1.out]; exact hil)⟩
        obtain ⟨y, hy⟩ : ∃ y, l2[i]? = some y := ⟨_, List.getElem?_eq_getElem (by rw [HL2.out]; exact hil)⟩
        obtain ⟨a1, rfl, hb1, hld1, hok1⟩ := (HE1.out.be hB).at_ hx
        obtain ⟨a2, rfl, hb2, hld2, hok2⟩ := (HE2.out.be hB).at_ hy
        have hd1 : wr.cell? (a1.add (i * 4)) = some (.slice x.pa x.e.path.length x.pc) := by have := hld1 0 _ rfl; simpa [Addr.add] using this
        have hd2 : wr.cell? (a2.add (i * 4)) = some (.slice y.pa y.e.path.length y.pc) := by have := hld2 0 _ rfl; simpa [Addr.add] using this
        have hba : Below wr.heap.size wr (wr.alloc (.cells #[.slice x.pa x.e.path.length x.pc, .int .i64 x.e.kind, .int .i64 x.e.mode, .slice x.da x.e.data.length x.dc] 34)) := (Below.refl _ _).alloc (Nat.le_refl _) _
        have hld3 : ∀ j v, (exC y)[j]? = some v → (wr.alloc (.cells #[.slice x.pa x.e.path.length x.pc, .int .i64 x.e.kind, .int .i64 x.e.mode, .slice x.da x.e.data.length x.dc] 34)).cell? ((a2.add (i * 4)).add j) = some v := fun j v hv => (hba.cell (p := (a2.add (i * 4)).add j) (by rw [block_of_add, block_of_add]; exact hb2)).trans (hld2 j v hv)
        have hd3 := (hba.cell (p := a2.add (i * 4)) (by rw [block_of_add]; exact hb2)).trans hd2
        have hbb := below_al hba (.cells #[.slice y.pa y.e.path.length y.pc, .int .i64 y.e.kind, .int .i64 y.e.mode, .slice y.da y.e.data.length y.dc] 34)
        have HS := Sl.mk (samee_any x y _ (hok1.be hbb) (hok2.be hbb))
        have HD : Sl (eqL (l1.drop i) (l2.drop i) = (sameE x.e y.e && eqL (l1.drop (i + 1)) (l2.drop (i + 1)))) := ⟨by rw [drop_cons1 hx, drop_cons1 hy]; rfl⟩
        have hEb := below_tr hB hbb
        clear hx hy hok1 hok2 hb1 hb2 hba hbb
        go_wp2_with (first | refine ld_exl hld1 rfl (.tmp 20) rfl rfl ?_ | refine ld_exl hld3 rfl (.tmp 24) rfl rfl ?_)
        refine HS.out.mono ?_
        rintro e w2 ⟨rfl, hB2⟩
        have hE2' := below_tr hEb hB2
        clear hB hld1 hld2 hld3 hd1 hd2 hd3 hB2 hEb
        cases eS : sameE x.e y.e
        · have HF := Sl.mk (show eqL l1 l2 = false by rw [HI.out, HD.out, eS]; rfl)
          go_wp2_with fail
          go_ret
          exact ⟨by rw [HF.out]; rfl, hE2'⟩
        · have HF := Sl.mk (show eqL l1 l2 = eqL (l1.drop (i + 1)) (l2.drop (i + 1)) by rw [HI.out, HD.out, eS]; rfl)
          go_wp2_with fail
          go_roundw
          case rel => exact ⟨i + 1, by omega, by go_num, HF, hE2'⟩
          case measure => simp [intOf]; omega
      · obtain rfl : i = n := by omega
        have HF := Sl.mk (show eqL l1 l2 = true by rw [HI.out, List.drop_of_length_le (by rw [HL1.out]; omega), List.drop_of_length_le (by rw [HL2.out]; omega)]; rfl)
        go_wp2_with fail
        go_ret
        exact ⟨by rw [HF.out]; rfl, hB⟩
  · have HF := Sl.mk (show eqL l1 l2 = false from eqL_len (by rw [HL1.out, HL2.out]; exact hnm))
    have h1 : ((n : Int) != (m : Int)) = true := by simp; omega
    have h2 : ((n : Int) == (m : Int)) = false := by simp; omega
    clear hnm
    go_enter Tryd.func29, Tryd.ntmps29
    go_wp2_with fail
    go_ret
    exact ⟨by rw [HF.out]; rfl, Below.refl _ _⟩

theorem asame_any (A1 A2 : Option Addr) (n c m d : Nat) (l1 l2 : List Ex) (w : World) (hn : n ≤ 1000000) (hm : m ≤ 1000000) (hE1 : Exs w A1 n l1) (hE2 : Exs w A2 m l2) :
    Calls Tryd.prog 17 #[.slice A1 n c, .slice A2 m d] w fun e w' => e = .returned (.bool (eqL l1 l2)) ∧ Below w.heap.size w w' := by
  have H := Sl.mk (eqfunc_any A1 A2 n c m d l1 l2 w hn hm hE1 hE2)
  clear hE1 hE2
  go_enter Tryd.func17, Tryd.ntmps17
  go_wp2_with fail
  refine H.out.mono ?_
  rintro e w' ⟨rfl, hB⟩
  go_wp2_with fail
  go_ret
  exact ⟨rfl, hB⟩

set_option maxRecDepth 100000 in
set_option maxHeartbeats 8000000 in
theorem rsames_any (A1 A2 : Option Addr) (n c m d : Nat) (l1 l2 : List Ex) (w : World) (hn : n ≤ 1000000) (hm : m ≤ 1000000) (hE1 : Exs w A1 n l1) (hE2 : Exs w A2 m l2) :
    Calls Tryd.prog 12 #[.slice A1 n c, .slice A2 m d] w fun e w' => e = .returned (.bool (eqL l1 l2)) ∧ ∃ k, w' = w.drewN k := by
  have HL1 := Sl.mk hE1.n_
  have HL2 := Sl.mk hE2.n_
  have HE1 := Sl.mk hE1
  have HE2 := Sl.mk hE2
  clear hE1 hE2
  by_cases hnm : n = m
  · subst hnm
    go_enter Tryd.func12, Tryd.ntmps12
    go_wp2_with fail
    go_loopw [5] (fun v5 wr => ∃ i q : Nat, i ≤ n ∧ v5 = .int .i64 i ∧ Sl (eqL l1 l2 = eqL (l1.drop i) (l2.drop i)) ∧ wr = w.drewN q) (fun v5 _ => n - (intOf v5).toNat)
    case atStart => exact ⟨0, 0, Nat.zero_le _, rfl, ⟨by simp⟩, rfl⟩
    case round =>
      obtain ⟨i, q, hi, rfl, HI, hq⟩ := hrel
      by_cases hil : i < n
      · obtain ⟨x, hx⟩ : ∃ x, l1[i]? = some x := ⟨_, List.getElem?_eq_getElem (by rw [HL1.out]; exact hil)⟩
        obtain ⟨y, hy⟩ : ∃ y, l2[i]? = some y := ⟨_, List.getElem?_eq_getElem (by rw [HL2.out]; exact hil)⟩
        have hr1 : Exs wr A1 n l1 := by rw [hq]; exact HE1.out.drewN q
        have hr2 : Exs wr A2 n l2 := by rw [hq]; exact HE2.out.drewN q
        obtain ⟨b1, o1, rfl, hb1, hld1, hok1⟩ := hr1.lit hx
        obtain ⟨b2, o2, rfl, hb2, hld2, hok2⟩ := hr2.lit hy
        have c0 : wr.cell? ⟨b1, o1 + i * 4, none⟩ = some (.slice x.pa x.e.path.length x.pc) := hld1 0 _ rfl
        have c1 : wr.cell? ⟨b1, o1 + i * 4 + 1, none⟩ = some (.int .i64 x.e.kind) := hld1 1 _ rfl
        have c2 : wr.cell? ⟨b1, o1 + i * 4 + 2, none⟩ = some (.int .i64 x.e.mode) := hld1 2 _ rfl
        have c3 : wr.cell? ⟨b1, o1 + i * 4 + 3, none⟩ = some (.slice x.da x.e.data.length x.dc) := hld1 3 _ rfl
        have d0 : wr.cell? ⟨b2, o2 + i * 4, none⟩ = some (.slice y.pa y.e.path.length y.pc) := hld2 0 _ rfl
        have d1 : wr.cell? ⟨b2, o2 + i * 4 + 1, none⟩ = some (.int .i64 y.e.kind) := hld2 1 _ rfl
        have d2 : wr.cell? ⟨b2, o2 + i * 4 + 2, none⟩ = some (.int .i64 y.e.mode) := hld2 2 _ rfl
        have d3 : wr.cell? ⟨b2, o2 + i * 4 + 3, none⟩ = some (.slice y.da y.e.data.length y.dc) := hld2 3 _ rfl
        have hp1 := hok1.plen
        have hp2 := hok2.plen
        have hq1 := hok1.dlen
        have hq2 := hok2.dlen
        have HSP := Sl.mk (fun k => rsame_any x.pa y.pa x.e.path.length x.pc y.e.path.length y.pc x.e.path y.e.path (wr.drewN k) (by omega) (by omega) (hok1.path.drewN k) (hok2.path.drewN k))
        have HSD := Sl.mk (fun k => bsame_any x.da y.da x.e.data.length x.dc y.e.data.length y.dc x.e.data y.e.data (wr.drewN k) (by omega) (by omega) (hok1.data.drewN k) (hok2.data.drewN k))
        have HD : Sl (eqL (l1.drop i) (l2.drop i) = (sameE x.e y.e && eqL (l1.drop (i + 1)) (l2.drop (i + 1)))) := ⟨by rw [drop_cons1 hx, drop_cons1 hy]; rfl⟩
        have HQ := Sl.mk hq
        have hsm : sameE x.e y.e = (eqP x.e.path y.e.path && (x.e.kind == y.e.kind) && (x.e.mode == y.e.mode) && eqB x.e.data y.e.data) := rfl
        have HSM := Sl.mk hsm
        clear hx hy hok1 hok2 hr1 hr2 hld1 hld2 hq hsm
        cases e1 : eqP x.e.path y.e.path
        · have HF := Sl.mk (show eqL l1 l2 = false by rw [HI.out, HD.out, HSM.out, e1]; rfl)
          rw [e1] at HSP
          go_wp2_with fail
          go_quiet ((first | (go_at_call 26; exact Calls.quiet_of (HSP.out _)) | (go_at_call 20; exact Calls.quiet_of (HSD.out _))))
          go_wp2_with fail
          go_ret
          exact ⟨by rw [HF.out]; rfl, q + nq, by rw [HQ.out, World.drewN_drewN]⟩
        rw [e1] at HSP
        cases e2 : (x.e.kind == y.e.kind)
        · have HF := Sl.mk (show eqL l1 l2 = false by rw [HI.out, HD.out, HSM.out, e1, e2]; rfl)
          have e2' : (x.e.kind != y.e.kind) = true := by simp [bne, e2]
          go_wp2_with fail
          go_quiet ((first | (go_at_call 26; exact Calls.quiet_of (HSP.out _)) | (go_at_call 20; exact Calls.quiet_of (HSD.out _))))
          go_wp2_with fail
          go_ret
          exact ⟨by rw [HF.out]; rfl, q + nq, by rw [HQ.out, World.drewN_drewN]⟩
        have e2' : (x.e.kind != y.e.kind) = false := by simp [bne, e2]
        cases e3 : (x.e.mode == y.e.mode)
        · have HF := Sl.mk (show eqL l1 l2 = false by rw [HI.out, HD.out, HSM.out, e1, e2, e3]; rfl)
          have e3' : (x.e.mode != y.e.mode) = true := by simp [bne, e3]
          go_wp2_with fail
          go_quiet ((first | (go_at_call 26; exact Calls.quiet_of (HSP.out _)) | (go_at_call 20; exact Calls.quiet_of (HSD.out _))))
          go_wp2_with fail
          go_ret
          exact ⟨by rw [HF.out]; rfl, q + nq, by rw [HQ.out, World.drewN_drewN]⟩
        have e3' : (x.e.mode != y.e.mode) = false := by simp [bne, e3]
        cases e4 : eqB x.e.data y.e.data
        · have HF := Sl.mk (show eqL l1 l2 = false by rw [HI.out, HD.out, HSM.out, e1, e2, e3, e4]; rfl)
          rw [e4] at HSD
          go_wp2_with fail
          go_quiet ((first | (go_at_call 26; exact Calls.quiet_of (HSP.out _)) | (go_at_call 20; exact Calls.quiet_of (HSD.out _))))
          go_wp2_with fail
          go_ret
          exact ⟨by rw [HF.out]; rfl, q + nq, by rw [HQ.out, World.drewN_drewN]⟩
        · have HF := Sl.mk (show eqL l1 l2 = eqL (l1.drop (i + 1)) (l2.drop (i + 1)) by rw [HI.out, HD.out, HSM.out, e1, e2, e3, e4]; rfl)
          rw [e4] at HSD
          go_wp2_with fail
          go_quiet ((first | (go_at_call 26; exact Calls.quiet_of (HSP.out _)) | (go_at_call 20; exact Calls.quiet_of (HSD.out _))))
          go_wp2_with fail
          go_roundw
          case rel => exact ⟨i + 1, q + nq, by omega, by go_num, HF, by rw [HQ.out, World.drewN_drewN]⟩
          case measure => simp [intOf]; omega
      · obtain rfl : i = n := by omega
        have HF := Sl.mk (show eqL l1 l2 = true by rw [HI.out, List.drop_of_length_le (by rw [HL1.out]; omega), List.drop_of_length_le (by rw [HL2.out]; omega)]; rfl)
        have HQ := Sl.mk hq
        clear hq
        go_wp2_with fail
        go_ret
        exact ⟨by rw [HF.out]; rfl, q, by rw [HQ.out]⟩
  · have HF := Sl.mk (show eqL l1 l2 = false from eqL_len (by rw [HL1.out, HL2.out]; exact hnm))
    have h1 : ((n : Int) != (m : Int)) = true := by simp; omega
    have h2 : ((n : Int) == (m : Int)) = false := by simp; omega
    clear hnm
    go_enter Tryd.func12, Tryd.ntmps12
    go_wp2_with fail
    go_ret
    exact ⟨by rw [HF.out]; rfl, 0, rfl⟩

end Go.Proofs.YticcphppnmoogaaDoor
