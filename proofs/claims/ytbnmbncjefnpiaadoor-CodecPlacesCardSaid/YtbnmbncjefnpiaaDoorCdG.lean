/-
  The contracts of codec.Encode, codec.Check.
-/
import Derived.Test.YtbnmbncjefnpiaaDoorCdF
namespace Go.Proofs.YtbnmbncjefnpiaaDoor
open Go.RowKit
attribute [local go_sem ↓] Go.wp_at_zero Go.wp_at_succ

def encF (v : Vc) : List Nat := if chkV v 1 = 0 then encV v else []
theorem chk_all {v : Vc} {d : Nat} (h : chkV v d = 0) : allV v = true := by
  rcases chk_or v d with h1 | h1 | h1
  · exact h1.2
  · rw [h] at h1; omega
  · rw [h] at h1; omega
def EncPost (w : World) (v : Vc) (e : Ending) (w' : World) : Prop := ∃ (A : Option Addr) (n c : Nat), e = .returned (.tuple #[.slice A n c, .int .i64 (chkV v 1)]) ∧ (encF v).length = n ∧ w'.ownsRow w.heap.size 5 1 (.slice A n c) n (u8s (encF v)) ∧ Below w.heap.size w w'
theorem wrZero : (Tryd.prog.info? 58).map (fun i => (i.zero, i.size, i.bytes)) = some (some (.agg #[.slice none 0 0, .bool false]), 2, 32) := by kernel_rfl

set_option maxRecDepth 100000 in
set_option maxHeartbeats 1000000 in
theorem encode_any (x : Vx) (w : World) (hx : VxIn w x) (hP : Pw w w.heap.size) (hle : (encF x.v).length ≤ 131072) :
    Calls Tryd.prog 8 #[.agg (vxC x).toArray] w (EncPost w x.v) := by
  have hwa := below_al (Below.refl w.heap.size w) (.cells (vxC x).toArray 26)
  have HK := Sl.mk (check_any x 1 (w.alloc (.cells (vxC x).toArray 26)) (by omega) (hx.be hwa))
  have hB := Blk.new w 26 (vxC x).toArray
  obtain ⟨E, hE⟩ : ∃ E, chkV x.v 1 = E := ⟨_, rfl⟩
  have HX := Sl.mk hx
  have HP := Sl.mk hP
  rw [hE] at HK
  by_cases h0 : E = 0
  · subst h0
    have hen : encF x.v = encV x.v := by unfold encF; rw [if_pos hE]
    have HAL := Sl.mk (chk_all hE)
    have HE := Sl.mk (show ∀ e w', (∃ (A : Option Addr) (n c : Nat), e = .returned (.tuple #[.slice A n c, .int .i64 0]) ∧ (encV x.v).length = n ∧ w'.ownsRow w.heap.size 5 1 (.slice A n c) n (u8s (encV x.v)) ∧ Below w.heap.size w w') → EncPost w x.v e w' from fun e w' ⟨A, n, c, h1, h2, h3, h4⟩ =>
      ⟨A, n, c, by rw [hE]; exact h1, by rw [hen]; exact h2, by rw [hen]; exact h3, h4⟩)
    rw [hen] at hle
    have HLE := Sl.mk hle
    clear hx hP hle hen
    have HV := Sl.mk (fun W base R h1 h2 h3 h4 => writer_any x W base R [] h1 h2 h3 h4 HAL.out (by simpa using HLE.out))
    obtain ⟨k, n, pb, b, cb, pl, l, cl⟩ := x
    rw [vxC_mk] at *
    refine Calls.mono (R := fun e w' => ∃ (A : Option Addr) (n c : Nat), e = .returned (.tuple #[.slice A n c, .int .i64 0]) ∧ (encV _).length = n ∧ w'.ownsRow w.heap.size 5 1 (.slice A n c) n (u8s (encV _)) ∧ Below w.heap.size w w') ?_ HE.out
    go_enter Tryd.func8, Tryd.ntmps8
    go_wp2_with fail
    refine HK.out.mono ?_
    rintro e w1 ⟨rfl, hB1⟩
    have hBx1 := (hB.be hB1).alloc (.cells #[.slice none 0 0, .bool false] 58)
    have c0 := hBx1.cell 0
    have c1 := hBx1.cell 1
    have c2 := hBx1.cell 2
    have c3 := hBx1.cell 3
    have hwb := below_al (Below.refl w1.heap.size w1) (.cells #[.slice none 0 0, .bool false] 58)
    have hs1 := Nat.le_trans hwa.size hB1.size
    have hb1 : Below w.heap.size w (w1.alloc (.cells #[.slice none 0 0, .bool false] 58)) := (below_tr hwa hB1).trans (hwb.mono hs1)
    have HV2 := Sl.mk (HV.out (w1.alloc (.cells #[.slice none 0 0, .bool false] 58)) w.heap.size w1.heap.size (VxOk.keep (fun p hp => hb1.cell hp) _ HX.out) (by simp; omega) ⟨hs1, none, 0, Blk.new _ _ _, World.ownsRow_nil _ _ _ _⟩ (HP.out.be hb1))
    clear hB hBx1 hwa hwb hB1 HK HV
    go_wp2_with fail
    refine HV2.out.mono ?_
    rintro e w2 ⟨rfl, hW2, hB2, hT2⟩
    obtain ⟨A, c, hR, hown⟩ := hW2.ex
    have hE2 := hb1.trans hB2
    have d0 := hR.cell 0
    have d1 := hR.cell 1
    have HO := Sl.mk hown
    rw [List.nil_append] at *
    obtain ⟨q, hq⟩ : ∃ q, (encV (Vx.v (.mk k n pb b cb pl l cl))).length = q := ⟨_, rfl⟩
    rw [hq] at d0
    have HQ := Sl.mk hq
    clear hb1 hB2 hT2 hR hown hW2 hq HV2
    go_wp2_with fail
    go_ret2
    exact ⟨A, q, c, rfl, HQ.out, by rw [← HQ.out]; exact HO.out, hE2⟩
  · have hen : encF x.v = [] := by unfold encF; rw [hE, if_neg h0]
    have HE := Sl.mk (show ∀ e w', (e = .returned (.tuple #[.slice none 0 0, .int .i64 E]) ∧ Below w.heap.size w w') → EncPost w x.v e w' from fun e w' ⟨h1, h4⟩ =>
      ⟨none, 0, 0, by rw [hE]; exact h1, by rw [hen]; rfl, by rw [hen]; exact World.ownsRow_nil _ _ _ _, h4⟩)
    have hne : (E != 0) = true := by simpa using h0
    clear hx hP hle hen hE
    obtain ⟨k, n, pb, b, cb, pl, l, cl⟩ := x
    rw [vxC_mk] at *
    refine Calls.mono (R := fun e w' => e = .returned (.tuple #[.slice none 0 0, .int .i64 E]) ∧ Below w.heap.size w w') ?_ HE.out
    go_enter Tryd.func8, Tryd.ntmps8
    go_wp2_with fail
    refine HK.out.mono ?_
    rintro e w1 ⟨rfl, hB1⟩
    have hE2 := below_tr hwa hB1
    clear hB hwa hB1 HK
    go_wp2_with fail
    go_ret2
    exact ⟨rfl, hE2⟩

set_option maxRecDepth 100000 in
set_option maxHeartbeats 1000000 in
theorem top_check (x : Vx) (w : World) (hx : VxIn w x) (hP : Pw w w.heap.size) (hle : (encF x.v).length ≤ 131072) :
    Calls Tryd.prog 13 #[.agg (vxC x).toArray] w fun e w' => e = .returned (.int .i64 (chkV x.v 1)) ∧ Below w.heap.size w w' := by
  have hwa := below_al (Below.refl w.heap.size w) (.cells (vxC x).toArray 26)
  have HK := Sl.mk (encode_any x (w.alloc (.cells (vxC x).toArray 26)) (hx.be hwa) ((hP.be hwa).mono hwa.size) hle)
  have hB := Blk.new w 26 (vxC x).toArray
  clear hx hP hle
  obtain ⟨E, hE⟩ : ∃ E, chkV x.v 1 = E := ⟨_, rfl⟩
  rw [hE]
  have HE := Sl.mk hE
  clear hE
  obtain ⟨k, n, pb, b, cb, pl, l, cl⟩ := x
  rw [vxC_mk] at *
  go_enter Tryd.func13, Tryd.ntmps13
  go_wp2_with fail
  refine HK.out.mono ?_
  rintro e w1 ⟨A, q, c, rfl, hq, ho, hB1⟩
  rw [HE.out]
  have hE2 := below_tr hwa hB1
  clear hB hwa hB1 HK ho hq
  go_wp2_with fail
  go_ret
  exact ⟨rfl, hE2⟩

end Go.Proofs.YtbnmbncjefnpiaaDoor
