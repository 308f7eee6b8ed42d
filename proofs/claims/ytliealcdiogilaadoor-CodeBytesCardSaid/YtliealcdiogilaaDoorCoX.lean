/-
  The contract of the law's known.
-/
import Derived.Test.YtliealcdiogilaaDoorCoW
namespace Go.Proofs.YtliealcdiogilaaDoor
open Go.RowKit
attribute [local go_sem ↓] Go.wp_at_zero Go.wp_at_succ

theorem is_blk {w : World} {g : Nat} {t : TypeId} {l : List Ci} {n : Nat} (h : Blk w g t (isC l).toArray) (hn : n = l.length) (hl : ∀ x ∈ l, x.s.length ≤ 1000000) : Is w (some ⟨g, 0, none⟩) n l := by
  subst hn
  refine ⟨⟨isC_len l, fun _ => ⟨_, rfl, h.lt, fun j u hu => ?_⟩⟩, hl⟩
  rw [show (⟨g, 0, none⟩ : Addr).add j = ⟨g, j, none⟩ by unfold Addr.add; split <;> simp_all, h.cell j, List.getElem?_toArray]
  exact hu
def kA : List Ci := [⟨1, 1, []⟩, ⟨11, 0, []⟩]
def kB : List Ci := [⟨1, 258, []⟩]
theorem kA_ver : verR kA = (0, 0, 17) := by decide +kernel
theorem kB_chk : (chkF kB).2 = 0 := by decide +kernel
theorem kB_enc : encB kB = [72, 79, 79, 75, 1, 1, 1, 2] := by decide +kernel
theorem reads_lit8 (w0 : World) (l : List Nat) {B : Nat} (hB : w0.heap.size < B) {n : Nat} (hn : n = l.length) : Reads (w0.alloc (.cells (u8s l).toArray 5)) B 1 (some ⟨w0.heap.size, 0, none⟩) n (u8s l) :=
  ⟨by rw [u8s_len]; omega, fun _ => ⟨_, rfl, hB, fun j u hj => by
    rw [show (⟨w0.heap.size, 0, none⟩ : Addr).add j = ⟨w0.heap.size, j, none⟩ by unfold Addr.add; split <;> simp_all, (Blk.new w0 5 (u8s l).toArray).cell j, List.getElem?_toArray]
    exact hj⟩⟩
set_option maxRecDepth 100000 in
set_option maxHeartbeats 4000000 in
theorem known_any (w : World) (hP : Spw w w.heap.size) :
    Calls Tryd.prog 9 #[] w (RPost w true) := by
  have hB1 : Blk (w.alloc (.cells #[.int .i64 1, .int .i64 1, .string ⟨#[]⟩, .int .i64 11, .int .i64 0, .string ⟨#[]⟩] 45)) w.heap.size 45 (isC kA).toArray := Blk.new w _ _
  have hE1 := below_al (Below.refl w.heap.size w) (.cells #[.int .i64 1, .int .i64 1, .string ⟨#[]⟩, .int .i64 11, .int .i64 0, .string ⟨#[]⟩] 45)
  have HV := Sl.mk (verifyC_any (some ⟨w.heap.size, 0, none⟩) 2 2 kA _ (by omega) (is_blk (n := 2) hB1 rfl (by decide)) (hP.all hE1))
  unfold VfPost at HV
  rw [kA_ver] at HV
  have HE1 := Sl.mk hE1
  have HP := Sl.mk hP
  clear hB1 hE1 hP
  go_enter Tryd.func9, Tryd.ntmps9
  go_wp2_with fail
  refine HV.out.mono ?_
  rintro e w2 ⟨rfl, hb2⟩
  have HE2 := Sl.mk (below_tr HE1.out hb2)
  have hB3 : Blk (w2.alloc (.cells #[.int .i64 1, .int .i64 258, .string ⟨#[]⟩] 45)) w2.heap.size 45 (isC kB).toArray := Blk.new w2 _ _
  have hE3 := below_al HE2.out (.cells #[.int .i64 1, .int .i64 258, .string ⟨#[]⟩] 45)
  have HN := Sl.mk (encode_any (some ⟨w2.heap.size, 0, none⟩) 1 1 kB _ (by omega) (is_blk (n := 1) hB3 rfl (by decide)) (HP.out.all hE3))
  unfold EnPost at HN
  have HE3 := Sl.mk hE3
  clear hb2 hB3 hE3 HV
  go_wp2_with fail
  refine HN.out.mono ?_
  rintro e w4 ⟨hb4, hx⟩
  rw [if_neg (by rw [kB_chk]; simp), kB_enc] at hx
  obtain ⟨A4, c4, rfl, ho4⟩ := hx
  have HE4 := Sl.mk (below_tr HE3.out hb4)
  have hE5 := below_al HE4.out (.cells (u8s [72, 79, 79, 75, 1, 1, 1, 2]).toArray 5)
  have HS := Sl.mk (bsame_any A4 (some ⟨w4.heap.size, 0, none⟩) 8 c4 8 8 [72, 79, 79, 75, 1, 1, 1, 2] [72, 79, 79, 75, 1, 1, 1, 2] (w4.alloc (.cells (u8s [72, 79, 79, 75, 1, 1, 1, 2]).toArray 5)) (by omega) (by omega) (Reads.of_own (ho4.alloc _)) (reads_lit8 w4 _ (by simp) rfl))
  rw [show eqB [72, 79, 79, 75, 1, 1, 1, 2] [72, 79, 79, 75, 1, 1, 1, 2] = true from decide_eq_true rfl] at HS
  have HE5 := Sl.mk hE5
  clear hb4 ho4 HN hE5
  go_wp2_with fail
  refine HS.out.mono ?_
  rintro e w6 ⟨rfl, q, hw6⟩
  have HE6 := Sl.mk (show Below w.heap.size w w6 by rw [hw6]; exact below_drN HE5.out q)
  clear hw6
  go_wp2_with fail
  go_ret
  exact ⟨rfl, HE6.out⟩
end Go.Proofs.YtliealcdiogilaaDoor
