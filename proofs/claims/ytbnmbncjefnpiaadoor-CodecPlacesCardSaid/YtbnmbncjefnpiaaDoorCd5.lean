/-
  The contract of creellaw03.known.
-/
import Derived.Test.YtbnmbncjefnpiaaDoorCd4
import Derived.Test.YtbnmbncjefnpiaaDoorCdX
import Derived.Lib.SlBytesConst
import Derived.Lib.SmallJoins
namespace Go.Proofs.YtbnmbncjefnpiaaDoor
open Go.RowKit
attribute [local go_sem ↓] Go.wp_at_zero Go.wp_at_succ

set_option maxRecDepth 100000 in
theorem of_nilK (w : World) :
    Calls Tryd.prog 18 #[.slice none 0 0] w fun e w' => e = .returned (.agg #[.int .i64 2, .int .i64 0, .slice none 0 0, .slice none 0 0]) ∧ Below w.heap.size w w' := by
  have hB0 := below_al (below_al (Below.refl w.heap.size w) (.cells #[.int .i64 0, .int .i64 0, .slice none 0 0, .slice none 0 0] 26)) (.cells #[.int .i64 2, .int .i64 0, .slice none 0 0, .slice none 0 0] 26)
  have hZ0 := (Blk.new w 26 #[.int .i64 0, .int .i64 0, .slice none 0 0, .slice none 0 0]).alloc (.cells #[.int .i64 2, .int .i64 0, .slice none 0 0, .slice none 0 0] 26)
  have hX0 : Blk ((w.alloc (.cells #[.int .i64 0, .int .i64 0, .slice none 0 0, .slice none 0 0] 26)).alloc (.cells #[.int .i64 2, .int .i64 0, .slice none 0 0, .slice none 0 0] 26)) (w.heap.size + 1) 26 #[.int .i64 2, .int .i64 0, .slice none 0 0, .slice none 0 0] := Blk.new' (by simp)
  have hws : (w.alloc (.cells #[.int .i64 0, .int .i64 0, .slice none 0 0, .slice none 0 0] 26)).heap.size = w.heap.size + 1 := by simp
  have HB0 := Sl.mk hB0
  clear hB0
  go_enter Tryd.func18, Tryd.ntmps18
  go_wp2_with fail
  go_loopw [9] (fun v9 wr => v9 = .int .i64 0 ∧ Blk wr (w.heap.size + 1) 26 #[.int .i64 2, .int .i64 0, .slice none 0 0, .slice none 0 0] ∧ Blk wr w.heap.size 26 #[.int .i64 0, .int .i64 0, .slice none 0 0, .slice none 0 0] ∧ Below w.heap.size w wr) (fun _ _ => 0)
  case atStart => exact ⟨rfl, hX0, hZ0, HB0.out⟩
  case round =>
    obtain ⟨rfl, hX, hZ, hB⟩ := hrel
    clear hX0 hZ0
    go_wp2_with (first | refine ld_vx0 hX rfl (.tmp 3) rfl rfl rfl ?_ | refine st_vx hZ rfl (.tmp 2) (.tmp 21) rfl 2 0 none 0 0 none 0 0 rfl rfl rfl ?_)
    intro w4 hZ4 hG4 _
    have hE4 := below_only hB hG4 hB.size (by omega)
    clear hG4
    go_wp2_with fail
    exact bodyPost_ret (v := .agg #[.int .i64 2, .int .i64 0, .slice none 0 0, .slice none 0 0]) (res_cell Tryd.results18 _ _ _ rfl hZ4 Tryd.underlying26 vxSize) rfl ⟨rfl, hE4⟩

def knV : Vc := .mk 2 0 [] [.mk 0 12 [] [], .mk 1 0 [97, 98] [], .mk 2 0 [] []]
def knB : List Nat := [40, 105, 49, 50, 59, 50, 58, 97, 98, 40, 41, 41]
theorem it12 : itN 12 = [49, 50] := by
  rw [itN_eq, if_neg (by decide), show (12 : Int).toNat = 12 from rfl, dgN_big (by decide), dgN_small (by decide)]; rfl
theorem it2 : itN (2 : Nat) = [50] := by
  rw [itN_eq, if_neg (by decide), show ((2 : Nat) : Int).toNat = 2 from rfl, dgN_small (by decide)]
theorem knEnc : encV knV = knB := by
  unfold knV
  have h2 : itN ([97, 98].length : Nat) = [50] := it2
  simp only [encV, encL, it12, h2]
  decide
theorem knChk : chkV knV 1 = 0 := by decide +kernel

theorem cop_kn {x1 x2 x3 : Vx} (h1 : x1.v = .mk 0 12 [] []) (h2 : x2.v = .mk 1 0 [97, 98] []) (h3 : x3.v = .mk 2 0 [] []) : Vc.mk 2 0 [] ((vsOf [x1, x2, x3]).map (copN 8)) = knV := by
  simp only [vsOf, List.map_cons, List.map_nil, h1, h2, h3]
  rfl

set_option maxRecDepth 100000 in
set_option maxHeartbeats 4000000 in
theorem known_any (w : World) (hP : Pw w w.heap.size) :
    Calls Tryd.prog 7 #[] w fun e w' => e = .returned (.bool true) ∧ Below w.heap.size w w' := by
  have HP := Sl.mk hP
  clear hP
  go_enter Tryd.func7, Tryd.ntmps7
  go_wp2_with fail
  refine (int_any 12 w).mono ?_
  rintro e w1 ⟨rfl, hB1⟩
  go_wp2_with fail
  refine (text_any ⟨#[97, 98]⟩ w1 (by decide)).mono ?_
  rintro e w2 ⟨A2, c2, rfl, hk2, hB2⟩
  have HK2 := Sl.mk hk2
  have hE2 := below_tr hB1 hB2
  clear hB1 hk2
  go_wp2_with fail
  refine (of_nilK w2).mono ?_
  rintro e w3 ⟨rfl, hB3⟩
  have hE3 := below_tr hE2 hB3
  have hb2 : (Vx.mk 1 0 A2 (bys ⟨#[97, 98]⟩) c2 none [] 0) = .mk 1 0 A2 [97, 98] c2 none [] 0 := rfl
  rw [hb2] at HK2 ⊢
  rw [vxC_mk]
  have HK3 := Sl.mk (VxOk.keep (w' := w3) (fun p hp => hB3.cell hp.2) _ HK2.out)
  have hs3 := hB3.size
  have hs1 := hB2.size
  have hba := below_al (Below.refl w3.heap.size w3) (.cells #[.int .i64 0, .int .i64 12, .slice none 0 0, .slice none 0 0, .int .i64 1, .int .i64 0, .slice A2 2 c2, .slice none 0 0, .int .i64 2, .int .i64 0, .slice none 0 0, .slice none 0 0] 26)
  have hvs : Vxs (w3.alloc (.cells #[.int .i64 0, .int .i64 12, .slice none 0 0, .slice none 0 0, .int .i64 1, .int .i64 0, .slice A2 2 c2, .slice none 0 0, .int .i64 2, .int .i64 0, .slice none 0 0, .slice none 0 0] 26)) (some ⟨w3.heap.size, 0, none⟩) 3 [vxInt 12, .mk 1 0 A2 [97, 98] c2 none [] 0, .mk 2 0 none [] 0 none [] 0] := by
    refine ⟨⟨rfl, fun _ => ⟨_, rfl, by simp, fun j u hu => by rw [ad_zero, (Blk.new _ _ _).cell j]; simpa [vxsC, vxC_mk, vxInt] using hu⟩⟩, fun x hx => ?_⟩
    simp only [List.mem_cons, List.not_mem_nil, or_false] at hx
    rcases hx with rfl | rfl | rfl
    · exact vxInt_ok _ _ _ (by decide) (by decide)
    · exact VxOk.mono (fun g hg => by simp; omega) _ (VxOk.keep (w := w3) (fun p hp => hba.cell (by omega)) _ HK3.out)
    · exact VxOk.iff.2 ⟨RdC.nil, RdC.nil, ⟨by omega, by omega, by omega, by omega, ⟨Nat.le_refl _, by simp⟩, ⟨Nat.le_refl _, by simp⟩, by simp, by simp, fun x hx => nomatch hx⟩, fun x hx => nomatch hx⟩
  have hOf := of_any [vxInt 12, .mk 1 0 A2 [97, 98] c2 none [] 0, .mk 2 0 none [] 0 none [] 0] _ 3 3 _ rfl (by decide) (Nat.le_refl _) (by decide) hvs
  rw [cop_kn rfl rfl rfl] at hOf
  have HOF := Sl.mk hOf
  have hE4 := below_tr hE3 hba
  clear hvs hOf hE2 hE3 hB2 hB3 hba hb2
  go_wp2_with fail
  refine HOF.out.mono ?_
  rintro e w5 ⟨x, rfl, hxv, hxk, hB5⟩
  have hE5 := below_tr hE4 hB5
  have hxi := VxOk.mono (S' := fun b => b < w5.heap.size) (fun g hg => hg.2) _ hxk
  have hen : encF x.v = knB := by rw [hxv]; unfold encF; rw [if_pos knChk, knEnc]
  have HE := Sl.mk (encode_any x w5 hxi ((HP.out.be hE5).mono hE5.size) (by rw [hen]; decide))
  have HEN := Sl.mk hen
  have hck : chkV x.v 1 = 0 := by rw [hxv]; exact knChk
  have HCK := Sl.mk hck
  clear hxv hxk hxi hen hck hE4 hB5 HOF
  go_wp2_with fail
  refine HE.out.mono ?_
  rintro e w6 ⟨A6, n6, c6, rfl, hn6, ho6, hB6⟩
  rw [HCK.out]
  rw [HEN.out] at hn6 ho6
  obtain rfl : 12 = n6 := hn6
  have hE6 := below_tr hE5 hB6
  have HO6 := Sl.mk ho6
  clear HE hE5 hB6 ho6
  have hR1 : ∀ W : World, Reads (W.alloc (.cells #[.int .u8 105, .int .u8 45, .int .u8 48, .int .u8 59] 5 (4, 5))) (W.alloc (.cells #[.int .u8 105, .int .u8 45, .int .u8 48, .int .u8 59] 5 (4, 5))).heap.size 1 (some ⟨W.heap.size, 0, none⟩) 4 (u8s [105, 45, 48, 59]) := fun W => ⟨rfl, fun _ => ⟨_, rfl, by simp, fun j u hu => by rw [ad_zero, cell_of_row _ _ j _ _ _ (heap_alloc_new W _)]; simpa [u8s] using hu⟩⟩
  have hR2 : ∀ W : World, Reads (W.alloc (.cells #[.int .u8 105, .int .u8 48, .int .u8 49, .int .u8 59] 5 (4, 5))) (W.alloc (.cells #[.int .u8 105, .int .u8 48, .int .u8 49, .int .u8 59] 5 (4, 5))).heap.size 1 (some ⟨W.heap.size, 0, none⟩) 4 (u8s [105, 48, 49, 59]) := fun W => ⟨rfl, fun _ => ⟨_, rfl, by simp, fun j u hu => by rw [ad_zero, cell_of_row _ _ j _ _ _ (heap_alloc_new W _)]; simpa [u8s] using hu⟩⟩
  have HD1 := Sl.mk (fun W => decode_bad (some ⟨W.heap.size, 0, none⟩) 4 [105, 45, 48, 59] _ (.inl rfl) (Nat.le_refl _) (hR1 W))
  have HD2 := Sl.mk (fun W => decode_bad (some ⟨W.heap.size, 0, none⟩) 4 [105, 48, 49, 59] _ (.inr rfl) (Nat.le_refl _) (hR2 W))
  have kc := fun (C : Array Value) (n c : Nat) => Lib.run_convert_bytes_const (P := Tryd.prog) w6 23 5 C n c Tryd.underlying23 Tryd.underlying5
  clear hR1 hR2
  go_wp2_with fail
  refine (HD1.out w6).mono ?_
  rintro e w7 ⟨rfl, hB7⟩
  have hb67 := below_tr (below_al (Below.refl w6.heap.size w6) (.cells #[.int .u8 105, .int .u8 45, .int .u8 48, .int .u8 59] 5 (4, 5))) hB7
  have hE7 := below_tr hE6 hb67
  have HO7 := Sl.mk (own_below HO6.out hb67)
  clear hE6 hB7 hb67 kc
  have kc := fun (C : Array Value) (n c : Nat) => Go.Joins.run_convert_bytes_const_at (P := Tryd.prog) (w7.alloc (.cells #[.int .i64 0, .int .i64 0, .slice none 0 0, .slice none 0 0] 26)) 23 5 C n c (w7.heap.size + 1) (by simp) Tryd.underlying23 Tryd.underlying5
  have HD3 := HD2.out (w7.alloc (.cells #[.int .i64 0, .int .i64 0, .slice none 0 0, .slice none 0 0] 26))
  rw [show (w7.alloc (.cells #[.int .i64 0, .int .i64 0, .slice none 0 0, .slice none 0 0] 26)).heap.size = w7.heap.size + 1 by simp] at HD3
  have HD4 := Sl.mk HD3
  clear HD3
  go_wp2_with fail
  refine HD4.out.mono ?_
  rintro e w8 ⟨rfl, hB8⟩
  have hb78 := below_tr (below_al (below_al (Below.refl w7.heap.size w7) (.cells #[.int .i64 0, .int .i64 0, .slice none 0 0, .slice none 0 0] 26)) (.cells #[.int .u8 105, .int .u8 48, .int .u8 49, .int .u8 59] 5 (4, 5))) hB8
  have hE8 := below_tr hE7 hb78
  have HO8 := Sl.mk (own_below HO7.out hb78)
  clear hE7 hB8 hb78
  have hE9 := below_al hE8 (.cells #[.int .i64 0, .int .i64 0, .slice none 0 0, .slice none 0 0] 26)
  have hrd := Reads.of_own (own_below HO8.out (below_al (Below.refl w8.heap.size w8) (.cells #[.int .i64 0, .int .i64 0, .slice none 0 0, .slice none 0 0] 26)))
  have hcv := conv_str (c := c6) hrd (by decide)
  have hst : ((strN knB).toList == [40, 105, 49, 50, 59, 50, 58, 97, 98, 40, 41, 41]) = true := by decide +kernel
  obtain ⟨S, hS⟩ : ∃ S, strN knB = S := ⟨_, rfl⟩
  rw [hS] at hcv hst
  clear hrd hS hE8
  go_wp2_with fail
  go_ret
  exact ⟨by first | rfl | simp, hE9⟩

end Go.Proofs.YtbnmbncjefnpiaaDoor
