/-
  The contract of the writer's value.
-/
import Derived.Test.YtbnmbncjefnpiaaDoorCdE
import Derived.Test.YtbnmbncjefnpiaaDoorCdLays
import Derived.Lib.ConvBytes
import Derived.Lib.AppendIntMem
namespace Go.Proofs.YtbnmbncjefnpiaaDoor
open Go.RowKit
attribute [local go_sem ↓] Go.wp_at_zero Go.wp_at_succ

/-- The table of powers lies, below a base. -/
structure Pw (w : World) (base : Nat) : Prop where
  tab : Lib.TabIs Tryd.prog w "internal/strconv.uint64pow10" .u64 Lib.pow10Tab
  lt : 0 < base
theorem pwNamed : Tryd.prog.globalNamed "internal/strconv.uint64pow10" = some 0 := by kernel_rfl
theorem Pw.be {w w' : World} {base : Nat} (h : Pw w base) (hb : Below base w w') : Pw w' base := by
  refine ⟨?_, h.lt⟩
  have h1 := h.tab
  unfold Lib.TabIs World.var? at h1 ⊢
  rw [pwNamed] at h1 ⊢
  simp only [Option.bind_some] at h1 ⊢
  rw [hb.block _ h.lt]
  exact h1
theorem Pw.mono {w : World} {base base' : Nat} (h : Pw w base) (hb : base ≤ base') : Pw w base' := ⟨h.tab, Nat.lt_of_lt_of_le h.lt hb⟩

def itS (n : Int) : ByteArray := ⟨(Lib.itoa n).toArray⟩
theorem itoa_any (n : Int) (w : World) (h0 : -9223372036854775808 ≤ n) (h1 : n ≤ 9223372036854775807) (hp : Pw w w.heap.size) :
    Calls Tryd.prog 32 #[.int .i64 n] w fun e w' => e = .returned (.string (itS n)) ∧ Below w.heap.size w w' :=
  (strconv_Itoa n h0 h1 w hp.tab).mono fun e w' ⟨h, k, os, hw⟩ => ⟨h, by rw [hw]; exact Lib.below_grow _ w (Nat.le_refl _) k os⟩

def bys (s : ByteArray) : List Nat := s.data.toList.map (·.toNat)
theorem bys_len (s : ByteArray) : (bys s).length = s.size := by simp [bys]
theorem bys_app (s t : ByteArray) : bys (s ++ t) = bys s ++ bys t := by
  unfold bys
  rw [ByteArray.data_append, Array.toList_append, List.map_append]
theorem bys_it (n : Int) : bys (itS n) = itN n := by simp [bys, itS, itN]
theorem conv_bys (s : ByteArray) (w : World) : (convert 9 23 (.string s)).run Tryd.prog w = .ok (.slice (some ⟨w.heap.size, 0, none⟩) s.size (grownCap w s.size 0 5)) (Lib.bytesWorld w 5 s) :=
  Lib.run_convert_string_bytes w _ _ _ s Tryd.underlying9 Tryd.underlying23 Tryd.underlying5
theorem bys_below (s : ByteArray) (w : World) : Below w.heap.size w (Lib.bytesWorld w 5 s) := ⟨rfl, rfl, rfl, by rw [Lib.bytesWorld_size]; omega, fun k hk => Lib.bytesWorld_at_old w _ s k hk⟩
theorem ad_zero (g j : Nat) : (⟨g, 0, none⟩ : Addr).add j = ⟨g, j, none⟩ := by unfold Addr.add; split <;> simp_all
theorem bys_reads1 (s : ByteArray) (w : World) (n : Nat) (hn : s.size = n) : Reads (Lib.bytesWorld w 5 s) (Lib.bytesWorld w 5 s).heap.size 1 (some ⟨w.heap.size, 0, none⟩) n (u8s (bys s)) :=
  ⟨by rw [u8s_len, bys_len]; omega, fun _ => ⟨_, rfl, by rw [Lib.bytesWorld_size]; exact Nat.lt_succ_self _, fun j u hu => by
    have hj : j < (u8s (bys s)).length := (List.getElem?_eq_some_iff.1 hu).1
    rw [u8s_len, bys_len] at hj
    rw [ad_zero, Lib.bytesWorld_cell w _ s j hj, ← hu]
    have hj2 : j < s.data.size := hj
    simp [bys, u8s]
    rw [Array.getElem?_eq_getElem hj2]
    rfl⟩⟩
theorem nDig_le : ∀ (k u : Nat), u < 10 ^ (k + 1) → Lib.nDigits u ≤ k + 1
  | 0, u, h => by rw [Lib.nDigits_small (by simpa using h)]; omega
  | k + 1, u, h => by
    by_cases h10 : u < 10
    · rw [Lib.nDigits_small h10]; omega
    · rw [Lib.nDigits_big h10]
      have := nDig_le k (u / 10) (by rw [Nat.pow_succ] at h; omega)
      omega
theorem it_size (n : Int) (h0 : -9223372036854775808 ≤ n) (h1 : n ≤ 9223372036854775807) : (itS n).size ≤ 21 := by
  show (Lib.itoa n).toArray.size ≤ 21
  rw [List.size_toArray, Lib.itoa]
  split
  · have := nDig_le 19 n.natAbs (by omega)
    rw [List.length_cons, Lib.decDigits_length]; omega
  · have := nDig_le 19 n.toNat (by omega)
    rw [Lib.decDigits_length]; omega


set_option maxRecDepth 100000 in
set_option maxHeartbeats 1000000 in
theorem writer_any (x : Vx) : ∀ (w : World) (base R : Nat) (bs : List Nat), VxOk w (fun b => b < base) x → base ≤ w.heap.size → Wr w base R bs → Pw w base → allV x.v = true → bs.length + (encV x.v).length ≤ 131072 →
    Calls Tryd.prog 22 #[.pointer (some ⟨R, 0, none⟩), .agg (vxC x).toArray] w fun e w' => e = .returned (.tuple #[]) ∧ Wr w' base R (bs ++ encV x.v) ∧ Below base w w' ∧ Oth w w' := by
  induction x using Vx.ind_ with
  | h k n pb b cb pl l cl ih =>
    intro w base R bs hx hbs hW hP hall hle
    show Calls Tryd.prog 22 #[.pointer (some ⟨R, 0, none⟩), .agg #[.int .i64 k, .int .i64 n, .slice pb b.length cb, .slice pl l.length cl]] w _
    have hv : (Vx.mk k n pb b cb pl l cl).v = .mk k n b (vsOf l) := by rw [Vx.v]
    rw [hv] at hall hle ⊢
    clear hv
    obtain ⟨bl, hbl⟩ : ∃ bl, b.length = bl := ⟨_, rfl⟩
    obtain ⟨ll, hlle⟩ : ∃ ll, l.length = ll := ⟨_, rfl⟩
    rw [hbl, hlle]
    have hwa := below_al (Below.refl w.heap.size w) (.cells #[.int .i64 k, .int .i64 n, .slice pb bl cb, .slice pl ll cl] 26)
    have hBx := Blk.new w 26 #[.int .i64 k, .int .i64 n, .slice pb bl cb, .slice pl ll cl]
    obtain ⟨wa, hwe⟩ : ∃ wa, w.alloc (.cells #[.int .i64 k, .int .i64 n, .slice pb bl cb, .slice pl ll cl] 26) = wa := ⟨_, rfl⟩
    rw [hwe] at hwa hBx
    have hba : Below base w wa := hwa.mono hbs
    obtain ⟨hxb, hxl, hN, hxs⟩ := VxOk.iff.1 hx
    clear hx
    simp only [allV, Bool.and_eq_true] at hall
    obtain ⟨hkind, hal⟩ := hall
    have hWa := hW.be hwa
    have hPa := hP.be hba
    have hsa := hwa.size
    have hn1 := hN.n1
    have hn2 := hN.n2
    have c0 := hBx.cell 0
    have c1 := hBx.cell 1
    have c2 := hBx.cell 2
    have c3 := hBx.cell 3
    rcases kind_zero hkind with rfl | rfl | rfl
    · have hI := Sl.mk (itoa_any n wa hn1 hn2 (hPa.mono (by omega)))
      have hsz := it_size n hn1 hn2
      have hen : encV (.mk 0 n b (vsOf l)) = bys (⟨#[105]⟩ ++ itS n ++ ⟨#[59]⟩) := by
        rw [bys_app, bys_app, bys_it, encV, if_pos rfl]; rfl
      rw [hen] at hle ⊢
      obtain ⟨T, hT⟩ : ∃ T, itS n = T := ⟨_, rfl⟩
      rw [hT] at hI hsz hle ⊢
      clear hT hen
      go_enter Tryd.func22, Tryd.ntmps22
      go_wp2_with fail
      refine hI.out.mono ?_
      rintro e w1 ⟨rfl, hB1⟩
      have hW1 := hWa.be hB1
      have hb1 := hba.trans (hB1.mono (by omega))
      have hsT : (⟨#[105]⟩ ++ T ++ ⟨#[59]⟩ : ByteArray).size = T.size + 2 := by
        rw [ByteArray.size_append, ByteArray.size_append]
        show 1 + T.size + 1 = _
        omega
      go_wp2_with fail
      rw [conv_bys]
      obtain ⟨S, hS⟩ : ∃ S, (⟨#[105]⟩ ++ T ++ ⟨#[59]⟩ : ByteArray) = S := ⟨_, rfl⟩
      have HS := Sl.mk hS
      rw [hS] at hle hsT ⊢
      have hbl := bys_len S
      rw [hsT] at hbl
      have HPU := Sl.mk (fun d => put_any (Lib.bytesWorld w1 5 S) base R (T.size + 2) d (some ⟨w1.heap.size, 0, none⟩) bs (bys S) hbl (hW1.be (bys_below S w1)) (bys_reads1 S w1 _ hsT) (by omega))
      have hb2 := hb1.trans ((bys_below S w1).mono (Nat.le_trans hbs (Nat.le_trans hsa hB1.size)))
      have HT2 := Sl.mk ((Oth.be hwa).trans ((Oth.be hB1).trans (Oth.be (bys_below S w1))))
      rw [hsT]
      clear hS hsT hB1 hW1 hb1 hbl hI hwa hba hBx c0 c1 c2 c3 hW hP hWa hPa
      go_wp2_with fail
      refine (HPU.out _).mono ?_
      rintro e w3 ⟨rfl, hW3, hB3, hT3⟩
      go_wp2_with fail
      go_end0
      exact ⟨rfl, by rw [HS.out]; exact hW3, hb2.trans hB3, HT2.out.trans hT3⟩
    · have hbm := hN.bl
      have hen : encV (.mk 1 n b (vsOf l)) = bys (itS bl ++ ⟨#[58]⟩) ++ b := by
        rw [bys_app, bys_it, encV, if_neg (by decide), if_pos rfl, hbl, List.append_assoc]; rfl
      rw [hen, List.length_append, hbl] at hle
      rw [hen]
      rw [hbl] at hbm hxb
      have hI := Sl.mk (itoa_any bl wa (by omega) (by omega) (hPa.mono (by omega)))
      have hsz := it_size bl (by omega) (by omega)
      obtain ⟨T, hT⟩ : ∃ T, itS bl = T := ⟨_, rfl⟩
      rw [hT] at hI hsz hle ⊢
      have HBL := Sl.mk hbl
      clear hT hen hbl
      go_enter Tryd.func22, Tryd.ntmps22
      go_wp2_with fail
      refine hI.out.mono ?_
      rintro e w1 ⟨rfl, hB1⟩
      have hW1 := hWa.be hB1
      have hb1 := hba.trans (hB1.mono (by omega))
      have hsT : (T ++ ⟨#[58]⟩ : ByteArray).size = T.size + 1 := by
        rw [ByteArray.size_append]
        rfl
      go_wp2_with fail
      rw [conv_bys]
      obtain ⟨S, hS⟩ : ∃ S, (T ++ ⟨#[58]⟩ : ByteArray) = S := ⟨_, rfl⟩
      have HS := Sl.mk hS
      rw [hS] at hle hsT ⊢
      have hbl := bys_len S
      rw [hbl] at hle
      rw [hsT] at hbl
      have HPU := Sl.mk (fun d => put_any (Lib.bytesWorld w1 5 S) base R (T.size + 1) d (some ⟨w1.heap.size, 0, none⟩) bs (bys S) hbl (hW1.be (bys_below S w1)) (bys_reads1 S w1 _ hsT) (by omega))
      have hb2 := hb1.trans ((bys_below S w1).mono (Nat.le_trans hbs (Nat.le_trans hsa hB1.size)))
      have hT2 := (Oth.be hwa).trans ((Oth.be hB1).trans (Oth.be (bys_below S w1)))
      have hT2' := (Oth.be hB1).trans (Oth.be (bys_below S w1))
      rw [hsT]
      have HBx := Sl.mk hBx
      clear hS hB1 hW1 hb1 hI hwa hba hBx c0 c1 c2 c3 hW hP hWa hPa
      go_wp2_with fail
      refine (HPU.out _).mono ?_
      rintro e w3 ⟨rfl, hW3, hB3, hT3⟩
      have hBx3 := (hT2'.trans hT3) _ _ _ (by decide) (by decide) HBx.out
      have c2 := hBx3.cell 2
      have hb3 := hb2.trans hB3
      have HT3 := Sl.mk (hT2.trans hT3)
      have HP4 := Sl.mk (put_any w3 base R bl cb pb (bs ++ bys S) b HBL.out hW3 (((hxb.reads fun _ h => h).below hb3).more (Nat.le_trans hW3.le (Nat.le_of_lt hW3.lt))) (by rw [List.length_append, hbl]; omega))
      clear hB3 hT3 hT2 hT2' hb2 hBx3
      go_wp2_with fail
      refine HP4.out.mono ?_
      rintro e w4 ⟨rfl, hW4, hB4, hT4⟩
      go_wp2_with fail
      go_end0
      exact ⟨rfl, by rw [HS.out, ← List.append_assoc]; exact hW4, hb3.trans hB4, HT3.out.trans hT4⟩
    · have hen : encV (.mk 2 n b (vsOf l)) = 40 :: (encL (vsOf l) ++ [41]) := by rw [encV, if_neg (by decide), if_neg (by decide), if_pos rfl]
      rw [hen] at hle ⊢
      have hll := hN.ll
      have hlc := hN.lc
      rw [hlle] at hxl hll hlc
      have HLL := Sl.mk hlle
      simp only [List.length_cons, List.length_append, List.length_nil] at hle
      have hone : ∀ c d : Nat, u8s [c] = [Value.int .u8 (c : Int)] := fun _ _ => rfl
      have HP1 := Sl.mk (put_any (wa.alloc (.cells #[.int .u8 40] 5)) base R 1 1 (some ⟨wa.heap.size, 0, none⟩) bs [40] rfl (hWa.be (below_al (Below.refl _ _) _)) (reads_new1 wa (.int .u8 40) 5 (by simp)) (by omega))
      have hT1 := Sl.mk ((Oth.be hwa).trans (Oth.be (below_al (Below.refl wa.heap.size wa) (.cells #[.int .u8 40] 5))))
      have hT1' := Sl.mk (Oth.be (below_al (Below.refl wa.heap.size wa) (.cells #[.int .u8 40] 5)))
      have hb1 := hba.trans ((below_al (Below.refl wa.heap.size wa) (.cells #[.int .u8 40] 5)).mono (Nat.le_trans hbs hsa))
      have HBx := Sl.mk hBx
      have HXL := Sl.mk hxl
      have HXS := Sl.mk hxs
      have HAL := Sl.mk hal
      have HP := Sl.mk hP
      clear hwa hba hBx c1 c2 c3 hW hP hWa hPa hen hone hlle hxl hxs hal
      go_enter Tryd.func22, Tryd.ntmps22
      go_wp2_with fail
      refine HP1.out.mono ?_
      rintro e w1 ⟨rfl, hW1, hB1, hT2⟩
      have hb2 := hb1.trans hB1
      have hBx1 := (hT1'.out.trans hT2) _ _ _ (by decide) (by decide) HBx.out
      have c3 := hBx1.cell 3
      have HT2 := Sl.mk (hT1.out.trans hT2)
      clear c0 hb1 hB1 hBx1 hT2 hT1 hT1' HBx HP1
      go_wp2_with fail
      go_loopw [5, 40] (fun _ v40 wr => ∃ i : Nat, i ≤ ll ∧ v40 = .int .i64 i ∧ Wr wr base R (bs ++ [40] ++ encL (vsOf (l.take i))) ∧ Below base w wr ∧ Sl (Oth w wr)) (fun _ v40 _ => ll - (intOf v40).toNat)
      case atStart => exact ⟨0, Nat.zero_le _, rfl, by simpa [vsOf, encL] using hW1, hb2, HT2⟩
      case round =>
        obtain ⟨i, hi, rfl, hWr, hB, HT⟩ := hrel
        have hsr := hWr.lt
        have hRb := hWr.le
        by_cases hil : i < ll
        · obtain ⟨x, hx⟩ : ∃ x, l[i]? = some x := ⟨_, List.getElem?_eq_getElem (by rw [HLL.out]; exact hil)⟩
          have hV : Vxs wr pl ll l := ⟨((HXL.out.reads fun _ h => h).below hB).more (by omega), fun y hy => VxOk.mono (fun _ (h : _ < base) => by omega) y (VxOk.keep (fun p hp => hB.cell hp) y (HXS.out y hy))⟩
          obtain ⟨ad, hpl, hbl, hld, hok⟩ := hV.at_ hx
          subst hpl
          have hmem := List.mem_of_getElem? hx
          have hokb : VxOk wr (fun b => b < base) x := VxOk.keep (fun p hp => hB.cell hp) x (HXS.out x hmem)
          have hax : allV x.v = true := allL_mem HAL.out _ (by rw [vsOf_map]; exact List.mem_map_of_mem hmem)
          have htk : encL (vsOf (l.take (i + 1))) = encL (vsOf (l.take i)) ++ encV x.v := by
            rw [take_one hx, vsOf_app, encL_app]; simp [vsOf, encL]
          have hlt : (encL (vsOf (l.take (i + 1)))).length ≤ (encL (vsOf l)).length := by
            conv => rhs; rw [← List.take_append_drop (i + 1) l, vsOf_app, encL_app, List.length_append]
            omega
          rw [htk, List.length_append] at hlt
          have hwa := below_al (Below.refl wr.heap.size wr) (.cells (vxC x).toArray 26)
          have HR := Sl.mk (ih x hmem (wr.alloc (.cells (vxC x).toArray 26)) base R (bs ++ [40] ++ encL (vsOf (l.take i))) (VxOk.keep (fun p hp => hwa.cell (Nat.lt_of_lt_of_le hp (by omega))) x hokb) (Nat.le_trans (by omega) hwa.size) (hWr.be hwa) (HP.out.be (hB.trans (hwa.mono (by omega)))) hax (by simp only [List.length_append, List.length_cons, List.length_nil]; omega))
          have e1 : bs ++ [40] ++ encL (vsOf (l.take i)) ++ encV x.v = bs ++ [40] ++ encL (vsOf (l.take (i + 1))) := by rw [htk]; simp [List.append_assoc]
          rw [e1] at HR
          have HTa := Sl.mk (HT.out.trans (Oth.be hwa))
          have hBa := hB.trans (hwa.mono (B' := base) (by omega))
          obtain ⟨k', n', pb', b', cb', pl', l', cl'⟩ := x
          rw [vxC_mk] at *
          clear hx hok hV hokb hax htk hlt hwa hB hWr hmem
          go_wp2_with (refine ld_vxl hld rfl (.tmp 42) rfl rfl ?_)
          refine HR.out.mono ?_
          rintro e w2 ⟨rfl, hW2, hB2, hT3⟩
          have hE2 := hBa.trans hB2
          have HT3 := Sl.mk (HTa.out.trans hT3)
          clear hB2 hT3 hBa HR hld
          go_wp2_with fail
          go_roundw
          case rel => exact ⟨i + 1, by omega, by go_num, hW2, hE2, HT3⟩
          case measure => simp [intOf]; omega
        · obtain rfl : i = ll := by omega
          have htk : l.take i = l := List.take_of_length_le (by rw [HLL.out]; omega)
          rw [htk] at hWr
          have HP2 := Sl.mk (put_any (wr.alloc (.cells #[.int .u8 41] 5)) base R 1 1 (some ⟨wr.heap.size, 0, none⟩) _ [41] rfl (hWr.be (below_al (Below.refl _ _) _)) (reads_new1 wr (.int .u8 41) 5 (by simp)) (by simp only [List.length_append, List.length_cons, List.length_nil]; omega))
          have hwb := below_al (Below.refl wr.heap.size wr) (.cells #[.int .u8 41] 5)
          have HTa := Sl.mk (HT.out.trans (Oth.be hwb))
          have hBa := hB.trans (hwb.mono (B' := base) (by omega))
          clear hWr hwb hB HT htk
          go_wp2_with fail
          refine HP2.out.mono ?_
          rintro e w2 ⟨rfl, hW2, hB2, hT3⟩
          go_wp2_with fail
          go_end0
          exact ⟨rfl, by simpa [List.append_assoc] using hW2, hBa.trans hB2, HTa.out.trans hT3⟩

end Go.Proofs.YtbnmbncjefnpiaaDoor
