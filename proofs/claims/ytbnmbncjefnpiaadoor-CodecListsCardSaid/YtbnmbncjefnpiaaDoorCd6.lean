/-
  The walk of CodecWrites.
-/
import Derived.Test.YtbnmbncjefnpiaaDoorCdY
import Derived.Test.YtbnmbncjefnpiaaDoorCd5
namespace Go.Proofs.YtbnmbncjefnpiaaDoor
open Go.RowKit
attribute [local go_sem ↓] Go.wp_at_zero Go.wp_at_succ

theorem ld_vxG {ops : Array Oper} {rest : List Oper} {op : Oper} {a : Act} {w : World} {Q : Exit → Act → World → Prop} {g : Nat} {k n : Int} {pb : Option Addr} {bl cb : Nat} {pl : Option Addr} {ll cl : Nat}
    (hB : Blk w g 26 #[.int .i64 k, .int .i64 n, .slice pb bl cb, .slice pl ll cl]) (hgd : Region.wanted op (yielded ops a.tmps) = true) (x : Operand) (ho : op.op = .load 26 x) (hx : a.eval x = .pointer (some ⟨g, 0, none⟩))
    (h : wpList Tryd.prog ops Q rest (a.put op.dst (.agg #[.int .i64 k, .int .i64 n, .slice pb bl cb, .slice pl ll cl])) w) : wpList Tryd.prog ops Q (op :: rest) a w :=
  BigFrame.wpList_want hgd fun _ hK => wp_load_at 26 x ho ⟨g, 0, none⟩ hx [.int .i64 k, .int .i64 n, .slice pb bl cb, .slice pl ll cl] _ (fun j v hv => by rw [ad_zero, hB.cell j]; simpa using hv) Tryd.underlying26 rfl (by rw [vxSize]; rfl) (hK _ _ h)
theorem itN_byte (n : Int) : ∀ c ∈ itN n, c < 256 := fun c hc => by
  obtain ⟨y, _, rfl⟩ := List.mem_map.1 hc
  exact y.toNat_lt
theorem enc_byteL : ∀ {l : List Vx}, (∀ x ∈ l, ∀ c ∈ encV x.v, c < 256) → ∀ c ∈ encL (vsOf l), c < 256
  | [], _, c, h => nomatch h
  | x :: r, hx, c, h => by
    rw [vsOf, encL] at h
    rcases List.mem_append.1 h with h | h
    · exact hx x (List.mem_cons_self ..) c h
    · exact enc_byteL (fun y hy => hx y (List.mem_cons_of_mem _ hy)) c h
theorem enc_byte {w : World} {S : Nat → Prop} (x : Vx) : VxOk w S x → ∀ c ∈ encV x.v, c < 256 := by
  induction x using Vx.ind_ with
  | h k n pb b cb pl l cl ih =>
    intro h c hc
    rw [VxOk.iff] at h
    rw [Vx.v, encV] at hc
    split at hc
    · rcases List.mem_cons.1 hc with rfl | hc
      · decide
      · rcases List.mem_append.1 hc with hc | hc
        · exact itN_byte _ c hc
        · obtain rfl : c = 59 := by simpa using hc
          decide
    · split at hc
      · rcases List.mem_append.1 hc with hc | hc
        · exact itN_byte _ c hc
        · rcases List.mem_cons.1 hc with rfl | hc
          · decide
          · exact h.2.2.1.by_ c hc
      · split at hc
        · rcases List.mem_cons.1 hc with rfl | hc
          · decide
          · rcases List.mem_append.1 hc with hc | hc
            · exact enc_byteL (fun y hy => ih y hy (h.2.2.2 y hy)) c hc
            · obtain rfl : c = 41 := by simpa using hc
              decide
        · cases hc
/-- What Encode answers at a built value. -/
structure EncC (V : Vc) (ok : Bool) (D : Nat) (E : Int) : Prop where
  all : allV V = ok
  dep : depV V = D
  len : (encV V).length ≤ 6242
  e : chkV V 1 = E
  cs : (ok = false ∧ E = 17) ∨ (ok = false ∧ E = 18 ∧ 8 < D) ∨ (ok = true ∧ E = 18 ∧ 8 < D) ∨ (ok = true ∧ E = 0 ∧ D ≤ 8)
theorem encC_of {q : List Tk} (hn : ∀ t ∈ q, -9223372036854775808 ≤ t.n ∧ t.n ≤ 9223372036854775807) : EncC (valB q) (runB q).ok (runB q).d (chkV (valB q) 1) := by
  obtain ⟨h1, h2, h3, h4⟩ := build_law q hn
  refine ⟨h1, h2, h3, rfl, ?_⟩
  cases hok : (runB q).ok
  · rw [hok] at h1
    rcases chk_or (valB q) 1 with h | h | h
    · rw [h.2] at h1; cases h1
    · exact .inl ⟨rfl, h⟩
    · exact .inr (.inl ⟨rfl, h.1, by omega⟩)
  · rw [hok] at h1
    have hc := chk_of (valB q) 1 (by decide)
    by_cases hD : (runB q).d ≤ 8
    · exact .inr (.inr (.inr ⟨rfl, hc.1 h1 (by omega), hD⟩))
    · exact .inr (.inr (.inl ⟨rfl, hc.2 h1 (by omega), by omega⟩))
theorem encF_len {V : Vc} {ok : Bool} {D : Nat} {E : Int} (h : EncC V ok D E) : (encF V).length ≤ 131072 := by
  unfold encF
  split
  · have := h.len; omega
  · exact Nat.zero_le _

set_option maxRecDepth 100000 in
set_option maxHeartbeats 8000000 in
theorem writes_walk (A : Option Addr) (n c : Nat) (l : List Tx) (w : World) (hI : Toks w A n l) (hP : Pw w w.heap.size) :
    Calls Tryd.prog 5 #[.slice A n c] w fun e w' => e = .returned (.bool true) ∧ Below w.heap.size w w' := by
  have HB := Sl.mk (build_any A n c l w hI)
  have hC := encC_of (q := l.map Tx.t) (fun t ht => by
    obtain ⟨x, hx, rfl⟩ := List.mem_map.1 ht
    exact ⟨(hI.ok x hx).n1, (hI.ok x hx).n2⟩)
  have HP := Sl.mk hP
  clear hI hP
  unfold BldPost at HB
  obtain ⟨V, hV⟩ : ∃ V, valB (l.map Tx.t) = V := ⟨_, rfl⟩
  obtain ⟨OK, hOK⟩ : ∃ OK, (runB (l.map Tx.t)).ok = OK := ⟨_, rfl⟩
  obtain ⟨D, hD⟩ : ∃ D, (runB (l.map Tx.t)).d = D := ⟨_, rfl⟩
  rw [hV, hOK, hD] at HB hC
  obtain ⟨E, hE⟩ : ∃ E, chkV V 1 = E := ⟨_, rfl⟩
  rw [hE] at hC
  have HC := Sl.mk hC
  clear hC hV hOK hD hE
  go_enter Tryd.func5, Tryd.ntmps5
  go_wp2_with fail
  refine HB.out.mono ?_
  rintro e w1 ⟨x, rfl, hxv, hxk, hB1⟩
  clear HB
  have hxi1 : VxIn w1 x := VxOk.mono (fun g hg => hg.2) _ hxk
  have HXB := Sl.mk (enc_byte x hxi1)
  have HXV := Sl.mk hxv
  have HNUM := Sl.mk (VxOk.num x hxk)
  obtain ⟨k7, n7, pb7, b7, cb7, pl7, l7, cl7⟩ := x
  rw [vxC_mk]
  have hba := below_al (Below.refl w1.heap.size w1) (.cells #[.int .i64 k7, .int .i64 n7, .slice pb7 b7.length cb7, .slice pl7 l7.length cl7] 26)
  have hX2 := Blk.new w1 26 #[.int .i64 k7, .int .i64 n7, .slice pb7 b7.length cb7, .slice pl7 l7.length cl7]
  have hxi2 := hxi1.be hba
  have hE2 := below_tr hB1 hba
  clear hxk hxi1 hxv hB1
  obtain ⟨w2, hw2⟩ : ∃ w2, w1.alloc (.cells #[.int .i64 k7, .int .i64 n7, .slice pb7 b7.length cb7, .slice pl7 l7.length cl7] 26) = w2 := ⟨_, rfl⟩
  rw [hw2] at hX2 hxi2 hE2
  have HW2 := Sl.mk hw2
  have HXI2 := Sl.mk hxi2
  clear hw2 hba hxi2
  have HEN := Sl.mk (encode_any (.mk k7 n7 pb7 b7 cb7 pl7 l7 cl7) w2 HXI2.out ((HP.out.be hE2).mono hE2.size) (by rw [HXV.out]; exact encF_len HC.out))
  rw [vxC_mk] at HEN
  go_wp2_with fail
  rw [HW2.out]
  go_wp2_with (refine ld_vxG hX2 (by rfl) (.tmp 3) rfl rfl ?_)
  refine HEN.out.mono ?_
  rintro e w3 ⟨A3, n3, c3, rfl, hn3, ho3, hB3⟩
  rw [HXV.out] at hn3 ho3 ⊢
  rw [HC.out.e]
  have hX3 := hX2.be hB3
  have hE3 := below_tr hE2 hB3
  have HXI3 := Sl.mk (HXI2.out.be hB3)
  have HO3 := Sl.mk ho3
  have HN3 := Sl.mk hn3
  have HCK := Sl.mk (top_check (.mk k7 n7 pb7 b7 cb7 pl7 l7 cl7) w3 HXI3.out ((HP.out.be hE3).mono hE3.size) (by rw [HXV.out]; exact encF_len HC.out))
  rw [HXV.out, HC.out.e, vxC_mk] at HCK
  clear hX2 hE2 hn3 ho3 hB3 HEN
  go_wp2_with (refine ld_vxG hX3 (by rfl) (.tmp 3) rfl rfl ?_)
  refine HCK.out.mono ?_
  rintro e w4 ⟨rfl, hB4⟩
  have hX4 := hX3.be hB4
  have hE4 := below_tr hE3 hB4
  have HXI4 := Sl.mk (HXI3.out.be hB4)
  have HO4 := Sl.mk (own_below HO3.out hB4)
  have HDP := Sl.mk (top_depth (.mk k7 n7 pb7 b7 cb7 pl7 l7 cl7) w4 HXI4.out)
  obtain ⟨M, hM⟩ : ∃ M, min D 9 = M := ⟨_, rfl⟩
  have hdm : depN 8 V = M := by rw [depN_eq, HC.out.dep, hM]
  rw [HXV.out, hdm, vxC_mk] at HDP
  have hmin : min (D : Int) 9 = (M : Int) := by omega
  have hEE : (E != E) = false := by simp
  clear hX3 hE3 hB4 HCK hdm hM
  go_wp2_with (refine ld_vxG hX4 (by rfl) (.tmp 3) rfl rfl ?_)
  refine HDP.out.mono ?_
  rintro e w5 ⟨rfl, hB5⟩
  have hX5 := hX4.be hB5
  have hE5 := below_tr hE4 hB5
  have HXI5 := Sl.mk (HXI4.out.be hB5)
  have HO5 := Sl.mk (own_below HO4.out hB5)
  have HSM := Sl.mk (same_any (.mk k7 n7 pb7 b7 cb7 pl7 l7 cl7) (.mk k7 n7 pb7 b7 cb7 pl7 l7 cl7) w5 HXI5.out HXI5.out)
  rw [(eqV_iff _ _).2 rfl, vxC_mk] at HSM
  clear hX4 hE4 hB5 HDP
  go_wp2_with (refine ld_vxG hX5 (by rfl) (.tmp 3) rfl rfl ?_)
  refine HSM.out.mono ?_
  rintro e w6 ⟨rfl, hB6⟩
  have hX6 := hX5.be hB6
  have hE6 := below_tr hE5 hB6
  have HXI6 := Sl.mk (HXI5.out.be hB6)
  have HO6 := Sl.mk (own_below HO5.out hB6)
  have HKN := Sl.mk (fun W (hW : Below w.heap.size w W) => known_any W ((HP.out.be hW).mono hW.size))
  clear hX5 hE5 hB6 HSM hmin hEE
  rcases HC.out.cs with ⟨rfl, rfl⟩ | ⟨rfl, rfl, hD⟩ | ⟨rfl, rfl, hD⟩ | ⟨rfl, rfl, hD⟩
  · have hn0 : n3 = 0 := by
      have h := HN3.out
      unfold encF at h
      rw [if_neg (by rw [HC.out.e]; decide)] at h
      exact h.symm
    subst hn0
    go_wp2_with fail
    refine (HKN.out w6 hE6).mono ?_
    rintro e w7 ⟨rfl, hB7⟩
    have hE7 := below_tr hE6 hB7
    clear hX6 hE6 hB7
    go_wp2_with fail
    go_ret
    exact ⟨rfl, hE7⟩
  · have hn0 : n3 = 0 := by
      have h := HN3.out
      unfold encF at h
      rw [if_neg (by rw [HC.out.e]; decide)] at h
      exact h.symm
    subst hn0
    have hDi : (8 : Int) < (D : Int) := by omega
    go_wp2_with fail
    refine (HKN.out w6 hE6).mono ?_
    rintro e w7 ⟨rfl, hB7⟩
    have hE7 := below_tr hE6 hB7
    clear hX6 hE6 hB7
    go_wp2_with fail
    go_ret
    exact ⟨rfl, hE7⟩
  · have hn0 : n3 = 0 := by
      have h := HN3.out
      unfold encF at h
      rw [if_neg (by rw [HC.out.e]; decide)] at h
      exact h.symm
    subst hn0
    have hDi : (8 : Int) < (D : Int) := by omega
    go_wp2_with fail
    refine (HKN.out w6 hE6).mono ?_
    rintro e w7 ⟨rfl, hB7⟩
    have hE7 := below_tr hE6 hB7
    clear hX6 hE6 hB7
    go_wp2_with fail
    go_ret
    exact ⟨rfl, hE7⟩
  · have hDi : ¬ (8 : Int) < (D : Int) := by omega
    have hen : encF V = encV V := by unfold encF; rw [if_pos HC.out.e]
    have hn3 := HN3.out
    have ho6 := HO6.out
    rw [hen] at hn3 ho6
    have hlen := HC.out.len
    have hcnt := cnt_le V HC.out.all
    have HNO := Sl.mk (nodes_any (.mk k7 n7 pb7 b7 cb7 pl7 l7 cl7) (fun g => g < w6.heap.size) none 0 0 [] w6 (fun _ h => h) HXI6.out ⟨RdC.nil, (fun x hx => nomatch hx), by omega⟩ (by rw [HXV.out]; omega))
    rw [HXV.out, vxC_mk] at HNO
    have HO6 := Sl.mk ho6
    have HN3 := Sl.mk hn3
    have HLEN := Sl.mk hlen
    clear hen hn3 ho6 hlen hcnt
    go_wp2_with (refine ld_vxG hX6 (by rfl) (.tmp 3) rfl rfl ?_)
    refine HNO.out.mono ?_
    rintro e w7 ⟨A7, n7', c7, more, rfl, hN7, hc7, hR7, hB7⟩
    rw [List.nil_append] at hN7 hR7
    have hX7 := hX6.be hB7
    have hE7 := below_tr hE6 hB7
    have HXI7 := Sl.mk (HXI6.out.be hB7)
    have ho7 := own_below HO6.out hB7
    have HO7 := Sl.mk ho7
    have hN7' : Nods w7 (fun g => g < w7.heap.size) A7 (n7' + 1) c7 more := hN7.mono fun g hg => by have := hB7.size; omega
    have HN7 := Sl.mk hN7'
    have HR7 := Sl.mk hR7
    have hcs := ownCapS ho7
    have hc7' : n7' + 1 ≤ 6242 := by
      have h1 := cnt_le V HC.out.all
      have h2 := HLEN.out
      simp only [List.length_nil] at hc7
      omega
    have HDE := Sl.mk (decode_ok V A3 n3 c3 w7 HC.out.all (by have := HNUM.out; rw [HXV.out] at this; exact this) (by rw [HC.out.dep]; exact hD) (by have := HN3.out; have := HLEN.out; omega) hcs.1 (by have := HXB.out; rw [HXV.out] at this; exact this) (Reads.of_own ho7))
    clear hX6 hE6 hB7 hN7 hR7 hN7' ho7 hcs hc7 HNO
    go_wp2_with fail
    refine HDE.out.mono ?_
    rintro e w8 ⟨y, rfl, hyv, hyk, hB8⟩
    have hyi : VxIn w8 y := VxOk.mono (fun g hg => hg.2) _ hyk
    have HYV := Sl.mk hyv
    obtain ⟨k8, n8, pb8, b8, cb8, pl8, l8, cl8⟩ := y
    rw [vxC_mk]
    have hba := below_al (Below.refl w8.heap.size w8) (.cells #[.int .i64 k8, .int .i64 n8, .slice pb8 b8.length cb8, .slice pl8 l8.length cl8] 26)
    have hY9 := Blk.new w8 26 #[.int .i64 k8, .int .i64 n8, .slice pb8 b8.length cb8, .slice pl8 l8.length cl8]
    have hb79 := below_tr hB8 hba
    have hX9 := hX7.be hb79
    have hE9 := below_tr hE7 hb79
    have HXI9 := Sl.mk (HXI7.out.be hb79)
    have HYI9 := Sl.mk (hyi.be hba)
    have HO9 := Sl.mk (own_below HO7.out hb79)
    have HN9 := Sl.mk ((HN7.out.be (fun _ h => h) hb79).mono (S' := fun g => g < (w8.alloc (.cells #[.int .i64 k8, .int .i64 n8, .slice pb8 b8.length cb8, .slice pl8 l8.length cl8] 26)).heap.size) (fun g hg => Nat.lt_of_lt_of_le hg hb79.size))
    obtain ⟨w9, hw9⟩ : ∃ w9, w8.alloc (.cells #[.int .i64 k8, .int .i64 n8, .slice pb8 b8.length cb8, .slice pl8 l8.length cl8] 26) = w9 := ⟨_, rfl⟩
    rw [hw9] at hY9 hX9 hE9 HXI9 HYI9 HO9 HN9
    have HW9 := Sl.mk hw9
    clear hw9 hba hb79 hX7 hE7 hB8 hyi hyk hyv HDE
    go_wp2_with fail
    rw [HW9.out]
    refine (HKN.out w9 hE9).mono ?_
    rintro e w10 ⟨rfl, hB10⟩
    have hX10 := hX9.be hB10
    have hY10 := hY9.be hB10
    have hE10 := below_tr hE9 hB10
    have HXI10 := Sl.mk (HXI9.out.be hB10)
    have HYI10 := Sl.mk (HYI9.out.be hB10)
    have HO10 := Sl.mk (own_below HO9.out hB10)
    have HN10 := (HN9.out.be (fun _ h => h) hB10)
    have HBY := Sl.mk (rbytes_any V _ A7 (n7' + 1) c7 more n7' w10 (fun g hg => Nat.lt_of_lt_of_le hg hB10.size) HN10 HR7.out HC.out.all (by have := HLEN.out; omega) (by omega))
    clear hX9 hY9 hE9 hB10 HN10 HW9
    go_wp2_with fail
    refine HBY.out.mono ?_
    rintro e w11 ⟨A11, q11, c11, rfl, hq11, hr11, hB11⟩
    have hX11 := hX10.be hB11
    have hY11 := hY10.be hB11
    have hE11 := below_tr hE10 hB11
    have HXI11 := Sl.mk (HXI10.out.be hB11)
    have HYI11 := Sl.mk (HYI10.out.be hB11)
    have ho11 := Reads.of_own (own_below HO10.out hB11)
    have HRS := Sl.mk (bsame_any A3 A11 n3 c3 q11 c11 (encV V) (encV V) w11 (by have := HN3.out; have := HLEN.out; omega) (by have := HLEN.out; omega) ho11 hr11)
    rw [show eqB (encV V) (encV V) = true from decide_eq_true rfl] at HRS
    clear hX10 hY10 hE10 hB11 ho11 hr11 hq11 HBY
    go_wp2_with fail
    refine HRS.out.mono ?_
    rintro e w12 ⟨rfl, kk, hw12⟩
    have hbd : Below w11.heap.size w11 w12 := by rw [hw12]; exact below_drN (Below.refl _ _) kk
    have hX12 := hX11.be hbd
    have hY12 := hY11.be hbd
    have hE12 := below_tr hE11 hbd
    have HSM2 := Sl.mk (same_any (.mk k8 n8 pb8 b8 cb8 pl8 l8 cl8) (.mk k7 n7 pb7 b7 cb7 pl7 l7 cl7) w12 (HYI11.out.be hbd) (HXI11.out.be hbd))
    rw [HYV.out, HXV.out, (eqV_iff _ _).2 rfl, vxC_mk, vxC_mk] at HSM2
    clear hX11 hY11 hE11 hbd hw12 HRS
    go_wp2_with (first | refine ld_vxG hX12 (by rfl) (.tmp 3) rfl rfl ?_ | refine ld_vxG hY12 (by rfl) (.tmp 10) rfl rfl ?_)
    refine HSM2.out.mono ?_
    rintro e w13 ⟨rfl, hB13⟩
    have hE13 := below_tr hE12 hB13
    clear hX12 hY12 hE12 hB13 HSM2
    go_wp2_with fail
    go_ret
    exact ⟨rfl, hE13⟩

end Go.Proofs.YtbnmbncjefnpiaaDoor
