/-
  Manifests in memory; the contract of manifest's Check.
  The contracts of a reader's next and head, and of number.
  The contract of a reader's head.
-/
import Derived.Test.YtmgblbkmbiiofaaDoorMd6
import Derived.Test.YtmgblbkmbiiofaaDoorMd10

namespace Go.Proofs.YtmgblbkmbiiofaaDoor
open Go.RowKit
attribute [local go_sem ↓] Go.wp_at_zero Go.wp_at_succ
set_option linter.unusedVariables false

structure MfR (w : World) (m : Mf) (p s h k : Hd) : Prop where
  ip : Its w p.A p.n m.p
  iq : Its w s.A s.n m.s
  ir : Its w h.A h.n m.h
  iw : Its w k.A k.n m.w
  pl : p.n ≤ 1000000 ∧ p.n ≤ p.c
  sl : s.n ≤ 1000000 ∧ s.n ≤ s.c
  hl : h.n ≤ 1000000 ∧ h.n ≤ h.c
  wl : k.n ≤ 1000000 ∧ k.n ≤ k.c
  pkg : m.pkg.length ≤ 1000000
  pub : m.pub.length ≤ 1000000
theorem MfR.be {w w' : World} {m : Mf} {p s h k : Hd} (H : MfR w m p s h k) (hb : Below w.heap.size w w') : MfR w' m p s h k :=
  ⟨H.ip.be hb, H.iq.be hb, H.ir.be hb, H.iw.be hb, H.pl, H.sl, H.hl, H.wl, H.pkg, H.pub⟩
def mfC (m : Mf) (p s h k : Hd) : List Value := [.string (bsS m.pkg), .string (bsS m.pub), .int .i64 m.rev, p.v, s.v, h.v, k.v]
def mfV (m : Mf) (p s h k : Hd) : Value := .agg #[.string (bsS m.pkg), .string (bsS m.pub), .int .i64 m.rev, p.v, s.v, h.v, k.v]

theorem ck_name {m : Mf} (h : ¬ (nmL m.pkg = true ∧ nmL m.pub = true)) : checkM m = 10 := by unfold checkM; rw [if_neg h]
theorem ck_rev {m : Mf} (h : nmL m.pkg = true ∧ nmL m.pub = true) (h2 : m.rev < 1 ∨ 999999 < m.rev) : checkM m = 1 := by unfold checkM; rw [if_pos h, if_pos h2]
theorem ck_len {m : Mf} (h : nmL m.pkg = true ∧ nmL m.pub = true) (h2 : ¬ (m.rev < 1 ∨ 999999 < m.rev)) (h3 : 20 < m.p.length + m.s.length + m.h.length + m.w.length) : checkM m = 2 := by
  unfold checkM; rw [if_pos h, if_neg h2, if_pos h3]
theorem ck_each {m : Mf} (h : nmL m.pkg = true ∧ nmL m.pub = true) (h2 : ¬ (m.rev < 1 ∨ 999999 < m.rev)) (h3 : ¬ 20 < m.p.length + m.s.length + m.h.length + m.w.length) {k : Nat} (hk : k < 4) (hp : ∀ j, j < k → eachG j none (m.at j) = 0) (hn : eachG k none (m.at k) ≠ 0) :
    checkM m = eachG k none (m.at k) := by
  unfold checkM
  rw [if_pos h, if_neg h2, if_neg h3]
  match k, hk with
  | 0, _ => rw [if_pos (show eachG 0 none m.p ≠ 0 from hn)]; rfl
  | 1, _ => rw [if_neg (fun h => h (hp 0 (by omega))), if_pos (show eachG 1 none m.s ≠ 0 from hn)]; rfl
  | 2, _ => rw [if_neg (fun h => h (hp 0 (by omega))), if_neg (fun h => h (hp 1 (by omega))), if_pos (show eachG 2 none m.h ≠ 0 from hn)]; rfl
  | 3, _ => rw [if_neg (fun h => h (hp 0 (by omega))), if_neg (fun h => h (hp 1 (by omega))), if_neg (fun h => h (hp 2 (by omega))), if_pos (show eachG 3 none m.w ≠ 0 from hn)]; rfl
theorem ck_end {m : Mf} (h : nmL m.pkg = true ∧ nmL m.pub = true) (h2 : ¬ (m.rev < 1 ∨ 999999 < m.rev)) (h3 : ¬ 20 < m.p.length + m.s.length + m.h.length + m.w.length) (hp : ∀ j, j < 4 → eachG j none (m.at j) = 0) :
    checkM m = if dupM (m.p ++ m.s) = true ∨ dupM m.h = true then 8 else 0 := by
  unfold checkM
  rw [if_pos h, if_neg h2, if_neg h3, if_neg (fun h => h (hp 0 (by omega))), if_neg (fun h => h (hp 1 (by omega))), if_neg (fun h => h (hp 2 (by omega))), if_neg (fun h => h (hp 3 (by omega)))]

theorem eg_both : ∀ args w, (callFunc 30 args).run Tryd.prog w = .ok (.enter 30 args) w := enters_of Tryd.func30 (by kernel_rfl) rfl
theorem eg_hook : ∀ args w, (callFunc 31 args).run Tryd.prog w = .ok (.enter 31 args) w := enters_of Tryd.func31 (by kernel_rfl) rfl
theorem eg_want : ∀ args w, (callFunc 32 args).run Tryd.prog w = .ok (.enter 32 args) w := enters_of Tryd.func32 (by kernel_rfl) rfl

theorem each_0 (b o : Nat) (m : Mf) (p s h k : Hd) (w : World) (hE : Em w w.heap.size) (H : MfR w m p s h k) (hc : w.cell? ⟨b, o, none⟩ = some p.v) (hb : b < w.heap.size) :
    Calls Tryd.prog 24 #[.agg #[.string (bsS wPlug), .pointer (some ⟨b, o, none⟩), .func (.func 30) #[] #[], .bool true]] w fun e w' => e = .returned (.int .i64 (eachG 0 none m.p)) ∧ Below w.heap.size w w' :=
  each_of 0 30 eg_both wPlug true b o _ _ _ m.p w (fun x W ha hb hW => (both_any x W ha hb)) hc hb H.ip H.pl.1
theorem each_1 (b o : Nat) (m : Mf) (p s h k : Hd) (w : World) (hE : Em w w.heap.size) (H : MfR w m p s h k) (hc : w.cell? ⟨b, o, none⟩ = some s.v) (hb : b < w.heap.size) :
    Calls Tryd.prog 24 #[.agg #[.string (bsS wSlot), .pointer (some ⟨b, o, none⟩), .func (.func 30) #[] #[], .bool true]] w fun e w' => e = .returned (.int .i64 (eachG 1 none m.s)) ∧ Below w.heap.size w w' :=
  each_of 1 30 eg_both wSlot true b o _ _ _ m.s w (fun x W ha hb hW => (both_any x W ha hb)) hc hb H.iq H.sl.1
theorem each_2 (b o : Nat) (m : Mf) (p s h k : Hd) (w : World) (hE : Em w w.heap.size) (H : MfR w m p s h k) (hc : w.cell? ⟨b, o, none⟩ = some h.v) (hb : b < w.heap.size) :
    Calls Tryd.prog 24 #[.agg #[.string (bsS wHook), .pointer (some ⟨b, o, none⟩), .func (.func 31) #[] #[], .bool true]] w fun e w' => e = .returned (.int .i64 (eachG 2 none m.h)) ∧ Below w.heap.size w w' :=
  each_of 2 31 eg_hook wHook true b o _ _ _ m.h w (fun x W ha hb hW => (hook_any x W hb (hE.at_ hW hW.size))) hc hb H.ir H.hl.1
theorem each_3 (b o : Nat) (m : Mf) (p s h k : Hd) (w : World) (hE : Em w w.heap.size) (H : MfR w m p s h k) (hc : w.cell? ⟨b, o, none⟩ = some k.v) (hb : b < w.heap.size) :
    Calls Tryd.prog 24 #[.agg #[.string (bsS wWant), .pointer (some ⟨b, o, none⟩), .func (.func 32) #[] #[], .bool false]] w fun e w' => e = .returned (.int .i64 (eachG 3 none m.w)) ∧ Below w.heap.size w w' :=
  each_of 3 32 eg_want wWant false b o _ _ _ m.w w (fun x W ha hb hW => (want_any x W hb (hE.at_ hW hW.size))) hc hb H.iw H.wl.1
theorem list_one (a : Bs) (p : Option Addr) (g : Fn) (b : Bool) : ∀ v ∈ ([.string (bsS a), .pointer p, .func g #[] #[], .bool b] : List Value), v.oneCell' = true := by
  intro v hv
  simp only [List.mem_cons, List.not_mem_nil, or_false] at hv
  rcases hv with rfl | rfl | rfl | rfl <;> rfl
theorem lSize : (Tryd.prog.info? 60).map (·.size) = some 4 := by kernel_rfl
/-- A list's four cells. -/
def listC (b o : Nat) (k : Nat) : List Value := ((listsC b o).drop (k * 4)).take 4
theorem listC_at {b o k : Nat} {j : Nat} {v : Value} (h : (listC b o k)[j]? = some v) : (listsC b o)[k * 4 + j]? = some v := by
  unfold listC at h
  rw [List.getElem?_take] at h
  split at h
  · rw [List.getElem?_drop] at h; exact h
  · cases h
section
variable {ops : Array Oper} {rest : List Oper} {op : Oper} {a : Act} {w : World} {Q : Exit → Act → World → Prop}
theorem ld_l {ad : Addr} {cs : List Value} (hl : cs.length = 4) (hc : ∀ (j : Nat) v, cs[j]? = some v → w.cell? (ad.add j) = some v) (hgd : op.guard = none) (y : Operand) (ho : op.op = .load 60 y) (hy : a.eval y = .pointer (some ad))
    (h : wpList Tryd.prog ops Q rest (a.put op.dst (.agg cs.toArray)) w) : wpList Tryd.prog ops Q (op :: rest) a w :=
  wpList_load_at hgd 60 y ho _ hy cs _ hc Tryd.underlying60 rfl (by rw [lSize, hl]) h
end

def CkPost (w : World) (R : Int) (e : Ending) (w' : World) : Prop := e = .returned (.int .i64 R) ∧ Below w.heap.size w w'
set_option maxRecDepth 100000 in
set_option maxHeartbeats 16000000 in
theorem check_any (m : Mf) (p s h k : Hd) (w : World) (hE : Em w w.heap.size) (H : MfR w m p s h k) :
    Calls Tryd.prog 11 #[mfV m p s h k] w (CkPost w (checkM m)) := by
  obtain ⟨R, hR⟩ : ∃ R, checkM m = R := ⟨_, rfl⟩
  rw [hR]
  have HRR := Sl.mk hR
  clear hR
  obtain ⟨np, hnp⟩ : ∃ b, nmL m.pkg = b := ⟨_, rfl⟩
  obtain ⟨nq, hnq⟩ : ∃ b, nmL m.pub = b := ⟨_, rfl⟩
  have HNP := Sl.mk hnp
  have HNQ := Sl.mk hnq
  have HA := Sl.mk (fun W => nm_any m.pkg W H.pkg)
  have HB := Sl.mk (fun W => nm_any m.pub W H.pub)
  rw [hnp] at HA
  rw [hnq] at HB
  clear hnp hnq
  have HH := Sl.mk H
  have HE := Sl.mk hE
  obtain ⟨T, hT⟩ : ∃ T : Nat, p.n + s.n + h.n + k.n = T := ⟨_, rfl⟩
  have HT := Sl.mk (show m.p.length + m.s.length + m.h.length + m.w.length = T by rw [H.ip.n_, H.iq.n_, H.ir.n_, H.iw.n_, hT])
  have HSZ := Sl.mk (fun b o W => size_any b o p s h k W H.pl.1 H.sl.1 H.hl.1 H.wl.1)
  rw [hT] at HSZ
  clear hT H hE
  obtain ⟨pA, pn, pc⟩ := p
  obtain ⟨sA, sn, sc⟩ := s
  obtain ⟨hA, hn, hc⟩ := h
  obtain ⟨kA, kn, kc⟩ := k
  unfold mfV
  simp only [Hd.v] at HSZ ⊢
  have hB0 := below_al (Below.refl w.heap.size w) (.cells #[.string (bsS m.pkg), .string (bsS m.pub), .int .i64 m.rev, .slice pA pn pc, .slice sA sn sc, .slice hA hn hc, .slice kA kn kc] 28)
  have hBk := Blk.new w 28 #[.string (bsS m.pkg), .string (bsS m.pub), .int .i64 m.rev, .slice pA pn pc, .slice sA sn sc, .slice hA hn hc, .slice kA kn kc]
  have HB0 := Sl.mk hB0
  go_enter Tryd.func11, Tryd.ntmps11
  obtain ⟨w0, hw0⟩ : ∃ w0, w.alloc (.cells #[.string (bsS m.pkg), .string (bsS m.pub), .int .i64 m.rev, .slice pA pn pc, .slice sA sn sc, .slice hA hn hc, .slice kA kn kc] 28) = w0 := ⟨_, rfl⟩
  go_upto_region 1 with fail
  rw [hw0] at HB0 hBk
  have HBK := Sl.mk hBk
  have c0 := hBk.cell 0
  have c1 := hBk.cell 1
  have c2 := hBk.cell 2
  clear hB0 hw0 hBk
  cases np
  · have HC := Sl.mk (show R = 10 by rw [← HRR.out]; exact ck_name (fun h => by rw [HNP.out] at h; cases h.1))
    go_wp2_with fail
    refine (HA.out _).mono ?_
    rintro e w1 ⟨rfl, rfl⟩
    go_wp2_with fail
    go_ret
    exact ⟨by rw [HC.out]; rfl, HB0.out⟩
  cases nq
  · have HC := Sl.mk (show R = 10 by rw [← HRR.out]; exact ck_name (fun h => by rw [HNQ.out] at h; cases h.2))
    go_wp2_with fail
    refine (HA.out _).mono ?_
    rintro e w1 ⟨rfl, rfl⟩
    go_wp2_with fail
    refine (HB.out _).mono ?_
    rintro e w1 ⟨rfl, rfl⟩
    go_wp2_with fail
    go_ret
    exact ⟨by rw [HC.out]; rfl, HB0.out⟩
  have HNM := Sl.mk (show nmL m.pkg = true ∧ nmL m.pub = true from ⟨HNP.out, HNQ.out⟩)
  by_cases hr1 : m.rev < 1
  · have HC := Sl.mk (show R = 1 by rw [← HRR.out]; exact ck_rev HNM.out (.inl hr1))
    go_wp2_with fail
    refine (HA.out _).mono ?_
    rintro e w1 ⟨rfl, rfl⟩
    go_wp2_with fail
    refine (HB.out _).mono ?_
    rintro e w1 ⟨rfl, rfl⟩
    go_wp2_with fail
    go_ret
    exact ⟨by rw [HC.out]; rfl, HB0.out⟩
  by_cases hr2 : 999999 < m.rev
  · have HC := Sl.mk (show R = 1 by rw [← HRR.out]; exact ck_rev HNM.out (.inr hr2))
    go_wp2_with fail
    refine (HA.out _).mono ?_
    rintro e w1 ⟨rfl, rfl⟩
    go_wp2_with fail
    refine (HB.out _).mono ?_
    rintro e w1 ⟨rfl, rfl⟩
    go_wp2_with fail
    go_ret
    exact ⟨by rw [HC.out]; rfl, HB0.out⟩
  have HRV := Sl.mk (show ¬ (m.rev < 1 ∨ 999999 < m.rev) by omega)
  have HSZ1 := Sl.mk (HSZ.out w.heap.size 0 w0 (HBK.out.cell 3) (HBK.out.cell 4) (HBK.out.cell 5) (HBK.out.cell 6))
  by_cases ht : 20 < T
  · have HC := Sl.mk (show R = 2 by rw [← HRR.out]; exact ck_len HNM.out HRV.out (by rw [HT.out]; exact ht))
    have ht' : (20 : Int) < (T : Int) := by omega
    go_wp2_with fail
    refine (HA.out _).mono ?_
    rintro e w1 ⟨rfl, rfl⟩
    go_wp2_with fail
    refine (HB.out _).mono ?_
    rintro e w1 ⟨rfl, rfl⟩
    go_wp2_with fail
    refine HSZ1.out.mono ?_
    rintro e w2 ⟨rfl, hb2⟩
    have HB2 := Sl.mk (below_tr HB0.out hb2)
    clear hb2
    go_wp2_with fail
    go_ret
    exact ⟨by rw [HC.out]; rfl, HB2.out⟩
  have HLN := Sl.mk (show ¬ 20 < m.p.length + m.s.length + m.h.length + m.w.length by rw [HT.out]; exact ht)
  have ht' : ¬ (20 : Int) < (T : Int) := by omega
  go_wp2_with fail
  refine (HA.out _).mono ?_
  rintro e w1 ⟨rfl, rfl⟩
  go_wp2_with fail
  refine (HB.out _).mono ?_
  rintro e w1 ⟨rfl, rfl⟩
  go_wp2_with fail
  refine HSZ1.out.mono ?_
  rintro e w2 ⟨rfl, hb2⟩
  have HB2 := Sl.mk (below_tr HB0.out hb2)
  have HK2 := Sl.mk (HBK.out.be hb2)
  clear hb2 c0 c1 c2
  go_wp2_with fail
  refine (lists_any w.heap.size 0 w2).mono ?_
  rintro e w3 ⟨rfl, hb3, hs3, hcl⟩
  have HB3 := Sl.mk (below_tr HB2.out hb3)
  have HK3 := Sl.mk (HK2.out.be hb3)
  have HCL := Sl.mk hcl
  have HL3 := Sl.mk (show w2.heap.size < w3.heap.size by omega)
  clear hb3 hs3 hcl
  go_wp2_with fail
  go_loopg [31] 4 (fun q v31 wr => ∃ i : Nat, q = 4 - i ∧ i ≤ 4 ∧ v31 = .int .i64 i ∧ Sl (Below w3.heap.size w3 wr) ∧ Sl (∀ j, j < i → eachG j none (m.at j) = 0))
  case atStart => exact ⟨0, rfl, by omega, rfl, ⟨Below.refl _ _⟩, ⟨fun j hj => absurd hj (Nat.not_lt_zero _)⟩⟩
  case round =>
    obtain ⟨i, hq, hi, rfl, HBr, HD⟩ := hrel
    have HBw := Sl.mk (below_tr HB3.out HBr.out)
    have HKr := Sl.mk (HK3.out.below HBr.out HK3.out.lt)
    have hls := HL3.out
    match i, hi with
    | 0, _ =>
      have hld : ∀ (j : Nat) v, ([.string (bsS wPlug), .pointer (some ⟨w.heap.size, 3, none⟩), .func (.func 30) #[] #[], .bool true] : List Value)[j]? = some v → wr.cell? ((⟨w2.heap.size, 0, none⟩ : Addr).add j) = some v := fun j v hj => by
        rw [Addr.add_lit, HBr.out.cell (p := ⟨w2.heap.size, 0 + j, none⟩) hls]
        exact HCL.out (0 * 4 + j) v (listC_at (b := w.heap.size) (o := 0) (k := 0) hj)
      have HEc := Sl.mk (fun (w5 : World) (hb5 : Below wr.heap.size wr w5) => each_0 w.heap.size 3 m _ _ _ _ w5 (HE.out.at_ (below_tr HBw.out hb5) (below_tr HBw.out hb5).size) (HH.out.be (below_tr HBw.out hb5)) ((HKr.out.be hb5).cell 3) (HKr.out.be hb5).lt)
      have HLB := Sl.mk (fun (w5 : World) (hB5 : Blk w5 wr.heap.size 60 ([.string (bsS wPlug), .pointer (some ⟨w.heap.size, 3, none⟩), .func (.func 30) #[] #[], .bool true] : List Value).toArray) => show ∀ (j : Nat) v, ([.string (bsS wPlug), .pointer (some ⟨w.heap.size, 3, none⟩), .func (.func 30) #[] #[], .bool true] : List Value)[j]? = some v → w5.cell? ((⟨wr.heap.size, 0, none⟩ : Addr).add j) = some v from fun j v hj => by
        rw [Addr.add_lit, Nat.zero_add, hB5.cell j, List.getElem?_toArray]; exact hj)
      obtain ⟨E, hEE⟩ : ∃ E, eachG 0 none m.p = E := ⟨_, rfl⟩
      rw [hEE] at HEc
      by_cases h0 : E = 0
      · have HD2 := Sl.mk (show ∀ j, j < 1 → eachG j none (m.at j) = 0 from fun j hj => by
          rcases Nat.lt_succ_iff_lt_or_eq.1 hj with h | rfl
          · exact HD.out j h
          · exact hEE.trans h0)
        subst h0
        clear hEE
        go_wp2_with (first
          | (refine ld_l rfl hld rfl (.tmp 33) rfl rfl ?_)
          | (refine wpList_store_fresh rfl 60 (.tmp 4) (.tmp 34) rfl 60 [.string ⟨#[]⟩, .pointer none, .nilFunc, .bool false] [.string (bsS wPlug), .pointer (some ⟨w.heap.size, 3, none⟩), .func (.func 30) #[] #[], .bool true] _ rfl rfl rfl rfl (by rw [lSize]; rfl) (list_one _ _ _ _) ?_; intro w5 hB5 hb5 hs5; have HL5 := Sl.mk (HLB.out w5 hB5); have HBa := Sl.mk (HBw.out.trans (hb5.mono HBw.out.size)); have HBb := Sl.mk (HBr.out.trans (hb5.mono HBr.out.size)); have HE5 := Sl.mk (HEc.out w5 hb5); clear hB5 hb5 hs5)
          | (refine ld_l rfl HL5.out rfl (.tmp 4) rfl rfl ?_)
          | (go_at_call 24; refine HE5.out.mono ?_; rintro e w4 ⟨rfl, hb4⟩; have HB4 := Sl.mk (HBb.out.trans (hb4.mono HBb.out.size)); clear hb4))
        go_roundg 3
        case measure => omega
        case rel => exact ⟨1, rfl, by omega, by go_num, HB4, HD2⟩
      · have HC := Sl.mk (show R = E by
          rw [← HRR.out, ck_each HNM.out HRV.out HLN.out (k := 0) (by omega) HD.out (by show eachG 0 none m.p ≠ 0; rw [hEE]; exact h0)]; exact hEE)
        have h0' : (E != 0) = true := by simpa using h0
        clear hEE h0
        go_wp2_with (first
          | (refine ld_l rfl hld rfl (.tmp 33) rfl rfl ?_)
          | (refine wpList_store_fresh rfl 60 (.tmp 4) (.tmp 34) rfl 60 [.string ⟨#[]⟩, .pointer none, .nilFunc, .bool false] [.string (bsS wPlug), .pointer (some ⟨w.heap.size, 3, none⟩), .func (.func 30) #[] #[], .bool true] _ rfl rfl rfl rfl (by rw [lSize]; rfl) (list_one _ _ _ _) ?_; intro w5 hB5 hb5 hs5; have HL5 := Sl.mk (HLB.out w5 hB5); have HBa := Sl.mk (HBw.out.trans (hb5.mono HBw.out.size)); have HBb := Sl.mk (HBr.out.trans (hb5.mono HBr.out.size)); have HE5 := Sl.mk (HEc.out w5 hb5); clear hB5 hb5 hs5)
          | (refine ld_l rfl HL5.out rfl (.tmp 4) rfl rfl ?_)
          | (go_at_call 24; refine HE5.out.mono ?_; rintro e w4 ⟨rfl, hb4⟩; have HB4 := Sl.mk (HBa.out.trans (hb4.mono HBa.out.size)); clear hb4))
        go_ret
        exact ⟨by rw [HC.out]; rfl, HB4.out⟩
    | 1, _ =>
      have hld : ∀ (j : Nat) v, ([.string (bsS wSlot), .pointer (some ⟨w.heap.size, 4, none⟩), .func (.func 30) #[] #[], .bool true] : List Value)[j]? = some v → wr.cell? ((⟨w2.heap.size, 4, none⟩ : Addr).add j) = some v := fun j v hj => by
        rw [Addr.add_lit, HBr.out.cell (p := ⟨w2.heap.size, 4 + j, none⟩) hls]
        exact HCL.out (1 * 4 + j) v (listC_at (b := w.heap.size) (o := 0) (k := 1) hj)
      have HEc := Sl.mk (fun (w5 : World) (hb5 : Below wr.heap.size wr w5) => each_1 w.heap.size 4 m _ _ _ _ w5 (HE.out.at_ (below_tr HBw.out hb5) (below_tr HBw.out hb5).size) (HH.out.be (below_tr HBw.out hb5)) ((HKr.out.be hb5).cell 4) (HKr.out.be hb5).lt)
      have HLB := Sl.mk (fun (w5 : World) (hB5 : Blk w5 wr.heap.size 60 ([.string (bsS wSlot), .pointer (some ⟨w.heap.size, 4, none⟩), .func (.func 30) #[] #[], .bool true] : List Value).toArray) => show ∀ (j : Nat) v, ([.string (bsS wSlot), .pointer (some ⟨w.heap.size, 4, none⟩), .func (.func 30) #[] #[], .bool true] : List Value)[j]? = some v → w5.cell? ((⟨wr.heap.size, 0, none⟩ : Addr).add j) = some v from fun j v hj => by
        rw [Addr.add_lit, Nat.zero_add, hB5.cell j, List.getElem?_toArray]; exact hj)
      obtain ⟨E, hEE⟩ : ∃ E, eachG 1 none m.s = E := ⟨_, rfl⟩
      rw [hEE] at HEc
      by_cases h0 : E = 0
      · have HD2 := Sl.mk (show ∀ j, j < 2 → eachG j none (m.at j) = 0 from fun j hj => by
          rcases Nat.lt_succ_iff_lt_or_eq.1 hj with h | rfl
          · exact HD.out j h
          · exact hEE.trans h0)
        subst h0
        clear hEE
        go_wp2_with (first
          | (refine ld_l rfl hld rfl (.tmp 33) rfl rfl ?_)
          | (refine wpList_store_fresh rfl 60 (.tmp 4) (.tmp 34) rfl 60 [.string ⟨#[]⟩, .pointer none, .nilFunc, .bool false] [.string (bsS wSlot), .pointer (some ⟨w.heap.size, 4, none⟩), .func (.func 30) #[] #[], .bool true] _ rfl rfl rfl rfl (by rw [lSize]; rfl) (list_one _ _ _ _) ?_; intro w5 hB5 hb5 hs5; have HL5 := Sl.mk (HLB.out w5 hB5); have HBa := Sl.mk (HBw.out.trans (hb5.mono HBw.out.size)); have HBb := Sl.mk (HBr.out.trans (hb5.mono HBr.out.size)); have HE5 := Sl.mk (HEc.out w5 hb5); clear hB5 hb5 hs5)
          | (refine ld_l rfl HL5.out rfl (.tmp 4) rfl rfl ?_)
          | (go_at_call 24; refine HE5.out.mono ?_; rintro e w4 ⟨rfl, hb4⟩; have HB4 := Sl.mk (HBb.out.trans (hb4.mono HBb.out.size)); clear hb4))
        go_roundg 2
        case measure => omega
        case rel => exact ⟨2, rfl, by omega, by go_num, HB4, HD2⟩
      · have HC := Sl.mk (show R = E by
          rw [← HRR.out, ck_each HNM.out HRV.out HLN.out (k := 1) (by omega) HD.out (by show eachG 1 none m.s ≠ 0; rw [hEE]; exact h0)]; exact hEE)
        have h0' : (E != 0) = true := by simpa using h0
        clear hEE h0
        go_wp2_with (first
          | (refine ld_l rfl hld rfl (.tmp 33) rfl rfl ?_)
          | (refine wpList_store_fresh rfl 60 (.tmp 4) (.tmp 34) rfl 60 [.string ⟨#[]⟩, .pointer none, .nilFunc, .bool false] [.string (bsS wSlot), .pointer (some ⟨w.heap.size, 4, none⟩), .func (.func 30) #[] #[], .bool true] _ rfl rfl rfl rfl (by rw [lSize]; rfl) (list_one _ _ _ _) ?_; intro w5 hB5 hb5 hs5; have HL5 := Sl.mk (HLB.out w5 hB5); have HBa := Sl.mk (HBw.out.trans (hb5.mono HBw.out.size)); have HBb := Sl.mk (HBr.out.trans (hb5.mono HBr.out.size)); have HE5 := Sl.mk (HEc.out w5 hb5); clear hB5 hb5 hs5)
          | (refine ld_l rfl HL5.out rfl (.tmp 4) rfl rfl ?_)
          | (go_at_call 24; refine HE5.out.mono ?_; rintro e w4 ⟨rfl, hb4⟩; have HB4 := Sl.mk (HBa.out.trans (hb4.mono HBa.out.size)); clear hb4))
        go_ret
        exact ⟨by rw [HC.out]; rfl, HB4.out⟩
    | 2, _ =>
      have hld : ∀ (j : Nat) v, ([.string (bsS wHook), .pointer (some ⟨w.heap.size, 5, none⟩), .func (.func 31) #[] #[], .bool true] : List Value)[j]? = some v → wr.cell? ((⟨w2.heap.size, 8, none⟩ : Addr).add j) = some v := fun j v hj => by
        rw [Addr.add_lit, HBr.out.cell (p := ⟨w2.heap.size, 8 + j, none⟩) hls]
        exact HCL.out (2 * 4 + j) v (listC_at (b := w.heap.size) (o := 0) (k := 2) hj)
      have HEc := Sl.mk (fun (w5 : World) (hb5 : Below wr.heap.size wr w5) => each_2 w.heap.size 5 m _ _ _ _ w5 (HE.out.at_ (below_tr HBw.out hb5) (below_tr HBw.out hb5).size) (HH.out.be (below_tr HBw.out hb5)) ((HKr.out.be hb5).cell 5) (HKr.out.be hb5).lt)
      have HLB := Sl.mk (fun (w5 : World) (hB5 : Blk w5 wr.heap.size 60 ([.string (bsS wHook), .pointer (some ⟨w.heap.size, 5, none⟩), .func (.func 31) #[] #[], .bool true] : List Value).toArray) => show ∀ (j : Nat) v, ([.string (bsS wHook), .pointer (some ⟨w.heap.size, 5, none⟩), .func (.func 31) #[] #[], .bool true] : List Value)[j]? = some v → w5.cell? ((⟨wr.heap.size, 0, none⟩ : Addr).add j) = some v from fun j v hj => by
        rw [Addr.add_lit, Nat.zero_add, hB5.cell j, List.getElem?_toArray]; exact hj)
      obtain ⟨E, hEE⟩ : ∃ E, eachG 2 none m.h = E := ⟨_, rfl⟩
      rw [hEE] at HEc
      by_cases h0 : E = 0
      · have HD2 := Sl.mk (show ∀ j, j < 3 → eachG j none (m.at j) = 0 from fun j hj => by
          rcases Nat.lt_succ_iff_lt_or_eq.1 hj with h | rfl
          · exact HD.out j h
          · exact hEE.trans h0)
        subst h0
        clear hEE
        go_wp2_with (first
          | (refine ld_l rfl hld rfl (.tmp 33) rfl rfl ?_)
          | (refine wpList_store_fresh rfl 60 (.tmp 4) (.tmp 34) rfl 60 [.string ⟨#[]⟩, .pointer none, .nilFunc, .bool false] [.string (bsS wHook), .pointer (some ⟨w.heap.size, 5, none⟩), .func (.func 31) #[] #[], .bool true] _ rfl rfl rfl rfl (by rw [lSize]; rfl) (list_one _ _ _ _) ?_; intro w5 hB5 hb5 hs5; have HL5 := Sl.mk (HLB.out w5 hB5); have HBa := Sl.mk (HBw.out.trans (hb5.mono HBw.out.size)); have HBb := Sl.mk (HBr.out.trans (hb5.mono HBr.out.size)); have HE5 := Sl.mk (HEc.out w5 hb5); clear hB5 hb5 hs5)
          | (refine ld_l rfl HL5.out rfl (.tmp 4) rfl rfl ?_)
          | (go_at_call 24; refine HE5.out.mono ?_; rintro e w4 ⟨rfl, hb4⟩; have HB4 := Sl.mk (HBb.out.trans (hb4.mono HBb.out.size)); clear hb4))
        go_roundg 1
        case measure => omega
        case rel => exact ⟨3, rfl, by omega, by go_num, HB4, HD2⟩
      · have HC := Sl.mk (show R = E by
          rw [← HRR.out, ck_each HNM.out HRV.out HLN.out (k := 2) (by omega) HD.out (by show eachG 2 none m.h ≠ 0; rw [hEE]; exact h0)]; exact hEE)
        have h0' : (E != 0) = true := by simpa using h0
        clear hEE h0
        go_wp2_with (first
          | (refine ld_l rfl hld rfl (.tmp 33) rfl rfl ?_)
          | (refine wpList_store_fresh rfl 60 (.tmp 4) (.tmp 34) rfl 60 [.string ⟨#[]⟩, .pointer none, .nilFunc, .bool false] [.string (bsS wHook), .pointer (some ⟨w.heap.size, 5, none⟩), .func (.func 31) #[] #[], .bool true] _ rfl rfl rfl rfl (by rw [lSize]; rfl) (list_one _ _ _ _) ?_; intro w5 hB5 hb5 hs5; have HL5 := Sl.mk (HLB.out w5 hB5); have HBa := Sl.mk (HBw.out.trans (hb5.mono HBw.out.size)); have HBb := Sl.mk (HBr.out.trans (hb5.mono HBr.out.size)); have HE5 := Sl.mk (HEc.out w5 hb5); clear hB5 hb5 hs5)
          | (refine ld_l rfl HL5.out rfl (.tmp 4) rfl rfl ?_)
          | (go_at_call 24; refine HE5.out.mono ?_; rintro e w4 ⟨rfl, hb4⟩; have HB4 := Sl.mk (HBa.out.trans (hb4.mono HBa.out.size)); clear hb4))
        go_ret
        exact ⟨by rw [HC.out]; rfl, HB4.out⟩
    | 3, _ =>
      have hld : ∀ (j : Nat) v, ([.string (bsS wWant), .pointer (some ⟨w.heap.size, 6, none⟩), .func (.func 32) #[] #[], .bool false] : List Value)[j]? = some v → wr.cell? ((⟨w2.heap.size, 12, none⟩ : Addr).add j) = some v := fun j v hj => by
        rw [Addr.add_lit, HBr.out.cell (p := ⟨w2.heap.size, 12 + j, none⟩) hls]
        exact HCL.out (3 * 4 + j) v (listC_at (b := w.heap.size) (o := 0) (k := 3) hj)
      have HEc := Sl.mk (fun (w5 : World) (hb5 : Below wr.heap.size wr w5) => each_3 w.heap.size 6 m _ _ _ _ w5 (HE.out.at_ (below_tr HBw.out hb5) (below_tr HBw.out hb5).size) (HH.out.be (below_tr HBw.out hb5)) ((HKr.out.be hb5).cell 6) (HKr.out.be hb5).lt)
      have HLB := Sl.mk (fun (w5 : World) (hB5 : Blk w5 wr.heap.size 60 ([.string (bsS wWant), .pointer (some ⟨w.heap.size, 6, none⟩), .func (.func 32) #[] #[], .bool false] : List Value).toArray) => show ∀ (j : Nat) v, ([.string (bsS wWant), .pointer (some ⟨w.heap.size, 6, none⟩), .func (.func 32) #[] #[], .bool false] : List Value)[j]? = some v → w5.cell? ((⟨wr.heap.size, 0, none⟩ : Addr).add j) = some v from fun j v hj => by
        rw [Addr.add_lit, Nat.zero_add, hB5.cell j, List.getElem?_toArray]; exact hj)
      obtain ⟨E, hEE⟩ : ∃ E, eachG 3 none m.w = E := ⟨_, rfl⟩
      rw [hEE] at HEc
      by_cases h0 : E = 0
      · have HD2 := Sl.mk (show ∀ j, j < 4 → eachG j none (m.at j) = 0 from fun j hj => by
          rcases Nat.lt_succ_iff_lt_or_eq.1 hj with h | rfl
          · exact HD.out j h
          · exact hEE.trans h0)
        subst h0
        clear hEE
        go_wp2_with (first
          | (refine ld_l rfl hld rfl (.tmp 33) rfl rfl ?_)
          | (refine wpList_store_fresh rfl 60 (.tmp 4) (.tmp 34) rfl 60 [.string ⟨#[]⟩, .pointer none, .nilFunc, .bool false] [.string (bsS wWant), .pointer (some ⟨w.heap.size, 6, none⟩), .func (.func 32) #[] #[], .bool false] _ rfl rfl rfl rfl (by rw [lSize]; rfl) (list_one _ _ _ _) ?_; intro w5 hB5 hb5 hs5; have HL5 := Sl.mk (HLB.out w5 hB5); have HBa := Sl.mk (HBw.out.trans (hb5.mono HBw.out.size)); have HBb := Sl.mk (HBr.out.trans (hb5.mono HBr.out.size)); have HE5 := Sl.mk (HEc.out w5 hb5); clear hB5 hb5 hs5)
          | (refine ld_l rfl HL5.out rfl (.tmp 4) rfl rfl ?_)
          | (go_at_call 24; refine HE5.out.mono ?_; rintro e w4 ⟨rfl, hb4⟩; have HB4 := Sl.mk (HBb.out.trans (hb4.mono HBb.out.size)); clear hb4))
        go_roundg 0
        case measure => omega
        case rel => exact ⟨4, rfl, by omega, by go_num, HB4, HD2⟩
      · have HC := Sl.mk (show R = E by
          rw [← HRR.out, ck_each HNM.out HRV.out HLN.out (k := 3) (by omega) HD.out (by show eachG 3 none m.w ≠ 0; rw [hEE]; exact h0)]; exact hEE)
        have h0' : (E != 0) = true := by simpa using h0
        clear hEE h0
        go_wp2_with (first
          | (refine ld_l rfl hld rfl (.tmp 33) rfl rfl ?_)
          | (refine wpList_store_fresh rfl 60 (.tmp 4) (.tmp 34) rfl 60 [.string ⟨#[]⟩, .pointer none, .nilFunc, .bool false] [.string (bsS wWant), .pointer (some ⟨w.heap.size, 6, none⟩), .func (.func 32) #[] #[], .bool false] _ rfl rfl rfl rfl (by rw [lSize]; rfl) (list_one _ _ _ _) ?_; intro w5 hB5 hb5 hs5; have HL5 := Sl.mk (HLB.out w5 hB5); have HBa := Sl.mk (HBw.out.trans (hb5.mono HBw.out.size)); have HBb := Sl.mk (HBr.out.trans (hb5.mono HBr.out.size)); have HE5 := Sl.mk (HEc.out w5 hb5); clear hB5 hb5 hs5)
          | (refine ld_l rfl HL5.out rfl (.tmp 4) rfl rfl ?_)
          | (go_at_call 24; refine HE5.out.mono ?_; rintro e w4 ⟨rfl, hb4⟩; have HB4 := Sl.mk (HBa.out.trans (hb4.mono HBa.out.size)); clear hb4))
        go_ret
        exact ⟨by rw [HC.out]; rfl, HB4.out⟩
    | 4, _ =>
      have HC := Sl.mk (show R = if dupM (m.p ++ m.s) = true ∨ dupM m.h = true then 8 else 0 by rw [← HRR.out]; exact ck_end HNM.out HRV.out HLN.out HD.out)
      have c3 := HKr.out.cell 3
      have c4 := HKr.out.cell 4
      have hTT : pn + sn + hn + kn ≤ 20 := by
        have h1 := HH.out.ip.n_
        have h2 := HH.out.iq.n_
        have h3 := HH.out.ir.n_
        have h4 := HH.out.iw.n_
        simp only at h1 h2 h3 h4
        have := HLN.out
        omega
      have hwa := below_al (Below.refl wr.heap.size wr) (.cells #[.slice pA pn pc, .slice sA sn sc] 26)
      have HBa := Sl.mk (HBw.out.trans (hwa.mono HBw.out.size))
      have HKa := Sl.mk (HKr.out.be hwa)
      have HCc := Sl.mk (concat_any wr.heap.size pA sA pn sn pc sc m.p m.s (wr.alloc (.cells #[.slice pA pn pc, .slice sA sn sc] 26)) (by omega) (by omega) (HH.out.be HBa.out).ip (HH.out.be HBa.out).iq (by simp) (by simp) (by simp))
      clear hwa
      obtain ⟨d1, hd1⟩ : ∃ d, dupM (m.p ++ m.s) = d := ⟨_, rfl⟩
      obtain ⟨d2, hd2⟩ : ∃ d, dupM m.h = d := ⟨_, rfl⟩
      rw [hd1, hd2] at HC
      have HD1 := Sl.mk hd1
      have HD2 := Sl.mk hd2
      clear hd1 hd2
      go_wp2_with fail
      refine HCc.out.mono ?_
      rintro e w6 ⟨A, c, rfl, hown, hb6⟩
      have HB6 := Sl.mk (HBa.out.trans (hb6.mono HBa.out.size))
      have HK6 := Sl.mk (HKa.out.be hb6)
      have HT1 := Sl.mk (twice_any A (pn + sn) c (m.p ++ m.s) w6 (by omega) (rowCap hown).1 ⟨hown.reads, fun x hx => by
        rcases List.mem_append.1 hx with h | h
        · exact HH.out.ip.len x h
        · exact HH.out.iq.len x h⟩)
      rw [HD1.out] at HT1
      clear hown hb6 c3 c4
      go_wp2_with fail
      refine HT1.out.mono ?_
      rintro e w7 ⟨rfl, hb7⟩
      have HB7 := Sl.mk (HB6.out.trans (hb7.mono HB6.out.size))
      have HK7 := Sl.mk (HK6.out.be hb7)
      have c5 := HK7.out.cell 5
      clear hb7
      cases d1
      · have HT2 := Sl.mk (twice_any hA hn hc m.h w7 (by omega) HH.out.hl.2 (HH.out.be HB7.out).ir)
        rw [HD2.out] at HT2
        go_wp2_with fail
        refine HT2.out.mono ?_
        rintro e w8 ⟨rfl, hb8⟩
        have HB8 := Sl.mk (HB7.out.trans (hb8.mono HB7.out.size))
        clear hb8
        cases d2
        · go_wp2_with fail
          go_ret
          exact ⟨by rw [HC.out]; rfl, HB8.out⟩
        · go_wp2_with fail
          go_ret
          exact ⟨by rw [HC.out]; rfl, HB8.out⟩
      · go_wp2_with fail
        go_ret
        exact ⟨by rw [HC.out]; rfl, HB7.out⟩
end Go.Proofs.YtmgblbkmbiiofaaDoor

namespace Go.Proofs.YtmgblbkmbiiofaaDoor
open Go.RowKit
attribute [local go_sem ↓] Go.wp_at_zero Go.wp_at_succ
set_option linter.unusedVariables false

/-- The lines' cells lie in a block that is older than a base. -/
structure Lns (w : World) (lb : Nat) (L : List Bs) : Prop where
  cells : ∀ (j : Nat) s, L[j]? = some s → w.cell? ⟨lb, j, none⟩ = some (.string (bsS s))
  lt : lb < w.heap.size
  len : ∀ s ∈ L, s.length ≤ 1000000
  n : L.length ≤ 1000000
def rdC (lb N : Nat) (no : Int) (r : Array Value) : Array Value := #[.slice (some ⟨lb, 0, none⟩) N N, .int .i64 no] ++ r
def NextPost (w : World) (rb lb : Nat) (L : List Bs) (no : Nat) (c2 c3 c4 c5 c6 c7 c8 : Value) (e : Ending) (w' : World) : Prop :=
  w.grownBy w' (some rb) ∧ Blk w' rb 73 #[.slice (some ⟨lb, 0, none⟩) L.length L.length, .int .i64 ((min no L.length + 1 : Nat) : Int), c2, c3, c4, c5, c6, c7, c8] ∧
  ((L.length ≤ no ∧ e = .returned (.tuple #[.slice none 0 0, .bool false])) ∨
   (∃ s g, L[no]? = some s ∧ e = .returned (.tuple #[.slice (some ⟨g, 0, none⟩) (Lib.split s [32]).length (Lib.split s [32]).length, .bool true]) ∧ w.heap.size ≤ g ∧ g < w'.heap.size ∧
      Blk w' g 9 (strsA (Lib.split s [32])).toArray))
set_option maxRecDepth 100000 in
set_option maxHeartbeats 4000000 in
theorem next_any (rb lb : Nat) (L : List Bs) (no : Nat) (c2 c3 c4 c5 c6 c7 c8 : Value) (w : World) (hno : no ≤ 1000000) (hL : Lns w lb L) (hne : lb ≠ rb) (hM : Em w rb)
    (hB : Blk w rb 73 #[.slice (some ⟨lb, 0, none⟩) L.length L.length, .int .i64 (no : Nat), c2, c3, c4, c5, c6, c7, c8]) :
    Calls Tryd.prog 37 #[.pointer (some ⟨rb, 0, none⟩)] w (NextPost w rb lb L no c2 c3 c4 c5 c6 c7 c8) := by
  obtain ⟨N, hN⟩ : ∃ N, L.length = N := ⟨_, rfl⟩
  obtain ⟨k, hk⟩ : ∃ k : Nat, min no N = k := ⟨_, rfl⟩
  have HK := Sl.mk hk
  have HL := Sl.mk hL
  have HNN := Sl.mk hN
  have hN1 : N ≤ 1000000 := by rw [← hN]; exact hL.n
  rw [hN] at hB
  have c0 := hB.cell 0
  have c1 := hB.cell 1
  have hmin : min (no : Int) (N : Int) = (k : Nat) := by omega
  have hwr : IntKind.i64.wrap ((k : Int) + 1) = ((k + 1 : Nat) : Int) := Go.IntWalk.i64_in _ (by omega)
  have f1 := hB.frozen 1
  have HB := Sl.mk hB
  have HM := Sl.mk hM
  clear hL hN hk hB hM
  go_enter Tryd.func37, Tryd.ntmps37
  go_wp2_with fail
  refine wp_region_quiet_tail 14 (by kernel_rfl) (by kernel_rfl) ?_
  simp only [List.take_succ_cons, List.take_zero, List.drop_succ_cons, List.drop_zero]
  repeat (any_goals (first | go_big_quiet_step (fail) | quiet_step (fail)))
  refine wpQuiet_nil ?_
  intro _ hw'
  obtain ⟨nq, hw''⟩ := hw'
  subst hw''
  obtain ⟨w1, hw1⟩ : ∃ w1, ((w.drewN nq).setCell ⟨rb, 1, none⟩ (.int .i64 ((k : Int) + 1))) = w1 := ⟨_, rfl⟩
  have hb1 : Blk w1 rb 73 #[.slice (some ⟨lb, 0, none⟩) N N, .int .i64 ((k : Int) + 1), c2, c3, c4, c5, c6, c7, c8] := by rw [← hw1]; exact blk_set _ _ _ _ 1 _ _ (HB.out.drewN nq) rfl
  have hg1 : w.grownBy w1 (some rb) := by rw [← hw1]; exact only_setCell (only_drewN (only_refl _ _) _) _ _
  have HG1 := Sl.mk hg1
  have HB1 := Sl.mk hb1
  have d0 := hb1.cell 0
  have d1 := hb1.cell 1
  clear hg1 hb1
  go_upto_region 2 with fail
  clear hw1
  by_cases hlt : no < N
  · obtain rfl : k = no := by have := HK.out; omega
    have hk1 : ¬ (N : Int) < (k : Int) + 1 := by omega
    obtain ⟨s, hs⟩ : ∃ s, L[k]? = some s := ⟨_, List.getElem?_eq_getElem (by rw [HNN.out]; exact hlt)⟩
    have hcell : w1.cell? ⟨lb, k, none⟩ = some (.string (bsS s)) := HG1.out.cell (HL.out.cells k s hs) (fun e => hne (Option.some.inj e))
    have HS := Sl.mk hs
    have hsub : IntKind.i64.wrap ((k : Int) + 1 - 1) = (k : Nat) := by rw [show (k : Int) + 1 - 1 = (k : Nat) by omega]; exact Go.IntWalk.i64_in _ (by omega)
    have hltz : (k : Int) < (N : Int) := by omega
    clear hs
    go_quiet (fail)
    go_wp2_with fail
    refine wp_region_quiet_tail 11 (by kernel_rfl) (by kernel_rfl) ?_
    simp only [List.take_succ_cons, List.take_zero, List.drop_succ_cons, List.drop_zero]
    repeat (any_goals (first | go_big_quiet_step (fail) | quiet_step (fail)))
    refine wpQuiet_nil ?_
    intro _ hw'
    obtain ⟨nq, hw''⟩ := hw'
    subst hw''
    have HSp := Sl.mk (fun (W : World) (hW : w.grownBy W (some rb)) => splits_any s 32 W (HL.out.len s (List.mem_of_getElem? HS.out)) (HM.out.be ((Below.refl rb w).grown hW (Nat.le_of_lt HB.out.lt) (fun g hg => by injection hg with hg; omega))).mxw)
    go_wp2_with fail
    refine (HSp.out _ (only_drewN HG1.out _)).mono ?_
    rintro e w2 ⟨rfl, rfl⟩
    go_wp2_with fail
    go_ret2
    refine ⟨only_alloc (only_drewN HG1.out _) _, ?_, .inr ⟨s, _, HS.out, rfl, HG1.out.size, by simp, ?_⟩⟩
    · rw [HNN.out, HK.out]
      exact (HB1.out.drewN _).alloc _
    · exact Blk.new' (by simp)
  · obtain rfl : k = N := by have := HK.out; omega
    have hk1 : (k : Int) < (k : Int) + 1 := by omega
    go_quiet (fail)
    go_wp2_with fail
    go_ret2
    refine ⟨only_drewN HG1.out _, ?_, .inl ⟨by rw [HNN.out]; omega, rfl⟩⟩
    rw [HNN.out, HK.out]
    exact HB1.out.drewN _
end Go.Proofs.YtmgblbkmbiiofaaDoor

namespace Go.Proofs.YtmgblbkmbiiofaaDoor
open Go.RowKit
attribute [local go_sem ↓] Go.wp_at_zero Go.wp_at_succ
set_option linter.unusedVariables false

def headR (L : List Bs) (no : Nat) (word : Bs) : Option Bs := (L[no]?).bind (headM word)
def HeadPost (w : World) (rb lb : Nat) (L : List Bs) (no : Nat) (c2 c3 c4 c5 c6 c7 c8 : Value) (r : Option Bs) (e : Ending) (w' : World) : Prop :=
  w.grownBy w' (some rb) ∧ Blk w' rb 73 #[.slice (some ⟨lb, 0, none⟩) L.length L.length, .int .i64 ((min no L.length + 1 : Nat) : Int), c2, c3, c4, c5, c6, c7, c8] ∧
  e = .returned (.tuple #[.string (bsS (r.getD [])), .bool r.isSome])
theorem headM_len {w l : Bs} (h : (Lib.split l [32]).length ≠ 2) : headM w l = none := by
  unfold headM
  split
  · rename_i a b hs; rw [hs] at h; exact absurd rfl h
  · rfl
theorem headM_two {w l a b : Bs} (h : Lib.split l [32] = [a, b]) : headM w l = if a = w then some b else none := by
  unfold headM; rw [h]
set_option maxRecDepth 100000 in
set_option maxHeartbeats 4000000 in
theorem head_any (rb lb : Nat) (L : List Bs) (no : Nat) (c2 c3 c4 c5 c6 c7 c8 : Value) (word : Bs) (w : World) (hno : no ≤ 1000000) (hL : Lns w lb L) (hne : lb ≠ rb) (hM : Em w rb)
    (hB : Blk w rb 73 #[.slice (some ⟨lb, 0, none⟩) L.length L.length, .int .i64 (no : Nat), c2, c3, c4, c5, c6, c7, c8]) :
    Calls Tryd.prog 35 #[.pointer (some ⟨rb, 0, none⟩), .string (bsS word)] w (HeadPost w rb lb L no c2 c3 c4 c5 c6 c7 c8 (headR L no word)) := by
  have HN := Sl.mk (next_any rb lb L no c2 c3 c4 c5 c6 c7 c8 w hno hL hne hM hB)
  obtain ⟨r, hr⟩ : ∃ r, headR L no word = r := ⟨_, rfl⟩
  rw [hr]
  have HR := Sl.mk hr
  clear hL hM hB hr
  go_enter Tryd.func35, Tryd.ntmps35
  go_wp2_with fail
  refine HN.out.mono ?_
  rintro e w1 ⟨hg, hb, h⟩
  have HG := Sl.mk hg
  have HB := Sl.mk hb
  clear hg hb
  rcases h with ⟨hle, rfl⟩ | ⟨s, g, hs, rfl, hg1, hg2, hcb⟩
  · have HC := Sl.mk (show r = none by rw [← HR.out]; unfold headR; rw [List.getElem?_eq_none hle]; rfl)
    go_wp2_with fail
    go_ret2
    exact ⟨HG.out, HB.out, by rw [HC.out]; rfl⟩
  · have HRS := Sl.mk (show r = headM word s by rw [← HR.out]; unfold headR; rw [hs]; rfl)
    clear hs
    have hc : ∀ (j : Nat) v, (strsA (Lib.split s [32]))[j]? = some v → w1.cell? ⟨g, j, none⟩ = some v := fun j v hj => by rw [hcb.cell j, List.getElem?_toArray]; exact hj
    clear hcb
    obtain ⟨W, hW⟩ : ∃ W, Lib.split s [32] = W := ⟨_, rfl⟩
    rw [hW] at hc
    rw [hW]
    by_cases h2 : W.length = 2
    · obtain ⟨a, b, rfl⟩ : ∃ a b, W = [a, b] := by
        match W, h2 with
        | [a, b], _ => exact ⟨a, b, rfl⟩
      have k0 := hc 0 _ rfl
      have k1 := hc 1 _ rfl
      have HRT := Sl.mk (show r = if a = word then some b else none by rw [HRS.out, headM_two hW])
      have he := bs_beq a word
      simp only [List.length_cons, List.length_nil]
      clear hW hc h2
      by_cases ha : a = word
      · rw [decide_eq_true ha] at he
        have HC := Sl.mk (show r = some b by rw [HRT.out, if_pos ha])
        clear ha
        go_wp2_with fail
        go_ret2
        exact ⟨HG.out, HB.out, by rw [HC.out]; rfl⟩
      · rw [decide_eq_false ha] at he
        have HC := Sl.mk (show r = none by rw [HRT.out, if_neg ha])
        clear ha
        go_wp2_with fail
        go_ret2
        exact ⟨HG.out, HB.out, by rw [HC.out]; rfl⟩
    · have HC := Sl.mk (show r = none by rw [HRS.out]; exact headM_len (by rw [hW]; exact h2))
      have h2' : ((W.length : Int) != 2) = true := by simp; omega
      clear h2 hW hc
      go_wp2_with fail
      go_ret2
      exact ⟨HG.out, HB.out, by rw [HC.out]; rfl⟩
end Go.Proofs.YtmgblbkmbiiofaaDoor
