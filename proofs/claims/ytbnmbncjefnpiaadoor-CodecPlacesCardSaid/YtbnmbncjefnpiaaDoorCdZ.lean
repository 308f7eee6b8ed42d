/-
  The references: creelref01.Same, creelref03.Number.
-/
import Derived.Test.YtbnmbncjefnpiaaDoorCdU
import Derived.Test.YtbnmbncjefnpiaaDoorCdS
namespace Go.Proofs.YtbnmbncjefnpiaaDoor
open Go.RowKit
attribute [local go_sem ↓] Go.wp_at_zero Go.wp_at_succ

theorem take_snocZ {α : Type} {l : List α} {i : Nat} {x : α} (h : l[i]? = some x) : l.take (i + 1) = l.take i ++ [x] := take_one h
theorem bytes_at {w : World} {B n : Nat} {A : Option Addr} {p : List Nat} (h : Reads w B 1 A n (u8s p)) {i : Nat} {s : Nat} (hi : p[i]? = some s) :
    ∃ ad, A = some ad ∧ ad.block < B ∧ w.cell? (ad.add i) = some (.int .u8 (s : Int)) := by
  have hl := bytes_n h
  have hil : i < p.length := (List.getElem?_eq_some_iff.1 hi).1
  obtain ⟨ad, e, hb, hc⟩ := h.2 (by omega)
  exact ⟨ad, e, hb, hc i _ (by simp [u8s, hi])⟩

set_option maxHeartbeats 1000000 in
theorem bsame_any (A1 A2 : Option Addr) (n c m d : Nat) (p q : List Nat) (w : World) (hn : n ≤ 1000000000) (hm : m ≤ 1000000000) (hR1 : Reads w w.heap.size 1 A1 n (u8s p)) (hR2 : Reads w w.heap.size 1 A2 m (u8s q)) :
    Calls Tryd.prog 9 #[.slice A1 n c, .slice A2 m d] w fun e w' => e = .returned (.bool (eqB p q)) ∧ ∃ k, w' = w.drewN k := by
  have HL1 := Sl.mk (bytes_n hR1)
  have HL2 := Sl.mk (bytes_n hR2)
  have HR1 := Sl.mk hR1
  have HR2 := Sl.mk hR2
  clear hR1 hR2
  by_cases hnm : n = m
  · subst hnm
    go_enter Tryd.func9, Tryd.ntmps9
    go_wp2_with fail
    go_loopw [5] (fun s5 wr => ∃ i k : Nat, i ≤ n ∧ s5 = .int .i64 i ∧ Sl (p.take i = q.take i) ∧ wr = w.drewN k) (fun s5 _ => n - (intOf s5).toNat)
    case atStart => exact ⟨0, 0, Nat.zero_le _, rfl, ⟨rfl⟩, rfl⟩
    case round =>
      obtain ⟨i, k, hi, rfl, HT, rfl⟩ := hrel
      by_cases hil : i < n
      · obtain ⟨s, hs⟩ : ∃ s, p[i]? = some s := ⟨_, List.getElem?_eq_getElem (by rw [HL1.out]; exact hil)⟩
        obtain ⟨t, ht⟩ : ∃ t, q[i]? = some t := ⟨_, List.getElem?_eq_getElem (by rw [HL2.out]; exact hil)⟩
        obtain ⟨a1, rfl, hb1, hc1⟩ := bytes_at HR1.out hs
        obtain ⟨a2, rfl, hb2, hc2⟩ := bytes_at HR2.out ht
        by_cases hst : s = t
        · subst hst
          have HT2 := Sl.mk (show p.take (i + 1) = q.take (i + 1) by rw [take_snocZ hs, take_snocZ ht, HT.out])
          clear hs ht
          go_wp2_with fail
          go_quiet (fail)
          go_wp2_with fail
          go_roundw
          case rel => exact ⟨i + 1, _, by omega, by go_num, HT2, rfl⟩
          case measure => simp [intOf]; omega
        · have HF := Sl.mk (show eqB p q = false from decide_eq_false fun e => hst (by rw [e, ht] at hs; injection hs with hs; exact hs.symm))
          have hbb : ((s : Int) == (t : Int)) = false := by simp; omega
          have hbn : ((s : Int) != (t : Int)) = true := by simp; omega
          clear hs ht hst
          go_wp2_with fail
          go_quiet (fail)
          go_wp2_with fail
          go_ret
          exact ⟨by rw [HF.out]; rfl, k + nq, by rw [World.drewN_drewN]⟩
      · obtain rfl : i = n := by omega
        have HF := Sl.mk (show eqB p q = true by
          have h := HT.out
          rw [List.take_of_length_le (by rw [HL1.out]; omega), List.take_of_length_le (by rw [HL2.out]; omega)] at h
          exact decide_eq_true h)
        go_wp2_with fail
        go_ret
        exact ⟨by rw [HF.out]; rfl, k, rfl⟩
  · have HF := Sl.mk (show eqB p q = false from decide_eq_false fun e => hnm (by rw [← HL1.out, ← HL2.out, e]))
    have h1 : ((n : Int) != (m : Int)) = true := by simp; omega
    have h2 : ((n : Int) == (m : Int)) = false := by simp; omega
    clear hnm
    go_enter Tryd.func9, Tryd.ntmps9
    go_wp2_with fail
    go_ret
    exact ⟨by rw [HF.out]; rfl, 0, rfl⟩


/-! ### Number -/
theorem slice_dg (w : World) (a : Nat) (ha : a < 10) (lo hi : Int) (h1 : lo = a) (h2 : hi = a + 1) :
    (Instr.slice 9 (.string ⟨#[48, 49, 50, 51, 52, 53, 54, 55, 56, 57]⟩) (some (.int .i64 lo)) (some (.int .i64 hi)) none).run Tryd.prog w = .ok (.string ⟨#[UInt8.ofNat (48 + a)]⟩) w := by
  subst h1 h2
  have hs : (⟨#[48, 49, 50, 51, 52, 53, 54, 55, 56, 57]⟩ : ByteArray).size = 10 := rfl
  rw [run_slice_string_if w 9 _ .i64 .i64 (a : Int) ((a : Int) + 1) Tryd.underlying9, if_pos ⟨by omega, by rw [hs]; omega⟩, if_pos ⟨by omega, by omega⟩]
  have e : ((a : Int) + 1).toNat = a + 1 := by omega
  rw [e, Int.toNat_natCast]
  have h3 : ∀ x : Fin 10, (⟨#[48, 49, 50, 51, 52, 53, 54, 55, 56, 57]⟩ : ByteArray).extract x.1 (x.1 + 1) = ⟨#[UInt8.ofNat (48 + x.1)]⟩ := by decide +kernel
  rw [h3 ⟨a, ha⟩]
/-- What is still to be read, and what was read. -/
def NumI (n N : Int) (l : List UInt8) : Prop := ∃ u : Nat, N = (if n < 0 then -(u : Int) else (u : Int)) ∧ (u = 0 → N = 0) ∧ Lib.decDigits n.natAbs = Lib.decDigits u ++ l ∧ u ≤ 9223372036854775808 ∧ (n < 0 ∨ u ≤ 9223372036854775807)
structure NumStep (n N : Int) (l : List UInt8) : Prop where
  d : ∃ a : Nat, a < 10 ∧ ((N.tmod 10 = (a : Int) ∧ ¬ (N.tmod 10 < 0)) ∨ (N.tmod 10 = -(a : Int) ∧ N.tmod 10 < 0)) ∧
    ((N.tdiv 10 = 0 ∧ Lib.decDigits n.natAbs = UInt8.ofNat (48 + a) :: l) ∨ (N.tdiv 10 ≠ 0 ∧ NumI n (N.tdiv 10) (UInt8.ofNat (48 + a) :: l) ∧ (N.tdiv 10).natAbs < N.natAbs))
theorem num_step {n N : Int} {l : List UInt8} (h : NumI n N l) : NumStep n N l := by
  obtain ⟨u, hN, h0, hd, hu, hu2⟩ := h
  refine ⟨u % 10, Nat.mod_lt _ (by decide), ?_, ?_⟩
  · by_cases hn : n < 0
    · rw [if_pos hn] at hN
      have e : N.tmod 10 = -((u % 10 : Nat) : Int) := by rw [hN, Int.neg_tmod]; rfl
      by_cases hz : u % 10 = 0
      · left; rw [e, hz]; simp
      · right; rw [e]; exact ⟨rfl, by omega⟩
    · rw [if_neg hn] at hN
      have e : N.tmod 10 = ((u % 10 : Nat) : Int) := by rw [hN]; rfl
      left; rw [e]; exact ⟨rfl, by omega⟩
  · have e : N.tdiv 10 = if n < 0 then -((u / 10 : Nat) : Int) else ((u / 10 : Nat) : Int) := by
      by_cases hn : n < 0
      · rw [if_pos hn] at hN ⊢; rw [hN, Int.neg_tdiv]; rfl
      · rw [if_neg hn] at hN ⊢; rw [hN]; rfl
    by_cases h10 : u < 10
    · left
      refine ⟨by rw [e, Nat.div_eq_of_lt h10]; simp, ?_⟩
      rw [hd, Lib.decDigits, dif_pos h10, Nat.mod_eq_of_lt h10]; rfl
    · right
      have hpos : 0 < u / 10 := Nat.div_pos (by omega) (by decide)
      refine ⟨by rw [e]; split <;> omega, ⟨u / 10, e, fun h => by omega, ?_, by omega, by omega⟩, ?_⟩
      · rw [hd, Lib.decDigits, dif_neg h10, List.append_assoc]; rfl
      · rw [e, hN]; split <;> omega
theorem it_neg {n : Int} (h : n < 0) : itS n = ⟨#[45]⟩ ++ ⟨(Lib.decDigits n.natAbs).toArray⟩ := by
  unfold itS Lib.itoa
  rw [if_pos h]
  rfl
theorem it_pos {n : Int} (h : ¬ n < 0) : itS n = ⟨(Lib.decDigits n.natAbs).toArray⟩ := by
  unfold itS Lib.itoa
  rw [if_neg h]
  congr 3
  omega
theorem str_cons (x : UInt8) (l : List UInt8) : (⟨#[x]⟩ ++ ⟨l.toArray⟩ : ByteArray) = ⟨(x :: l).toArray⟩ := by
  apply ByteArray.ext
  rw [ByteArray.data_append]
  simp

set_option maxRecDepth 100000 in
set_option maxHeartbeats 2000000 in
theorem rnumber_any (n : Int) (w : World) (h0 : -9223372036854775808 ≤ n) (h1 : n ≤ 9223372036854775807) :
    Calls Tryd.prog 29 #[.int .i64 n] w fun e w' => e = .returned (.string (itS n)) ∧ w = w' := by
  have hI : NumI n n [] := ⟨n.natAbs, by split <;> omega, by omega, by simp, by omega, by omega⟩
  have HI := Sl.mk hI
  have HLEN := Sl.mk (show ∀ N l, NumI n N l → l.length ≤ 40 from fun N l ⟨u, _, _, hd, _⟩ => by
    have h2 := congrArg List.length hd
    rw [List.length_append] at h2
    have h3 := dgN_len 18 n.natAbs (by omega)
    unfold dgN at h3
    rw [List.length_map] at h3
    omega)
  clear hI
  by_cases hn : n < 0
  · have HS := Sl.mk (it_neg hn)
    go_enter Tryd.func29, Tryd.ntmps29
    go_wp2_with fail
    go_loop [0, 3, 5] (fun v0 v3 _ => ∃ (N : Int) (S : ByteArray), v0 = .int .i64 N ∧ v3 = .string S ∧ Sl (∃ l : List UInt8, S = ⟨l.toArray⟩ ∧ NumI n N l) ∧ -9223372036854775808 ≤ N ∧ N ≤ 9223372036854775807) (fun v0 _ _ => (intOf v0).natAbs)
    case atStart => exact ⟨n, ⟨#[]⟩, rfl, rfl, ⟨[], rfl, HI.out⟩, h0, h1⟩
    case round =>
      obtain ⟨N, S, rfl, rfl, HNS, hN0, hN1⟩ := hrel
      obtain ⟨l, hS, hN⟩ := HNS.out
      have HN := Sl.mk hN
      obtain ⟨a, ha, hmod, hdiv⟩ := (num_step HN.out).d
      have hsl := fun (w' : World) => slice_dg w' a ha (a : Int) ((a : Int) + 1) rfl rfl
      have hll := HLEN.out N l HN.out
      have hsz : S.size ≤ 40 := by rw [hS]; simpa [ByteArray.size] using hll
      have hcons := str_cons (UInt8.ofNat (48 + a)) l
      rw [← hS] at hcons
      obtain ⟨c, hc⟩ : ∃ c, UInt8.ofNat (48 + a) = c := ⟨_, rfl⟩
      rw [hc] at hcons hdiv hsl
      have hMb : -9223372036854775808 ≤ N.tdiv 10 ∧ N.tdiv 10 ≤ 9223372036854775807 := by
        have h2 := Int.natAbs_tdiv N 10
        omega
      obtain ⟨M, hM⟩ : ∃ M, N.tdiv 10 = M := ⟨_, rfl⟩
      rw [hM] at hdiv hMb
      have hMw : IntKind.i64.wrap M = M := IntWalk.i64_in _ (by omega)
      obtain ⟨hM0, hM1⟩ := hMb
      have HC := Sl.mk hcons
      clear hcons hll hc hN hS HNS
      rcases hmod with ⟨hD, hDn⟩ | ⟨hD, hDn⟩
      all_goals
        rw [hD] at hDn
        rcases hdiv with ⟨hz, hd⟩ | ⟨hz, hNI, hlt⟩
        · subst hz
          have HD := Sl.mk hd
          clear hd HN
          go_wp2_with fail
          go_ret
          exact ⟨ret_str (by rw [HS.out, HD.out, ← HC.out]), rfl⟩
        · have hzb : (M == 0) = false := by simpa using hz
          have HNI := Sl.mk hNI
          have HLT := Sl.mk hlt
          clear hNI hz HN hlt
          go_wp2_with fail
          go_round
          case rel => exact ⟨M, _, rfl, rfl, ⟨_, HC.out, HNI.out⟩, hM0, hM1⟩
          case measure => simp [intOf]; exact HLT.out
  · have HS := Sl.mk (it_pos hn)
    go_enter Tryd.func29, Tryd.ntmps29
    go_wp2_with fail
    go_loop [0, 3, 5] (fun v0 v3 _ => ∃ (N : Int) (S : ByteArray), v0 = .int .i64 N ∧ v3 = .string S ∧ Sl (∃ l : List UInt8, S = ⟨l.toArray⟩ ∧ NumI n N l) ∧ -9223372036854775808 ≤ N ∧ N ≤ 9223372036854775807) (fun v0 _ _ => (intOf v0).natAbs)
    case atStart => exact ⟨n, ⟨#[]⟩, rfl, rfl, ⟨[], rfl, HI.out⟩, h0, h1⟩
    case round =>
      obtain ⟨N, S, rfl, rfl, HNS, hN0, hN1⟩ := hrel
      obtain ⟨l, hS, hN⟩ := HNS.out
      have HN := Sl.mk hN
      obtain ⟨a, ha, hmod, hdiv⟩ := (num_step HN.out).d
      have hsl := fun (w' : World) => slice_dg w' a ha (a : Int) ((a : Int) + 1) rfl rfl
      have hll := HLEN.out N l HN.out
      have hsz : S.size ≤ 40 := by rw [hS]; simpa [ByteArray.size] using hll
      have hcons := str_cons (UInt8.ofNat (48 + a)) l
      rw [← hS] at hcons
      obtain ⟨c, hc⟩ : ∃ c, UInt8.ofNat (48 + a) = c := ⟨_, rfl⟩
      rw [hc] at hcons hdiv hsl
      have hMb : -9223372036854775808 ≤ N.tdiv 10 ∧ N.tdiv 10 ≤ 9223372036854775807 := by
        have h2 := Int.natAbs_tdiv N 10
        omega
      obtain ⟨M, hM⟩ : ∃ M, N.tdiv 10 = M := ⟨_, rfl⟩
      rw [hM] at hdiv hMb
      have hMw : IntKind.i64.wrap M = M := IntWalk.i64_in _ (by omega)
      obtain ⟨hM0, hM1⟩ := hMb
      have HC := Sl.mk hcons
      clear hcons hll hc hN hS HNS
      rcases hmod with ⟨hD, hDn⟩ | ⟨hD, hDn⟩
      all_goals
        rw [hD] at hDn
        rcases hdiv with ⟨hz, hd⟩ | ⟨hz, hNI, hlt⟩
        · subst hz
          have HD := Sl.mk hd
          clear hd HN
          go_wp2_with fail
          go_ret
          exact ⟨ret_str (by rw [HS.out, HD.out, ← HC.out]), rfl⟩
        · have hzb : (M == 0) = false := by simpa using hz
          have HNI := Sl.mk hNI
          have HLT := Sl.mk hlt
          clear hNI hz HN hlt
          go_wp2_with fail
          go_round
          case rel => exact ⟨M, _, rfl, rfl, ⟨_, HC.out, HNI.out⟩, hM0, hM1⟩
          case measure => simp [intOf]; exact HLT.out

end Go.Proofs.YtbnmbncjefnpiaaDoor
