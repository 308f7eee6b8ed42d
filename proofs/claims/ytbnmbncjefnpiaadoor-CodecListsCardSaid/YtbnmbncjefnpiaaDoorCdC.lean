/-
  The contracts of codec: depth, check.
-/
import Derived.Test.YtbnmbncjefnpiaaDoorCdB
namespace Go.Proofs.YtbnmbncjefnpiaaDoor
open Go.RowKit
attribute [local go_sem ↓] Go.wp_at_zero Go.wp_at_succ

theorem drop_one {α : Type} {l : List α} {i : Nat} {x : α} (h : l[i]? = some x) : l.drop i = x :: l.drop (i + 1) := by
  obtain ⟨hi, e⟩ := List.getElem?_eq_some_iff.1 h
  rw [List.drop_eq_getElem_cons hi, e]
theorem take_one {α : Type} {l : List α} {i : Nat} {x : α} (h : l[i]? = some x) : l.take (i + 1) = l.take i ++ [x] := by
  rw [List.take_add_one, h]; rfl
theorem foldl_max_le (f : Vc → Nat) (B : Nat) : ∀ (l : List Vc) (a : Nat), (∀ x, f x ≤ B) → a ≤ B → (l.map f).foldl max a ≤ B
  | [], a, _, ha => ha
  | x :: r, a, h, ha => foldl_max_le f B r (max a (f x)) h (by have := h x; omega)
theorem depN_le (m : Nat) (v : Vc) : depN m v ≤ m + 1 := by rw [depN_eq]; omega
theorem vxC_mk (k n : Int) (pb : Option Addr) (b : List Nat) (cb : Nat) (pl : Option Addr) (l : List Vx) (cl : Nat) : vxC (.mk k n pb b cb pl l cl) = [.int .i64 k, .int .i64 n, .slice pb b.length cb, .slice pl l.length cl] := rfl
theorem ld_vxl {ops : Array Oper} {rest : List Oper} {op : Oper} {a : Act} {w : World} {Q : Exit → Act → World → Prop} {ad : Addr} {k n : Int} {pb : Option Addr} {bl cb : Nat} {pl : Option Addr} {ll cl : Nat}
    (hc : ∀ j v, [Value.int .i64 k, .int .i64 n, .slice pb bl cb, .slice pl ll cl][j]? = some v → w.cell? (ad.add j) = some v) (hgd : op.guard = none) (y : Operand) (ho : op.op = .load 26 y) (hy : a.eval y = .pointer (some ad))
    (h : wpList Tryd.prog ops Q rest (a.put op.dst (.agg #[.int .i64 k, .int .i64 n, .slice pb bl cb, .slice pl ll cl])) w) : wpList Tryd.prog ops Q (op :: rest) a w :=
  wpList_load_at hgd 26 y ho _ hy [Value.int .i64 k, .int .i64 n, .slice pb bl cb, .slice pl ll cl] _ hc Tryd.underlying26 rfl (by rw [vxSize]; rfl) h

set_option maxRecDepth 100000 in
set_option maxHeartbeats 1000000 in
theorem depth_any (m : Nat) : ∀ (x : Vx) (w : World), m ≤ 8 → VxIn w x →
    Calls Tryd.prog 28 #[.agg (vxC x).toArray, .int .i64 m] w fun e w' => e = .returned (.int .i64 (depN m x.v : Nat)) ∧ Below w.heap.size w w' := by
  induction m with
  | zero =>
    rintro ⟨k, n, pb, b, cb, pl, l, cl⟩ w hm hx
    show Calls Tryd.prog 28 #[.agg #[.int .i64 k, .int .i64 n, .slice pb b.length cb, .slice pl l.length cl], .int .i64 0] w fun e w' => e = .returned (.int .i64 ((if k = 2 then 1 else 0 : Nat) : Int)) ∧ Below w.heap.size w w'
    have hE := below_al (Below.refl w.heap.size w) (.cells #[.int .i64 k, .int .i64 n, .slice pb b.length cb, .slice pl l.length cl] 26)
    clear hx
    by_cases hk : k = 2
    · subst hk
      rw [if_pos rfl]
      go_enter Tryd.func28, Tryd.ntmps28
      go_wp2_with fail
      go_ret
      exact ⟨rfl, hE⟩
    · rw [if_neg hk]
      have hk' : (k != 2) = true := by simpa using hk
      go_enter Tryd.func28, Tryd.ntmps28
      go_wp2_with fail
      go_ret
      exact ⟨rfl, hE⟩
  | succ m ih =>
    rintro ⟨k, n, pb, b, cb, pl, l, cl⟩ w hm hx
    have hv : (depN (m + 1) (Vx.mk k n pb b cb pl l cl).v) = if k = 2 then ((vsOf l).map (depN m)).foldl max 0 + 1 else 0 := rfl
    rw [hv]
    show Calls Tryd.prog 28 #[.agg #[.int .i64 k, .int .i64 n, .slice pb b.length cb, .slice pl l.length cl], .int .i64 ((m + 1 : Nat) : Int)] w fun e w' => e = .returned (.int .i64 ((if k = 2 then ((vsOf l).map (depN m)).foldl max 0 + 1 else 0 : Nat) : Int)) ∧ Below w.heap.size w w'
    have hE := below_al (Below.refl w.heap.size w) (.cells #[.int .i64 k, .int .i64 n, .slice pb b.length cb, .slice pl l.length cl] 26)
    obtain ⟨-, hL, hN⟩ := hx.parts
    have hl := hN.ll
    obtain ⟨hlc, hlm⟩ := hN.lc
    have HL := Sl.mk hL
    clear hL hN hx hv
    obtain ⟨ll, hll⟩ : ∃ ll, l.length = ll := ⟨_, rfl⟩
    have HLL := Sl.mk hll
    rw [hll] at hl hlc hE ⊢
    obtain ⟨bl, hbl⟩ : ∃ bl, b.length = bl := ⟨_, rfl⟩
    rw [hbl] at hE ⊢
    clear hbl hll
    obtain ⟨M, hM⟩ : ∃ M, m + 1 = M := ⟨_, rfl⟩
    rw [hM]
    have hM1 : (M : Int) - 1 = m := by omega
    have hM0 : (0 : Int) < (M : Int) := by omega
    have hM8 : M ≤ 8 := by omega
    have hMn : 0 < M := by omega
    clear hM
    by_cases hk : k = 2
    · subst hk
      rw [if_pos rfl]
      go_enter Tryd.func28, Tryd.ntmps28
      go_wp2_with fail
      go_loopw [5, 7, 16] (fun v5 _ v16 wr => ∃ i d : Nat, i ≤ ll ∧ v16 = .int .i64 i ∧ v5 = .int .i64 d ∧ d ≤ 9 ∧ Sl (((vsOf l).map (depN m)).foldl max 0 = ((vsOf (l.drop i)).map (depN m)).foldl max d) ∧ Below w.heap.size w wr) (fun _ _ v16 _ => ll - (intOf v16).toNat)
      case atStart => exact ⟨0, 0, Nat.zero_le _, rfl, rfl, by omega, ⟨by simp⟩, hE⟩
      case round =>
        obtain ⟨i, d, hi, rfl, rfl, hd, HZ, hB⟩ := hrel
        by_cases hil : i < ll
        · obtain ⟨x, hx⟩ : ∃ x, l[i]? = some x := ⟨_, List.getElem?_eq_getElem (by rw [HLL.out]; exact hil)⟩
          obtain ⟨ad, hpl, hbl, hld, hok⟩ := (HL.out.be hB).at_ hx
          subst hpl
          have HXI := Sl.mk hx
          obtain ⟨k', n', pb', b', cb', pl', l', cl'⟩ := x
          have hwa := below_al (Below.refl wr.heap.size wr) (.cells #[.int .i64 k', .int .i64 n', .slice pb' b'.length cb', .slice pl' l'.length cl'] 26)
          have HR := Sl.mk (ih _ (wr.alloc (.cells #[.int .i64 k', .int .i64 n', .slice pb' b'.length cb', .slice pl' l'.length cl'] 26)) (by omega) (hok.be hwa))
          rw [vxC_mk] at HR
          clear hx hok
          go_wp2_with (refine ld_vxl hld rfl (.tmp 18) rfl rfl ?_)
          refine HR.out.mono ?_
          rintro e w2 ⟨rfl, hB2⟩
          have hE2 := below_tr hB (below_tr hwa hB2)
          obtain ⟨dd, hdd⟩ : ∃ dd, depN m (Vx.v (.mk k' n' pb' b' cb' pl' l' cl')) = dd := ⟨_, rfl⟩
          have hd9 : dd ≤ 9 := by rw [← hdd]; have := depN_le m (Vx.v (.mk k' n' pb' b' cb' pl' l' cl')); omega
          rw [hdd]
          have HZ2 := Sl.mk (show ((vsOf l).map (depN m)).foldl max 0 = ((vsOf (l.drop (i + 1))).map (depN m)).foldl max (max d dd) by
            rw [HZ.out, drop_one HXI.out, vsOf, List.map_cons, List.foldl_cons, hdd])
          clear hB hld hwa hB2 HZ HR hdd
          by_cases hmx : d < dd
          · have HZ3 := Sl.mk (show ((vsOf l).map (depN m)).foldl max 0 = ((vsOf (l.drop (i + 1))).map (depN m)).foldl max dd by
              rw [HZ2.out]; congr 1; omega)
            have hmi : (d : Int) < dd := by omega
            clear HZ2
            go_wp2_with fail
            go_roundw
            case rel => exact ⟨i + 1, dd, by omega, by go_num, rfl, by omega, HZ3, hE2⟩
            case measure => simp [intOf]; omega
          · have HZ3 := Sl.mk (show ((vsOf l).map (depN m)).foldl max 0 = ((vsOf (l.drop (i + 1))).map (depN m)).foldl max d by
              rw [HZ2.out]; congr 1; omega)
            have hmi : ¬ (d : Int) < dd := by omega
            clear HZ2
            go_wp2_with fail
            go_roundw
            case rel => exact ⟨i + 1, d, by omega, by go_num, rfl, by omega, HZ3, hE2⟩
            case measure => simp [intOf]; omega
        · obtain rfl : i = ll := by omega
          have HN := Sl.mk (show ((vsOf l).map (depN m)).foldl max 0 = d by
            rw [HZ.out, List.drop_of_length_le (by rw [HLL.out]; omega)]; rfl)
          go_wp2_with fail
          go_ret
          exact ⟨by rw [HN.out]; first | rfl | simp, hB⟩
    · rw [if_neg hk]
      have hk' : (k != 2) = true := by simpa using hk
      go_enter Tryd.func28, Tryd.ntmps28
      go_wp2_with fail
      go_ret
      exact ⟨rfl, hE⟩

end Go.Proofs.YtbnmbncjefnpiaaDoor
