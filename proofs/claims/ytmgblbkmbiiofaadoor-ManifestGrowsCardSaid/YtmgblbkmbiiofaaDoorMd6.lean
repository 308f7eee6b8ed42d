/-
  The contract of manifest's number.
  The contracts of manifest's small functions: among, both, place, hook, key, want.
  The contracts of cmp.Compare at texts, of cmp.Or at two numbers, and of manifest's order.
  The contract of a list's each.
-/
import Derived.Test.YtmgblbkmbiiofaaDoorMd5
import Derived.Sort.Walk0
import Derived.BigQuiet
import Derived.Shelf.GgClosure.Gives

namespace Go.Proofs.YtmgblbkmbiiofaaDoor
open Go.RowKit
attribute [local go_sem ↓] Go.wp_at_zero Go.wp_at_succ

def numP (s : Bs) : Nat × Bool := if nuOk s = true then (dcF s, true) else (0, false)
theorem numM_of (s : Bs) : numM s = if (numP s).2 = true then some (numP s).1 else none := by
  unfold numM numP
  by_cases h : nuOk s = true
  · rw [if_pos h, if_pos h]; rfl
  · rw [if_neg h, if_neg h]; rfl
theorem dcF_snoc (s : Bs) (i : Nat) (h : i < s.length) : dcF (s.take (i + 1)) = 10 * dcF (s.take i) + ((s.getD i 0).toNat - 48) := by
  unfold dcF
  rw [List.take_add_one, List.getElem?_eq_getElem h, List.foldl_append, List.getD_eq_getElem?_getD, List.getElem?_eq_getElem h]
  rfl
theorem num_bad {s : Bs} (h : nuOk s = false) : numP s = (0, false) := by unfold numP; rw [h]; rfl
theorem num_good {s : Bs} (h : nuOk s = true) : numP s = (dcF s, true) := by unfold numP; rw [h]; rfl
theorem nuOk_dig {s : Bs} {i : Nat} (hi : i < s.length) (h : dgB (s.getD i 0) = false) : nuOk s = false := by
  unfold nuOk
  have : s.all dgB = false := by
    rw [List.all_eq_false]
    refine ⟨s.getD i 0, ?_, by rw [h]; simp⟩
    rw [List.getD_eq_getElem?_getD, List.getElem?_eq_getElem hi]
    exact List.getElem_mem hi
  rw [this]; simp
set_option maxHeartbeats 8000000 in
theorem numb_any (s : Bs) (w : World) (hs : s.length ≤ 1000000) :
    Calls Tryd.prog 36 #[.string (bsS s)] w fun e w' => e = .returned (.tuple #[.int .i64 ((numP s).1 : Nat), .bool (numP s).2]) ∧ w' = w := by
  have hz := bs_size s
  by_cases hl0 : s.length < 1
  · have HR := Sl.mk (num_bad (s := s) (by unfold nuOk; rw [decide_eq_false (show ¬ 1 ≤ s.length by omega)]; rfl))
    go_enter Tryd.func36, Tryd.ntmps36
    go_wp2_with fail
    go_ret2
    exact ⟨by rw [HR.out]; rfl, rfl⟩
  · by_cases hl4 : 6 < s.length
    · have HR := Sl.mk (num_bad (s := s) (by unfold nuOk; rw [decide_eq_false (show ¬ s.length ≤ 6 by omega)]; simp))
      go_enter Tryd.func36, Tryd.ntmps36
      go_wp2_with fail
      go_ret2
      exact ⟨by rw [HR.out]; rfl, rfl⟩
    · have hlt2 : 0 < (bsS s).size := by rw [hz]; omega
      have HA := Sl.mk (bs_at hlt2)
      obtain ⟨c0, hc0⟩ : ∃ c : Nat, ((bsS s)[0]).toNat = c := ⟨_, rfl⟩
      have hx0 : (s.getD 0 0).toNat = c0 := by rw [← HA.out, hc0]
      have HX0 := Sl.mk hx0
      clear hx0
      by_cases hz0 : c0 = 48 ∧ 1 < s.length
      · obtain ⟨hz1, hz2⟩ := hz0
        have HR := Sl.mk (num_bad (s := s) (by
          have e : s.getD 0 0 = 48 := UInt8.toNat_inj.1 (by rw [HX0.out, hz1]; rfl)
          unfold nuOk
          rw [e, decide_eq_true hz2]; simp))
        have hb : ((c0 : Int) == 48) = true := by simp; omega
        go_enter Tryd.func36, Tryd.ntmps36
        go_wp2_with fail
        go_ret2
        exact ⟨by rw [HR.out]; rfl, rfl⟩
      · have HOK := Sl.mk (show s.all dgB = true → nuOk s = true from fun h => by
          unfold nuOk
          rw [h, decide_eq_true (show 1 ≤ s.length by omega), decide_eq_true (show s.length ≤ 6 by omega)]
          by_cases h1 : 1 < s.length
          · have hne : c0 ≠ 48 := fun e => hz0 ⟨e, h1⟩
            have : (s.getD 0 0 == 48) = false := beq_eq_false_iff_ne.2 fun e => hne (by rw [← HX0.out, e]; rfl)
            rw [this]; rfl
          · rw [decide_eq_false h1]; simp)
        have hl4' : s.length ≤ 6 := by omega
        have hnb : ¬ (c0 = 48 ∧ 1 < s.length) := hz0
        clear hz0
        go_enter Tryd.func36, Tryd.ntmps36
        go_upto_region 1 with fail
        go_cut [23] (fun v23 wx => v23 = .bool false ∧ wx = w)
        case first =>
          by_cases h1 : c0 = 48
          · have hb : ((c0 : Int) == 48) = true := by simp; omega
            have h2 : ¬ 1 < s.length := fun h => hnb ⟨h1, h⟩
            clear hnb
            go_wp2_with fail
            go_meet
            exact ⟨by congr 1; simp; omega, rfl⟩
          · have hb : ((c0 : Int) == 48) = false := by simp; omega
            clear hnb
            go_wp2_with fail
            go_meet
            exact ⟨by congr 1; simp; omega, rfl⟩
        case rest =>
          obtain ⟨rfl, hwc⟩ := hcut
          subst hwc
          clear hnb hc0 HX0
          go_wp2_with fail
          go_loopg [4, 26] s.length (fun q v4 v26 wr => ∃ i : Nat, q = s.length - i ∧ i ≤ s.length ∧ v26 = .int .i64 i ∧ v4 = .int .i64 (dcF (s.take i) : Nat) ∧ wr = wc ∧ dcF (s.take i) < 10 ^ i ∧ Sl (∀ j, j < i → dgB (s.getD j 0) = true))
          case atStart => exact ⟨0, rfl, Nat.zero_le _, rfl, rfl, rfl, by simp [dcF], ⟨fun j hj => absurd hj (Nat.not_lt_zero _)⟩⟩
          case round =>
            obtain ⟨i, hq, hi, rfl, rfl, hw, hA, HI⟩ := hrel
            by_cases hlt : i < s.length
            · have hlt2 : i < (bsS s).size := by rw [hz]; exact hlt
              have HB := Sl.mk (bs_at hlt2)
              obtain ⟨c, hc⟩ : ∃ c : Nat, ((bsS s)[i]).toNat = c := ⟨_, rfl⟩
              have hx : (s.getD i 0).toNat = c := by rw [← HB.out, hc]
              have HX := Sl.mk hx
              have HS := Sl.mk (dcF_snoc s i hlt)
              rw [hx] at HS
              have HDG := Sl.mk (show dgB (s.getD i 0) = (decide (48 ≤ c) && decide (c ≤ 57)) by unfold dgB; rw [hx])
              have HQ := Sl.mk (show s.length - (i + 1) < gk ∧ i + 1 ≤ s.length by omega)
              obtain ⟨acc, hacc⟩ : ∃ acc, dcF (s.take i) = acc := ⟨_, rfl⟩
              have hA3 : acc ≤ 999999 := by
                rw [← hacc]
                have : i ≤ 5 := by omega
                have h10 : 10 ^ i ≤ 10 ^ 5 := Nat.pow_le_pow_right (by decide) this
                have : (10 : Nat) ^ 5 = 100000 := by decide
                omega
              rw [hacc] at HS hA ⊢
              clear hx hq hacc
              by_cases h1 : c < 48
              · have HR := Sl.mk (num_bad (nuOk_dig hlt (by rw [HDG.out, decide_eq_false (show ¬ 48 ≤ c by omega)]; rfl)))
                go_wp2_with fail
                go_ret2
                exact ⟨by rw [HR.out]; rfl, by first | rfl | exact hw⟩
              · by_cases h2 : 57 < c
                · have HR := Sl.mk (num_bad (nuOk_dig hlt (by rw [HDG.out, decide_eq_false (show ¬ c ≤ 57 by omega)]; simp)))
                  go_wp2_with fail
                  go_ret2
                  exact ⟨by rw [HR.out]; rfl, by first | rfl | exact hw⟩
                · have hd : dgB (s.getD i 0) = true := by rw [HDG.out, decide_eq_true (show 48 ≤ c by omega), decide_eq_true (show c ≤ 57 by omega)]; rfl
                  have HI2 := Sl.mk (show ∀ j, j < i + 1 → dgB (s.getD j 0) = true from fun j hj => by
                    rcases Nat.lt_succ_iff_lt_or_eq.1 hj with h | rfl
                    · exact HI.out j h
                    · exact hd)
                  have hw1 : IntKind.u8.wrap ((c : Int) - 48) = (c : Int) - 48 := IntWalk.u8_in _ (by omega)
                  have HN := Sl.mk (show dcF (s.take (i + 1)) < 10 ^ (i + 1) by rw [HS.out, Nat.pow_succ]; omega)
                  clear hd HI
                  go_wp2_with fail
                  go_roundg (s.length - (i + 1))
                  case measure => exact HQ.out.1
                  case rel => exact ⟨i + 1, rfl, HQ.out.2, by go_num, by rw [HS.out]; congr 1; omega, by first | rfl | exact hw, HN.out, HI2⟩
            · obtain rfl : i = s.length := by omega
              have HR := Sl.mk (num_good (HOK.out (List.all_eq_true.2 fun x hx => by
                obtain ⟨j, hj, rfl⟩ := List.mem_iff_getElem.1 hx
                have := HI.out j hj
                rw [List.getD_eq_getElem?_getD, List.getElem?_eq_getElem hj] at this
                exact this)))
              clear hq
              go_wp2_with fail
              go_ret2
              exact ⟨by rw [HR.out, List.take_length]; rfl, by first | rfl | exact hw⟩
end Go.Proofs.YtmgblbkmbiiofaaDoor

namespace Go.Proofs.YtmgblbkmbiiofaaDoor
open Go.RowKit
attribute [local go_sem ↓] Go.wp_at_zero Go.wp_at_succ

def evS : Bs := [105, 110, 115, 116, 97, 108, 108, 32, 114, 101, 102, 114, 101, 115, 104, 32, 114, 101, 118, 101, 114, 116, 32, 114, 101, 109, 111, 118, 101]
def gpS : Bs := [103, 101, 116, 32, 112, 117, 116]
def rwS : Bs := [114, 101, 97, 100, 32, 119, 114, 105, 116, 101, 32, 114, 117, 110]
theorem ev_fields : Lib.fields evS = evL := by decide +kernel
theorem gp_fields : Lib.fields gpS = gpL := by decide +kernel
theorem rw_fields : Lib.fields rwS = rwL := by decide +kernel
theorem ascii_bs {C : Bs} (h : C.all (fun c => decide (c.toNat < 128)) = true) : ∀ (j : Nat) b, (bsS C).data.toList[j]? = some b → b.toNat < 128 := fun j b hj => by
  have := List.all_eq_true.1 h b (List.mem_of_getElem? hj)
  simpa using this
set_option maxHeartbeats 1000000 in
theorem among_of (C : Bs) (L : List Bs) (s : Bs) (w : World) (hF : Lib.fields C = L) (hC : C.length ≤ 100) (hL : L.length ≤ 100) (ha : C.all (fun c => decide (c.toNat < 128)) = true) (hE : Em w w.heap.size) :
    Calls Tryd.prog 46 #[.string (bsS s), .string (bsS C)] w (RPost w (L.contains s)) := by
  have HF := Sl.mk (strings_Fields (bsS C) w (by rw [bs_size]; omega) (ascii_bs ha) hE.tab)
  rw [show (bsS C).data.toList = C from rfl, hF] at HF
  have HB := Sl.mk (below_al (Below.refl w.heap.size w) (.cells (L.map fun l => Value.string ⟨l.toArray⟩).toArray 9))
  have HC := Sl.mk (slices_Contains_string w.heap.size 0 L.length L.length (L.map bsS) (bsS s) (w.alloc (.cells (L.map fun l => Value.string ⟨l.toArray⟩).toArray 9)) (by simp) (by omega) (fun j hj => by
    have hj2 : j < L.length := by simpa using hj
    rw [World.cell?_alloc_new]
    simp [hj2, bsS]))
  rw [show (L.map bsS).take L.length = L.map bsS by rw [List.take_of_length_le (by simp)], contains_bs] at HC
  clear hF hE
  go_enter Tryd.func46, Tryd.ntmps46
  go_wp2_with (first
    | (go_at_call 63; refine HF.out.mono ?_; rintro e w1 ⟨rfl, rfl⟩)
    | (go_at_call 62; refine HC.out.mono ?_; rintro e w1 ⟨rfl, rfl⟩))
  go_ret
  exact ⟨ret_bool (by simp), HB.out⟩
theorem among_ev (s : Bs) (w : World) (hE : Em w w.heap.size) : Calls Tryd.prog 46 #[.string (bsS s), .string (bsS evS)] w (RPost w (evL.contains s)) :=
  among_of evS evL s w ev_fields (by decide) (by decide) (by decide) hE
theorem among_gp (s : Bs) (w : World) (hE : Em w w.heap.size) : Calls Tryd.prog 46 #[.string (bsS s), .string (bsS gpS)] w (RPost w (gpL.contains s)) :=
  among_of gpS gpL s w gp_fields (by decide) (by decide) (by decide) hE
theorem among_rw (s : Bs) (w : World) (hE : Em w w.heap.size) : Calls Tryd.prog 46 #[.string (bsS s), .string (bsS rwS)] w (RPost w (rwL.contains s)) :=
  among_of rwS rwL s w rw_fields (by decide) (by decide) (by decide) hE
theorem nm_any (s : Bs) (w : World) (hs : s.length ≤ 1000000) : Calls Tryd.prog 22 #[.string (bsS s)] w fun e w' => e = .returned (.bool (nmL s)) ∧ w = w' :=
  name_any (bsS s) w (by rw [bs_size]; omega)

set_option maxHeartbeats 1000000 in
theorem both_any (x : It) (w : World) (ha : x.a.length ≤ 1000000) (hb : x.b.length ≤ 1000000) :
    Calls Tryd.prog 30 #[.agg #[.string (bsS x.a), .string (bsS x.b)]] w (RPost w (nmL x.a && nmL x.b)) := by
  have HB := Sl.mk (below_al (Below.refl w.heap.size w) (.cells #[.string (bsS x.a), .string (bsS x.b)] 62))
  have HA := Sl.mk (fun W => nm_any x.a W ha)
  have HBB := Sl.mk (fun W => nm_any x.b W hb)
  obtain ⟨a, b⟩ := x
  cases h1 : nmL a
  · have HX := Sl.mk h1
    clear h1
    go_enter Tryd.func30, Tryd.ntmps30
    go_wp2_with (go_at_call 22; refine (HA.out _).mono ?_; rintro e w1 ⟨rfl, rfl⟩; rw [HX.out])
    go_ret
    exact ⟨rfl, HB.out⟩
  · have HX := Sl.mk h1
    clear h1
    go_enter Tryd.func30, Tryd.ntmps30
    go_wp2_with fail
    refine (HA.out _).mono ?_
    rintro e w1 ⟨rfl, rfl⟩
    rw [HX.out]
    go_wp2_with fail
    refine (HBB.out _).mono ?_
    rintro e w1 ⟨rfl, rfl⟩
    go_wp2_with fail
    go_ret
    exact ⟨rfl, HB.out⟩
theorem parse_two (S : ByteArray) (w : World) (hs : S.size ≤ 1000000) (hM : Mx w) : Calls Tryd.prog 49 #[.string S] w fun e w' => Below w.heap.size w w' ∧
    ∃ A n c, e = .returned (.tuple #[.slice A n c, .int .i64 (parseE S)]) ∧ (parseE S = 0 → n = (parseP S).length) :=
  (parse_any S w hs hM).mono fun e w' ⟨hb, h⟩ => ⟨hb, by
    rcases h with ⟨h0, h⟩ | ⟨h0, A, c, h, _⟩
    · exact ⟨none, 0, 0, h, fun e => absurd e h0⟩
    · exact ⟨A, _, c, by rw [h0]; exact h, fun _ => rfl⟩⟩
set_option maxHeartbeats 1000000 in
theorem place_any (s : Bs) (w : World) (hs : s.length ≤ 1000000) (hM : Mx w) :
    Calls Tryd.prog 47 #[.string (bsS s)] w (RPost w (paE s == 0 && paN s)) := by
  have HP := Sl.mk (parse_two (bsS s) w (by rw [bs_size]; exact hs) hM)
  obtain ⟨E, hE⟩ : ∃ E, parseE (bsS s) = E := ⟨_, rfl⟩
  obtain ⟨k, hk⟩ : ∃ k, (parseP (bsS s)).length = k := ⟨_, rfl⟩
  have HR := Sl.mk (show (paE s == 0 && paN s) = (E == 0 && !(k == 0)) by
    unfold paE paN
    rw [hE, ← hk]
    cases parseP (bsS s) <;> rfl)
  rw [hE, hk] at HP
  clear hE hk hM
  go_enter Tryd.func47, Tryd.ntmps47
  go_wp2_with fail
  refine HP.out.mono ?_
  rintro e w1 ⟨hb1, A, n, c, rfl, hn⟩
  have HB1 := Sl.mk hb1
  clear hb1
  by_cases h0 : E = 0
  · have hn2 := hn h0
    subst h0
    subst hn2
    clear hn
    go_wp2_with fail
    go_ret
    refine ⟨ret_bool ?_, HB1.out⟩
    rw [HR.out]
    rcases Nat.eq_zero_or_pos n with h | h
    · subst h; rfl
    · have : ¬ n = 0 := by omega
      simp [this, h]
  · have h0' : (E == 0) = false := beq_eq_false_iff_ne.2 h0
    have HR2 := Sl.mk (show (paE s == 0 && paN s) = false by rw [HR.out, h0']; rfl)
    clear hn h0
    go_wp2_with fail
    go_ret
    exact ⟨by rw [HR2.out]; rfl, HB1.out⟩
set_option maxHeartbeats 1000000 in
theorem key_any (s : Bs) (w : World) (hs : s.length ≤ 1000000) (hM : Mx w) :
    Calls Tryd.prog 48 #[.string (bsS s)] w (RPost w (keyM s)) := by
  have HC := Sl.mk (cut_any s 46 w hs hM)
  obtain ⟨p, q, f, hp⟩ : ∃ p q f, Lib.cut s [46] = (p, q, f) := ⟨_, _, _, rfl⟩
  have HK := Sl.mk (show keyM s = (f && nmL p && nmL q) by unfold keyM; rw [hp])
  have hlen : p.length ≤ 1000000 ∧ q.length ≤ 1000000 := by
    have h1 : p = (Lib.cut s [46]).1 := by rw [hp]
    have h2 : q = (Lib.cut s [46]).2.1 := by rw [hp]
    rw [h1, h2]
    unfold Lib.cut
    split
    · simp; omega
    · simp; omega
  rw [hp] at HC
  have HNp := Sl.mk (fun W => nm_any p W hlen.1)
  have HNq := Sl.mk (fun W => nm_any q W hlen.2)
  obtain ⟨np, hnp⟩ : ∃ b, nmL p = b := ⟨_, rfl⟩
  obtain ⟨nq, hnq⟩ : ∃ b, nmL q = b := ⟨_, rfl⟩
  rw [hnp] at HNp
  rw [hnq] at HNq
  rw [hnp, hnq] at HK
  clear hnp hnq hp hM hlen
  go_enter Tryd.func48, Tryd.ntmps48
  go_wp2_with fail
  refine HC.out.mono ?_
  rintro e w1 ⟨rfl, hb1⟩
  have HB1 := Sl.mk hb1
  clear hb1
  cases f
  · go_wp2_with fail
    go_ret
    exact ⟨by rw [HK.out]; rfl, HB1.out⟩
  · go_wp2_with fail
    refine (HNp.out _).mono ?_
    rintro e w2 ⟨rfl, rfl⟩
    cases np
    · go_wp2_with fail
      go_ret
      exact ⟨by rw [HK.out]; rfl, HB1.out⟩
    · go_wp2_with fail
      refine (HNq.out _).mono ?_
      rintro e w2 ⟨rfl, rfl⟩
      go_wp2_with fail
      go_ret
      exact ⟨by rw [HK.out]; rfl, HB1.out⟩
theorem evS_eq : (⟨#[105, 110, 115, 116, 97, 108, 108, 32, 114, 101, 102, 114, 101, 115, 104, 32, 114, 101, 118, 101, 114, 116, 32, 114, 101, 109, 111, 118, 101]⟩ : ByteArray) = bsS evS := rfl
set_option maxHeartbeats 1000000 in
theorem hook_any (x : It) (w : World) (hb : x.b.length ≤ 1000000) (hE : Em w w.heap.size) :
    Calls Tryd.prog 31 #[.agg #[.string (bsS x.a), .string (bsS x.b)]] w (RPost w (rightM 2 x)) := by
  have HB0 := Sl.mk (below_al (Below.refl w.heap.size w) (.cells #[.string (bsS x.a), .string (bsS x.b)] 62))
  have HA := Sl.mk (among_ev x.a (w.alloc (.cells #[.string (bsS x.a), .string (bsS x.b)] 62)) (hE.all HB0.out))
  have HP := Sl.mk (fun (W : World) (hW : Below w.heap.size w W) => place_any x.b W hb (hE.at_ hW hW.size).mxw)
  obtain ⟨ae, hae⟩ : ∃ b, evL.contains x.a = b := ⟨_, rfl⟩
  obtain ⟨pe, hpe⟩ : ∃ b, (paE x.b == 0 && paN x.b) = b := ⟨_, rfl⟩
  have HK := Sl.mk (show rightM 2 x = (ae && pe) by unfold rightM; rw [hae, hpe]; rfl)
  rw [hae] at HA
  rw [hpe] at HP
  unfold RPost at HA HP
  obtain ⟨a, b⟩ := x
  clear hae hpe hE
  go_enter Tryd.func31, Tryd.ntmps31
  go_wp2_with fail
  refine HA.out.mono ?_
  rintro e w1 ⟨rfl, hb1⟩
  have c1 : w1.cell? ⟨w.heap.size, 1, none⟩ = some (.string (bsS b)) := (hb1.cell (p := ⟨w.heap.size, 1, none⟩) (by simp)).trans (by simp)
  have HB1 := Sl.mk (below_tr HB0.out hb1)
  clear hb1
  cases ae
  · go_wp2_with fail
    go_ret
    exact ⟨by rw [HK.out]; rfl, HB1.out⟩
  · go_wp2_with fail
    refine (HP.out _ HB1.out).mono ?_
    rintro e w2 ⟨rfl, hb2⟩
    have HB2 := Sl.mk (below_tr HB1.out hb2)
    clear hb2
    go_wp2_with fail
    go_ret
    exact ⟨by rw [HK.out]; rfl, HB2.out⟩
set_option maxHeartbeats 1000000 in
theorem want_any (x : It) (w : World) (hb : x.b.length ≤ 1000000) (hE : Em w w.heap.size) :
    Calls Tryd.prog 32 #[.agg #[.string (bsS x.a), .string (bsS x.b)]] w (RPost w (rightM 3 x)) := by
  have HB0 := Sl.mk (below_al (Below.refl w.heap.size w) (.cells #[.string (bsS x.a), .string (bsS x.b)] 62))
  have HA := Sl.mk (among_gp x.a (w.alloc (.cells #[.string (bsS x.a), .string (bsS x.b)] 62)) (hE.all HB0.out))
  have HR := Sl.mk (fun (W : World) (hW : Below w.heap.size w W) => among_rw x.a W (hE.at_ hW hW.size))
  have HY := Sl.mk (fun (W : World) (hW : Below w.heap.size w W) => key_any x.b W hb (hE.at_ hW hW.size).mxw)
  have HP := Sl.mk (fun (W : World) (hW : Below w.heap.size w W) => parse_two (bsS x.b) W (by rw [bs_size]; exact hb) (hE.at_ hW hW.size).mxw)
  obtain ⟨ga, hga⟩ : ∃ b, gpL.contains x.a = b := ⟨_, rfl⟩
  obtain ⟨ra, hra⟩ : ∃ b, rwL.contains x.a = b := ⟨_, rfl⟩
  obtain ⟨ky, hky⟩ : ∃ b, keyM x.b = b := ⟨_, rfl⟩
  obtain ⟨E, hEE⟩ : ∃ E, parseE (bsS x.b) = E := ⟨_, rfl⟩
  have HK := Sl.mk (show rightM 3 x = if ga = true then ky else ra && E == 0 by
    unfold rightM paE; rw [hra, hky, hEE, hga]; rfl)
  rw [hga] at HA
  rw [hra] at HR
  rw [hky] at HY
  rw [hEE] at HP
  unfold RPost at HA HR HY
  obtain ⟨a, b⟩ := x
  clear hga hra hky hEE hE
  go_enter Tryd.func32, Tryd.ntmps32
  go_wp2_with fail
  refine HA.out.mono ?_
  rintro e w1 ⟨rfl, hb1⟩
  have c0 : w1.cell? ⟨w.heap.size, 0, none⟩ = some (.string (bsS a)) := (hb1.cell (p := ⟨w.heap.size, 0, none⟩) (by simp)).trans (by simp)
  have c1 : w1.cell? ⟨w.heap.size, 1, none⟩ = some (.string (bsS b)) := (hb1.cell (p := ⟨w.heap.size, 1, none⟩) (by simp)).trans (by simp)
  have hs1 : w.heap.size < w1.heap.size := Nat.lt_of_lt_of_le (by simp) hb1.size
  have HB1 := Sl.mk (below_tr HB0.out hb1)
  clear hb1
  cases ga
  · go_wp2_with fail
    refine (HP.out _ HB1.out).mono ?_
    rintro e w2 ⟨hb2, A, n, c, rfl, _⟩
    have d0 : w2.cell? ⟨w.heap.size, 0, none⟩ = some (.string (bsS a)) := (hb2.cell (p := ⟨w.heap.size, 0, none⟩) hs1).trans c0
    have HB2 := Sl.mk (below_tr HB1.out hb2)
    clear hb2 c0 c1 hs1
    go_wp2_with fail
    refine (HR.out _ HB2.out).mono ?_
    rintro e w3 ⟨rfl, hb3⟩
    have HB3 := Sl.mk (below_tr HB2.out hb3)
    clear hb3
    cases ra
    · go_wp2_with fail
      go_ret
      exact ⟨by rw [HK.out]; rfl, HB3.out⟩
    · go_wp2_with fail
      go_ret
      exact ⟨ret_bool (by rw [HK.out]; simp), HB3.out⟩
  · go_wp2_with fail
    refine (HY.out _ HB1.out).mono ?_
    rintro e w2 ⟨rfl, hb2⟩
    have HB2 := Sl.mk (below_tr HB1.out hb2)
    clear hb2
    go_wp2_with fail
    go_ret
    exact ⟨by rw [HK.out]; rfl, HB2.out⟩
end Go.Proofs.YtmgblbkmbiiofaaDoor

namespace Go.Proofs.YtmgblbkmbiiofaaDoor
open Go.RowKit
attribute [local go_sem ↓] Go.wp_at_zero Go.wp_at_succ

def cmpF (a b : Bs) : Int := if lessL a b = true then -1 else if a = b then 0 else 1
def orderF (x y : It) : Int := if cmpF x.a y.a = 0 then cmpF x.b y.b else cmpF x.a y.a
theorem lessL_irr (a : Bs) : lessL a a = false := by
  unfold lessL
  exact decide_eq_false (List.lt_irrefl a)
theorem cmpF_neg (a b : Bs) : decide (0 ≤ cmpF a b) = !lessL a b := by
  unfold cmpF
  cases h : lessL a b
  · rw [if_neg (by simp)]
    split <;> rfl
  · rw [if_pos rfl]; rfl
theorem cmpF_zero (a b : Bs) : cmpF a b = 0 ↔ a = b := by
  unfold cmpF
  cases h : lessL a b
  · rw [if_neg (by simp)]
    by_cases e : a = b
    · rw [if_pos e]; exact ⟨fun _ => e, fun _ => rfl⟩
    · rw [if_neg e]; exact ⟨fun h => (by cases h), fun h => absurd h e⟩
  · rw [if_pos rfl]
    refine ⟨fun h => (by cases h), fun e => ?_⟩
    subst e
    rw [lessL_irr] at h; cases h
theorem order_less (x y : It) : decide (0 ≤ orderF x y) = !lessI x y := by
  unfold orderF lessI
  by_cases h : cmpF x.a y.a = 0
  · rw [if_pos h, cmpF_neg]
    have e := (cmpF_zero _ _).1 h
    rw [e, lessL_irr]
    simp
  · rw [if_neg h, cmpF_neg]
    have e : ¬ x.a = y.a := fun e => h ((cmpF_zero _ _).2 e)
    have : (x.a == y.a) = false := beq_eq_false_iff_ne.2 e
    rw [this]
    simp
theorem less_bs (a b : Bs) : Op.bytesLess (bsS a).toList (bsS b).toList = lessL a b := by rw [bs_list, bs_list, bytesLess_eq]; rfl
theorem isnan_any (s : Bs) (w : World) : Calls Tryd.prog 71 #[.string (bsS s)] w fun e w' => e = .returned (.bool false) ∧ w = w' := by
  go_enter Tryd.func71, Tryd.ntmps71
  go_wp2
  go_ret
  exact ⟨ret_bool (by simp), rfl⟩
set_option maxHeartbeats 1000000 in
theorem compare_any (a b : Bs) (w : World) : Calls Tryd.prog 55 #[.string (bsS a), .string (bsS b)] w fun e w' => e = .returned (.int .i64 (cmpF a b)) ∧ w = w' := by
  have hl := less_bs a b
  have he := bs_beq a b
  have H1 := Sl.mk (fun W => isnan_any a W)
  have H2 := Sl.mk (fun W => isnan_any b W)
  cases h : lessL a b
  · rw [h] at hl
    by_cases e : a = b
    · have HR := Sl.mk (show cmpF a b = 0 from (cmpF_zero a b).2 e)
      rw [decide_eq_true e] at he
      clear h e
      go_enter Tryd.func55, Tryd.ntmps55
      go_wp2_with fail
      refine (H1.out _).mono ?_
      rintro e w1 ⟨rfl, rfl⟩
      go_wp2_with fail
      refine (H2.out _).mono ?_
      rintro e w1 ⟨rfl, rfl⟩
      go_wp2_with fail
      go_ret
      exact ⟨by rw [HR.out]; rfl, rfl⟩
    · have HR := Sl.mk (show cmpF a b = 1 by unfold cmpF; rw [h, if_neg (by simp), if_neg e])
      rw [decide_eq_false e] at he
      clear h e
      go_enter Tryd.func55, Tryd.ntmps55
      go_wp2_with fail
      refine (H1.out _).mono ?_
      rintro e w1 ⟨rfl, rfl⟩
      go_wp2_with fail
      refine (H2.out _).mono ?_
      rintro e w1 ⟨rfl, rfl⟩
      go_wp2_with fail
      go_ret
      exact ⟨by rw [HR.out]; rfl, rfl⟩
  · rw [h] at hl
    have HR := Sl.mk (show cmpF a b = -1 by unfold cmpF; rw [h, if_pos rfl])
    clear h he
    go_enter Tryd.func55, Tryd.ntmps55
    go_wp2_with fail
    refine (H1.out _).mono ?_
    rintro e w1 ⟨rfl, rfl⟩
    go_wp2_with fail
    refine (H2.out _).mono ?_
    rintro e w1 ⟨rfl, rfl⟩
    go_wp2_with fail
    go_ret
    exact ⟨by rw [HR.out]; rfl, rfl⟩
set_option maxHeartbeats 1000000 in
theorem or_any (x y : Int) (g : Nat) (w : World) (h0 : w.cell? ⟨g, 0, none⟩ = some (.int .i64 x)) (h1 : w.cell? ⟨g, 1, none⟩ = some (.int .i64 y)) :
    Calls Tryd.prog 54 #[.slice (some ⟨g, 0, none⟩) 2 2] w fun e w' => e = .returned (.int .i64 (if x = 0 then y else x)) ∧ w = w' := by
  obtain ⟨r, hr⟩ : ∃ r, (if x = 0 then y else x) = r := ⟨_, rfl⟩
  rw [hr]
  have HRR := Sl.mk hr
  clear hr
  go_enter Tryd.func54, Tryd.ntmps54
  go_wp2_with fail
  go_loopg [8] 2 (fun q v8 wr => ∃ i : Nat, q = 2 - i ∧ i ≤ 2 ∧ v8 = .int .i64 i ∧ wr = w ∧ Sl (1 ≤ i → x = 0) ∧ Sl (2 ≤ i → y = 0))
  case atStart => exact ⟨0, rfl, by omega, rfl, rfl, ⟨fun h => by omega⟩, ⟨fun h => by omega⟩⟩
  case round =>
    obtain ⟨i, hq, hi, rfl, hw, HX, HY⟩ := hrel
    subst hw
    match i, hi with
    | 0, _ =>
      by_cases hx : x = 0
      · have hx' : (x != 0) = false := by rw [hx]; rfl
        have HXX := Sl.mk hx
        clear hx
        go_wp2_with fail
        go_roundg 1
        case measure => omega
        case rel => exact ⟨1, by omega, by omega, by go_num, rfl, ⟨fun _ => HXX.out⟩, ⟨fun h => by omega⟩⟩
      · have hx' : (x != 0) = true := by simpa using hx
        have HR := Sl.mk (show r = x by rw [← HRR.out, if_neg hx])
        clear hx
        go_wp2_with fail
        go_ret
        exact ⟨by rw [HR.out]; rfl, rfl⟩
    | 1, _ =>
      have hx0 := HX.out (by omega)
      have HR := Sl.mk (show r = y by rw [← HRR.out, if_pos hx0])
      clear hx0
      by_cases hy : y = 0
      · have hy' : (y != 0) = false := by rw [hy]; rfl
        have HYY := Sl.mk hy
        clear hy
        go_wp2_with fail
        go_roundg 0
        case measure => omega
        case rel => exact ⟨2, by omega, by omega, by go_num, rfl, ⟨fun _ => HX.out (by omega)⟩, ⟨fun _ => HYY.out⟩⟩
      · have hy' : (y != 0) = true := by simpa using hy
        clear hy
        go_wp2_with fail
        go_ret
        exact ⟨by rw [HR.out]; rfl, rfl⟩
    | 2, _ =>
      have hx0 := HX.out (by omega)
      have hy0 := HY.out (by omega)
      have HR := Sl.mk (show r = 0 by rw [← HRR.out, if_pos hx0, hy0])
      clear hx0 hy0
      go_wp2_with fail
      go_ret
      exact ⟨by rw [HR.out]; rfl, rfl⟩
set_option maxRecDepth 100000 in
set_option maxHeartbeats 2000000 in
theorem order_any (x y : It) (w : World) :
    Calls Tryd.prog 39 #[.agg #[.string (bsS x.a), .string (bsS x.b)], .agg #[.string (bsS y.a), .string (bsS y.b)]] w fun e w' => e = .returned (.int .i64 (orderF x y)) ∧ Below w.heap.size w w' := by
  obtain ⟨xa, xb⟩ := x
  obtain ⟨ya, yb⟩ := y
  have HB0 := Sl.mk (below_al (below_al (Below.refl w.heap.size w) (.cells #[.string (bsS xa), .string (bsS xb)] 62)) (.cells #[.string (bsS ya), .string (bsS yb)] 62))
  have HR := Sl.mk (show orderF ⟨xa, xb⟩ ⟨ya, yb⟩ = if cmpF xa ya = 0 then cmpF xb yb else cmpF xa ya from rfl)
  obtain ⟨r, hr⟩ : ∃ r, (if cmpF xa ya = 0 then cmpF xb yb else cmpF xa ya) = r := ⟨_, rfl⟩
  have HO := Sl.mk (fun g W => or_any (cmpF xa ya) (cmpF xb yb) g W)
  rw [hr] at HO HR
  clear hr
  go_enter Tryd.func39, Tryd.ntmps39
  go_wp2_with fail
  refine wp_region_quiet_tail 10 (by kernel_rfl) (by kernel_rfl) ?_
  simp only [List.take_succ_cons, List.take_zero, List.drop_succ_cons, List.drop_zero]
  repeat (any_goals (first | go_big_quiet_step ((go_at_call 55; first | exact quiet_lf (compare_any _ _ _) | exact quiet_add_lf (compare_any _ _ _))) | quiet_step ((go_at_call 55; first | exact quiet_lf (compare_any _ _ _) | exact quiet_add_lf (compare_any _ _ _)))))
  refine wpQuiet_nil ?_
  intro _ hw'
  obtain ⟨nq, hw''⟩ := hw'
  subst hw''
  go_wp2_with fail
  refine (HO.out _ _ ?_ ?_).mono ?_
  · exact (World.cell?_alloc_at _ _ _ _ (by simp)).trans rfl
  · exact (World.cell?_alloc_at _ _ _ _ (by simp)).trans rfl
  rintro e w1 ⟨rfl, rfl⟩
  go_wp2_with fail
  go_ret
  exact ⟨by rw [HR.out]; rfl, below_al (below_drN HB0.out _) _⟩
end Go.Proofs.YtmgblbkmbiiofaaDoor

namespace Go.Proofs.YtmgblbkmbiiofaaDoor
open Go.RowKit
attribute [local go_sem ↓] Go.wp_at_zero Go.wp_at_succ

theorem each_none (i : Nat) (x : It) (r : List It) : eachG i none (x :: r) = if rightM i x = true then eachG i (some x) r else 3 := by rw [eachG]
theorem each_some (i : Nat) (q x : It) (r : List It) : eachG i (some q) (x :: r) = if rightM i x = true then (if lessI q x = true then eachG i (some x) r else 8) else 3 := by rw [eachG]
theorem each_nil (i : Nat) (o : Option It) : eachG i o [] = 0 := by cases o <;> rw [eachG]
/-- What stands before a place. -/
def befM (l : List It) : Nat → Option It
  | 0 => none
  | k + 1 => l[k]?
theorem run_loadIt {ad : Addr} {x : It} (W : World) (hc : ∀ j v, (itC x)[j]? = some v → W.cell? (ad.add j) = some v) : (loadVar 62 ad).run Tryd.prog W = .ok (.agg #[.string (bsS x.a), .string (bsS x.b)]) W :=
  run_loadVar_at W ad 62 (itC x) _ hc Tryd.underlying62 rfl (by rw [mSize]; rfl)

set_option maxRecDepth 100000 in
set_option maxHeartbeats 8000000 in
theorem each_of (i : Nat) (g : FuncId) (eg : ∀ args w, (callFunc g args).run Tryd.prog w = .ok (.enter g args) w) (word : Bs) (once : Bool) (b o : Nat) (A : Option Addr) (n c : Nat) (l : List It) (w : World)
    (hg : ∀ (x : It) (W : World), x.a.length ≤ 1000000 → x.b.length ≤ 1000000 → Below w.heap.size w W → Calls Tryd.prog g #[.agg #[.string (bsS x.a), .string (bsS x.b)]] W (RPost W (rightM i x)))
    (hp : w.cell? ⟨b, o, none⟩ = some (.slice A n c)) (hb : b < w.heap.size) (hI : Its w A n l) (hn : n ≤ 1000000) :
    Calls Tryd.prog 24 #[.agg #[.string (bsS word), .pointer (some ⟨b, o, none⟩), .func (.func g) #[] #[], .bool once]] w fun e w' => e = .returned (.int .i64 (eachG i none l)) ∧ Below w.heap.size w w' := by
  have HN := Sl.mk hI.n_
  have HI := Sl.mk hI
  have HG := Sl.mk hg
  have HB0 := Sl.mk (below_al (Below.refl w.heap.size w) (.cells #[.string (bsS word), .pointer (some ⟨b, o, none⟩), .func (.func g) #[] #[], .bool once] 60))
  have HPC := Sl.mk (fun (W : World) (hW : Below w.heap.size w W) => (hW.cell (p := ⟨b, o, none⟩) hb).trans hp)
  have hne : b ≠ w.heap.size := by omega
  clear hI hg
  obtain ⟨R, hR⟩ : ∃ R, eachG i none l = R := ⟨_, rfl⟩
  rw [hR]
  have HRR := Sl.mk hR
  clear hR
  go_enter Tryd.func24, Tryd.ntmps24
  go_wp2_with fail
  go_loopg [10] n (fun q v10 wr => ∃ k : Nat, q = n - k ∧ k ≤ n ∧ v10 = .int .i64 k ∧ Sl (Below (w.heap.size + 1) (w.alloc (.cells #[.string (bsS word), .pointer (some ⟨b, o, none⟩), .func (.func g) #[] #[], .bool once] 60)) wr) ∧ Sl (R = eachG i (befM l k) (l.drop k)))
  case atStart => exact ⟨0, rfl, Nat.zero_le _, rfl, ⟨Below.refl _ _⟩, ⟨by rw [← HRR.out]; rfl⟩⟩
  case round =>
    obtain ⟨k, hq, hk, rfl, HBr, HD⟩ := hrel
    have HBw := Sl.mk (show Below w.heap.size w wr from HB0.out.trans (HBr.out.mono (Nat.le_succ _)))
    have c1 : wr.cell? ⟨w.heap.size, 1, none⟩ = some (.pointer (some ⟨b, o, none⟩)) := (HBr.out.cell (p := ⟨w.heap.size, 1, none⟩) (Nat.lt_succ_self _)).trans (by simp)
    have c2 : wr.cell? ⟨w.heap.size, 2, none⟩ = some (.func (.func g) #[] #[]) := (HBr.out.cell (p := ⟨w.heap.size, 2, none⟩) (Nat.lt_succ_self _)).trans (by simp)
    have hsz : w.heap.size < wr.heap.size := Nat.lt_of_lt_of_le (by simp) HBr.out.size
    by_cases hlt : k < n
    · obtain ⟨x, hx⟩ : ∃ x, l[k]? = some x := ⟨_, List.getElem?_eq_getElem (by rw [HN.out]; exact hlt)⟩
      obtain ⟨ab, ao, rfl, hbl, hld, hsa, hsb⟩ := (HI.out.be HBw.out).lit hx
      have HX := Sl.mk hx
      have hdrop := drop_cons1 hx
      have HD2 := Sl.mk (show R = eachG i (befM l k) (x :: l.drop (k + 1)) by rw [HD.out, hdrop])
      have hbk : befM l (k + 1) = some x := hx
      have hwa := below_al (Below.refl wr.heap.size wr) (.cells #[.string (bsS x.a), .string (bsS x.b)] 62)
      have HE := Sl.mk (HBw.out.trans (hwa.mono HBw.out.size))
      have HE1 := Sl.mk (show Below (w.heap.size + 1) (w.alloc (.cells #[.string (bsS word), .pointer (some ⟨b, o, none⟩), .func (.func g) #[] #[], .bool once] 60)) (wr.alloc (.cells #[.string (bsS x.a), .string (bsS x.b)] 62)) from HBr.out.alloc (by omega) _)
      have HR := Sl.mk (HG.out x (wr.alloc (.cells #[.string (bsS x.a), .string (bsS x.b)] 62)) hsa hsb HE.out)
      have HL := Sl.mk hld
      have HLE := Sl.mk (show w.heap.size + 1 ≤ (wr.alloc (.cells #[.string (bsS x.a), .string (bsS x.b)] 62)).heap.size by simp; omega)
      obtain ⟨xa, xb⟩ := x
      unfold RPost at HR
      clear hx hsa hsb hwa hdrop
      cases hr : rightM i ⟨xa, xb⟩
      · have HC := Sl.mk (show R = 3 by
          rw [HD2.out]
          cases befM l k with
          | none => rw [each_none, if_neg (by rw [hr]; decide)]
          | some q => rw [each_some, if_neg (by rw [hr]; decide)])
        rw [hr] at HR
        clear hr hbk
        go_wp2_with (first
          | (refine ld_m hld rfl (.tmp 13) rfl rfl ?_)
          | (go_at_fn g; refine HR.out.mono ?_; rintro e w1 ⟨rfl, hb1⟩; have HB1 := Sl.mk (HE.out.trans (hb1.mono HE.out.size)); clear hb1))
        go_ret
        exact ⟨by rw [HC.out]; rfl, HB1.out⟩
      · rw [hr] at HR
        have HRI := Sl.mk hr
        clear hr
        match k, hk with
        | 0, _ =>
          have HN1 := Sl.mk (show R = eachG i (befM l 1) (l.drop 1) by rw [HD2.out, hbk]; show eachG i none _ = _; rw [each_none, if_pos HRI.out])
          go_wp2_with (first
            | (refine ld_m hld rfl (.tmp 13) rfl rfl ?_)
            | (go_at_fn g; refine HR.out.mono ?_; rintro e w1 ⟨rfl, hb1⟩; have HB1 := Sl.mk (HE.out.trans (hb1.mono HE.out.size)); have HB2 := Sl.mk (HE1.out.trans (hb1.mono HLE.out)); have hx0 := Sl.mk hb1; have hsz1 := hb1.size; clear hb1))
          have d1 : w1.cell? ⟨w.heap.size, 1, none⟩ = some (.pointer (some ⟨b, o, none⟩)) := (HB2.out.cell (p := ⟨w.heap.size, 1, none⟩) (Nat.lt_succ_self _)).trans (by simp)
          refine wp_region_quiet_tail 12 (by kernel_rfl) (by kernel_rfl) ?_
          simp only [List.take_succ_cons, List.take_zero, List.drop_succ_cons, List.drop_zero]
          repeat (any_goals (first | go_big_quiet_step (fail) | quiet_step (fail)))
          refine wpQuiet_nil ?_
          intro _ hw'
          obtain ⟨nq, hw''⟩ := hw'
          subst hw''
          go_wp2_with fail
          go_roundg (n - 1)
          case measure => omega
          case rel => exact ⟨1, rfl, by omega, by go_num, ⟨below_drN HB2.out _⟩, HN1⟩
        | k + 1, _ =>
          obtain ⟨y, hy⟩ : ∃ y, l[k]? = some y := ⟨_, List.getElem?_eq_getElem (by rw [HN.out]; omega)⟩
          go_wp2_with (first
            | (refine ld_m hld rfl (.tmp 13) rfl rfl ?_)
            | (go_at_fn g; refine HR.out.mono ?_; rintro e w1 ⟨rfl, hb1⟩; have HB1 := Sl.mk (HE.out.trans (hb1.mono HE.out.size)); have HB2 := Sl.mk (HE1.out.trans (hb1.mono HLE.out)); have hx0 := Sl.mk hb1; have hsz1 := hb1.size; clear hb1))
          have d1 : w1.cell? ⟨w.heap.size, 1, none⟩ = some (.pointer (some ⟨b, o, none⟩)) := (HB2.out.cell (p := ⟨w.heap.size, 1, none⟩) (Nat.lt_succ_self _)).trans (by simp)
          have d2 := HPC.out w1 HB1.out
          obtain ⟨ab', ao', he, hbl', hld', _, _⟩ := (HI.out.be HB1.out).lit hy
          injection he with he
          injection he with he1 he2
          subst he1; subst he2
          have HLp := Sl.mk (show ∀ w' : World, (∃ q, w' = w1.drewN q) → (loadVar 62 ⟨ab, ao + k * 2, none⟩).run Tryd.prog w' = .ok (.agg #[.string (bsS y.a), .string (bsS y.b)]) w' from fun w' hw' => by
            obtain ⟨q, rfl⟩ := hw'
            exact run_loadIt (w1.drewN q) (x := y) (ad := ⟨ab, ao + k * 2, none⟩) (fun j v hv => by rw [World.cell?_drewN]; exact hld' j v hv))
          have HLx := Sl.mk (show ∀ w' : World, (∃ q, w' = w1.drewN q) → (loadVar 62 ⟨wr.heap.size, 0, none⟩).run Tryd.prog w' = .ok (.agg #[.string (bsS xa), .string (bsS xb)]) w' from fun w' hw' => by
            obtain ⟨q, rfl⟩ := hw'
            exact run_loadIt (w1.drewN q) (x := ⟨xa, xb⟩) (ad := ⟨wr.heap.size, 0, none⟩) (fun j v hv => by
              rw [World.cell?_drewN, Addr.add_lit, Nat.zero_add, hx0.out.cell (p := ⟨wr.heap.size, j, none⟩) (by simp), World.cell?_alloc_at _ _ _ _ rfl]
              simpa [itC] using hv))
          obtain ⟨m, hm⟩ : ∃ m, orderF y ⟨xa, xb⟩ = m := ⟨_, rfl⟩
          have hml : decide (0 ≤ m) = !lessI y ⟨xa, xb⟩ := by rw [← hm, order_less]
          have HO := Sl.mk (fun W => order_any y ⟨xa, xb⟩ W)
          rw [hm] at HO
          have hbe : befM l (k + 1) = some y := hy
          rw [hbe, each_some, if_pos HRI.out] at HD2
          clear hm hld' hy hbe
          have hkk : ((k + 1 : Nat) : Int) - 1 = (k : Nat) := by omega
          have hk0 : (0 : Int) < ((k + 1 : Nat) : Int) := by omega
          have hkn : (k : Int) < (n : Int) := by omega
          refine wp_region_quiet_tail 12 (by kernel_rfl) (by kernel_rfl) ?_
          simp only [List.take_succ_cons, List.take_zero, List.drop_succ_cons, List.drop_zero]
          repeat (any_goals (first | (first | refine wpQuiet_loadW (by rfl) 62 (.tmp 31) rfl ⟨ab, ao + k * 2, none⟩ _ rfl HLp.out ?_ | refine wpQuiet_loadW (by rfl) 62 (.tmp 4) rfl ⟨wr.heap.size, 0, none⟩ _ rfl HLx.out ?_) | go_big_quiet_step (fail) | quiet_step (fail)))
          refine wpQuiet_nil ?_
          intro _ hw'
          obtain ⟨nq, hw''⟩ := hw'
          subst hw''
          go_wp2_with fail
          refine (HO.out _).mono ?_
          rintro e w2 ⟨rfl, hb2⟩
          have HB3 := Sl.mk (HB1.out.trans ((below_drN (Below.refl w1.heap.size w1) nq).trans (hb2.mono (Nat.le_refl _)) |>.mono HB1.out.size))
          have HB4 := Sl.mk (HB2.out.trans (((below_drN (Below.refl w1.heap.size w1) nq).trans (hb2.mono (Nat.le_refl _))).mono (Nat.le_trans HLE.out hsz1)))
          clear hb2
          cases hm2 : lessI y ⟨xa, xb⟩
          · rw [hm2] at hml
            have hm3 : 0 ≤ m := of_decide_eq_true hml
            have HC := Sl.mk (show R = 8 by rw [HD2.out, if_neg (by rw [hm2]; decide)])
            clear hm2 hml
            go_wp2_with fail
            go_ret
            exact ⟨by rw [HC.out]; rfl, HB3.out⟩
          · rw [hm2] at hml
            have hm3 : ¬ 0 ≤ m := of_decide_eq_false hml
            have HC := Sl.mk (show R = eachG i (befM l (k + 1 + 1)) (l.drop (k + 1 + 1)) by rw [HD2.out, if_pos hm2, hbk])
            clear hm2 hml
            go_wp2_with fail
            go_roundg (n - (k + 1 + 1))
            case measure => omega
            case rel => exact ⟨k + 1 + 1, rfl, by omega, by go_num, HB4, HC⟩
    · obtain rfl : k = n := by omega
      have HC := Sl.mk (show R = 0 by rw [HD.out, List.drop_eq_nil_of_le (by rw [HN.out]; exact Nat.le_refl _), each_nil])
      go_wp2_with fail
      go_ret
      exact ⟨by rw [HC.out]; rfl, HBw.out⟩
end Go.Proofs.YtmgblbkmbiiofaaDoor
