/-
  The contract of slices.Concat at two slices of items.
  The contracts of slices.IndexFunc and slices.ContainsFunc at items, and of twice.
-/
import Derived.Test.YtmgblbkmbiiofaaDoorMd9
import Derived.Test.YtmgblbkmbiiofaaDoorMd5
import Derived.Shelf.GgClosure.Gives

namespace Go.Proofs.YtmgblbkmbiiofaaDoor
open Go.RowKit
attribute [local go_sem ↓] Go.wp_at_zero Go.wp_at_succ

theorem ownI_form {w : World} {base n : Nat} {v : Value} {l : List It} (h : w.ownsRow base 62 2 v n (itsC l)) : ∃ A c, v = .slice A n c ∧ OwnI w base A n c l := by
  obtain ⟨A, c, rfl⟩ := ownForm h
  exact ⟨A, c, rfl, h⟩
theorem below_own {w w' : World} {base : Nat} {v : Value} (hg : w.grownBy w' v.ownBlock) (hb : ∀ g, v.ownBlock = some g → base ≤ g) (hs : base ≤ w.heap.size) : Below base w w' :=
  (Below.refl base w).grown hg hs hb
set_option maxRecDepth 100000 in
set_option maxHeartbeats 8000000 in
theorem concat_any (g : Nat) (A1 A2 : Option Addr) (n1 n2 c1 c2 : Nat) (l1 l2 : List It) (w : World) (h1 : n1 ≤ 1000000) (h2 : n2 ≤ 1000000) (hr1 : Its w A1 n1 l1) (hr2 : Its w A2 n2 l2)
    (g0 : w.cell? ⟨g, 0, none⟩ = some (.slice A1 n1 c1)) (g1 : w.cell? ⟨g, 1, none⟩ = some (.slice A2 n2 c2)) (hg : g < w.heap.size) :
    Calls Tryd.prog 26 #[.slice (some ⟨g, 0, none⟩) 2 2] w fun e w' => ∃ A c, e = .returned (.slice A (n1 + n2) c) ∧ OwnI w' w.heap.size A (n1 + n2) c (l1 ++ l2) ∧ Below w.heap.size w w' := by
  obtain ⟨i0, hi, hz, hs, hby⟩ := info_it
  obtain ⟨N, hN⟩ : ∃ N : Nat, n1 + n2 = N := ⟨_, rfl⟩
  have HNN := Sl.mk hN
  rw [hN]
  have HR1 := Sl.mk hr1
  have HR2 := Sl.mk hr2
  have w1 : IntKind.i64.wrap ((0 : Int) + (n1 : Int)) = (n1 : Nat) := by rw [Int.zero_add]; exact Go.IntWalk.i64_in _ (by omega)
  have w2 : IntKind.i64.wrap ((n1 : Int) + (n2 : Int)) = (N : Nat) := by rw [show (n1 : Int) + (n2 : Int) = (N : Nat) by omega]; exact Go.IntWalk.i64_in _ (by omega)
  have p1 : ¬ (n1 : Int) < 0 := by omega
  have p2 : ¬ (N : Int) < 0 := by omega
  have HG := Sl.mk (fun W => grow_any N W (by omega))
  have hG0 := Sl.mk (fun (W : World) (hW : Below w.heap.size w W) => (hW.cell (p := ⟨g, 0, none⟩) hg).trans g0)
  have hG1 := Sl.mk (fun (W : World) (hW : Below w.heap.size w W) => (hW.cell (p := ⟨g, 1, none⟩) hg).trans g1)
  clear hr1 hr2 hN hg
  go_enter Tryd.func26, Tryd.ntmps26
  go_wp2_with fail
  go_loopg [3, 11] 2 (fun q v3 v11 wr => ∃ i : Nat, q = 2 - i ∧ i ≤ 2 ∧ v11 = .int .i64 i ∧ wr = w ∧ v3 = .int .i64 ((if i = 0 then 0 else if i = 1 then n1 else N : Nat) : Int))
  case atStart => exact ⟨0, rfl, by omega, rfl, rfl, rfl⟩
  case round =>
    obtain ⟨i, hq, hi2, rfl, hw, rfl⟩ := hrel
    subst hw
    match i, hi2 with
    | 0, _ =>
      go_wp2_with fail
      go_roundg 1
      case measure => omega
      case rel => exact ⟨1, rfl, by omega, by go_num, rfl, rfl⟩
    | 1, _ =>
      go_wp2_with fail
      go_roundg 0
      case measure => omega
      case rel => exact ⟨2, rfl, by omega, by go_num, rfl, rfl⟩
    | 2, _ =>
      obtain ⟨w0, hw0⟩ : ∃ w0, w0 = wr := ⟨_, rfl⟩
      subst hw0
      go_wp2_with fail
      refine (HG.out _).mono ?_
      rintro e wg ⟨A, c, rfl, hown, hbg⟩
      have HBG := Sl.mk hbg
      have HOW := Sl.mk hown
      clear hown hbg g0 g1
      go_wp2_with fail
      go_loopg [6, 27] 2 (fun q v6 v27 wx => ∃ i : Nat, q = 2 - i ∧ i ≤ 2 ∧ v27 = .int .i64 i ∧ Sl (Below w0.heap.size w0 wx) ∧ ∃ A c, v6 = .slice A (if i = 0 then 0 else if i = 1 then n1 else N : Nat) c ∧ Sl (OwnI wx w0.heap.size A (if i = 0 then 0 else if i = 1 then n1 else N : Nat) c (if i = 0 then [] else if i = 1 then l1 else l1 ++ l2)))
      case atStart => exact ⟨0, rfl, by omega, rfl, HBG, A, c, rfl, HOW⟩
      case round =>
        obtain ⟨i, hq, hi2, rfl, HBx, A', c', rfl, HOx⟩ := hrel
        have G0 := hG0.out _ HBx.out
        have G1 := hG1.out _ HBx.out
        have hbase := HBx.out.size
        match i, hi2 with
        | 0, _ =>
          have HO := Sl.mk (show OwnI wr w0.heap.size A' 0 c' [] from HOx.out)
          go_wp2_with (at_builtin; refine wpList_append_any _ rfl (.tmp 31) (.tmp 32) 26 rfl w0.heap.size 62 i0 _ 2 32 Tryd.underlying26 hi hz hs hby rfl (by decide) _ _ _ rfl HO.out _ A1 n1 c1 (itsC l1) rfl (HR1.out.be HBx.out).row (itsC_one l1) (by unfold maxLen; omega) (by omega) (by omega) ?_)
          intro v2 wy hown2 hgrow2 _
          obtain ⟨A2', c2', rfl, hO2⟩ := ownI_form (l := l1) (by simpa [itsC_app, itsC] using hown2)
          have HBy := Sl.mk (show Below w0.heap.size w0 wy from HBx.out.trans (below_own hgrow2 (fun q hq => ownGe HO.out hq) hbase))
          have HOy := Sl.mk hO2
          clear hown2 hgrow2 hO2
          go_wp2_with fail
          go_roundg 1
          case measure => omega
          case rel => exact ⟨1, rfl, by omega, by go_num, HBy, A2', c2', by simp, by simpa using HOy⟩
        | 1, _ =>
          have HO := Sl.mk (show OwnI wr w0.heap.size A' n1 c' l1 from HOx.out)
          go_wp2_with (at_builtin; refine wpList_append_any _ rfl (.tmp 31) (.tmp 32) 26 rfl w0.heap.size 62 i0 _ 2 32 Tryd.underlying26 hi hz hs hby rfl (by decide) _ _ _ rfl HO.out _ A2 n2 c2 (itsC l2) rfl (HR2.out.be HBx.out).row (itsC_one l2) (by unfold maxLen; omega) (by omega) (by omega) ?_)
          intro v2 wy hown2 hgrow2 _
          obtain ⟨A2', c2', rfl, hO2⟩ := ownI_form (l := l1 ++ l2) (by simpa [itsC_app, itsC] using hown2)
          have HBy := Sl.mk (show Below w0.heap.size w0 wy from HBx.out.trans (below_own hgrow2 (fun q hq => ownGe HO.out hq) hbase))
          have HOy := Sl.mk hO2
          clear hown2 hgrow2 hO2
          go_wp2_with fail
          go_roundg 0
          case measure => omega
          case rel => exact ⟨2, rfl, by omega, by go_num, HBy, A2', c2', by simp [HNN.out], by simpa [HNN.out] using HOy⟩
        | 2, _ =>
          go_wp2_with fail
          go_ret
          exact ⟨A', c', rfl, HOx.out, HBx.out⟩
end Go.Proofs.YtmgblbkmbiiofaaDoor

namespace Go.Proofs.YtmgblbkmbiiofaaDoor
open Go.RowKit
attribute [local go_sem ↓] Go.wp_at_zero Go.wp_at_succ

/-- The first place of an item that a test takes; -1: there is none. -/
def idxI (p : It → Bool) (l : List It) : Int := match l.findIdx? p with
  | some i => (i : Nat)
  | none => -1
theorem idxI_hit {p : It → Bool} {l : List It} {k : Nat} {x : It} (hx : l[k]? = some x) (hp : p x = true) (hb : ∀ (j : Nat) y, j < k → l[j]? = some y → p y = false) : idxI p l = (k : Nat) := by
  unfold idxI
  rw [show l.findIdx? p = some k from List.findIdx?_eq_some_iff_getElem.2 ⟨(List.getElem?_eq_some_iff.1 hx).1, by
    obtain ⟨h1, h2⟩ := List.getElem?_eq_some_iff.1 hx
    rw [h2]; exact hp, fun j hj => by
    have hjl : j < l.length := Nat.lt_trans hj (List.getElem?_eq_some_iff.1 hx).1
    rw [hb j _ hj (List.getElem?_eq_getElem hjl)]; decide⟩]
theorem idxI_miss {p : It → Bool} {l : List It} (hb : ∀ (j : Nat) y, l[j]? = some y → p y = false) : idxI p l = -1 := by
  unfold idxI
  rw [show l.findIdx? p = none from List.findIdx?_eq_none_iff.2 fun x hx => by
    obtain ⟨j, hj⟩ := List.mem_iff_getElem?.1 hx
    exact hb j x hj]
theorem idxI_nonneg (p : It → Bool) (l : List It) : decide (0 ≤ idxI p l) = l.any p := by
  unfold idxI
  cases h : l.findIdx? p with
  | none =>
    have := List.findIdx?_eq_none_iff.1 h
    rw [show l.any p = false from List.any_eq_false.2 fun x hx => by rw [this x hx]; decide]
    rfl
  | some i =>
    obtain ⟨h1, h2, _⟩ := List.findIdx?_eq_some_iff_getElem.1 h
    rw [show l.any p = true from List.any_eq_true.2 ⟨l[i], List.getElem_mem _, h2⟩]
    exact decide_eq_true (Int.natCast_nonneg i)
/-- What is asked of a test. -/
def TestI (g : FuncId) (lb : Array Value) (p : It → Bool) (w : World) : Prop :=
  ∀ (x : It) (W : World), Below w.heap.size w W → Calls Tryd.prog g (#[.agg #[.string (bsS x.a), .string (bsS x.b)]] ++ lb) W fun e w' => e = .returned (.bool (p x)) ∧ Below w.heap.size w w'
set_option maxRecDepth 100000 in
set_option maxHeartbeats 4000000 in
theorem idxf_any (g : FuncId) (lb : Array Value) (eg : ∀ args w, (callFunc g args).run Tryd.prog w = .ok (.enter g args) w) (p : It → Bool) (A : Option Addr) (n c : Nat) (l : List It) (w : World) (hn : n ≤ 1000000)
    (hp : TestI g lb p w) (hI : Its w A n l) :
    Calls Tryd.prog 56 #[.slice A n c, .func (.func g) #[] lb] w fun e w' => e = .returned (.int .i64 (idxI p l)) ∧ Below w.heap.size w w' := by
  have HN := Sl.mk hI.n_
  have HI := Sl.mk hI
  have HP := Sl.mk hp
  have HB0 := Sl.mk (Below.refl w.heap.size w)
  clear hI hp
  obtain ⟨R, hR⟩ : ∃ R, idxI p l = R := ⟨_, rfl⟩
  rw [hR]
  have HRR := Sl.mk hR
  clear hR
  go_enter Tryd.func56, Tryd.ntmps56
  go_wp2_with fail
  go_loopg [8] n (fun q v8 wr => ∃ k : Nat, q = n - k ∧ k ≤ n ∧ v8 = .int .i64 k ∧ Sl (Below w.heap.size w wr) ∧ Sl (∀ j y, j < k → l[j]? = some y → p y = false))
  case atStart => exact ⟨0, rfl, Nat.zero_le _, rfl, HB0, ⟨fun j y hj => absurd hj (Nat.not_lt_zero _)⟩⟩
  case round =>
    obtain ⟨k, hq, hk, rfl, HBr, HD⟩ := hrel
    by_cases hlt : k < n
    · obtain ⟨x, hx⟩ : ∃ x, l[k]? = some x := ⟨_, List.getElem?_eq_getElem (by rw [HN.out]; exact hlt)⟩
      obtain ⟨ab, ao, rfl, hbl, hld, _, _⟩ := (HI.out.be HBr.out).lit hx
      have HX := Sl.mk hx
      have HC := Sl.mk (HP.out x wr HBr.out)
      obtain ⟨xa, xb⟩ := x
      clear hx
      cases hpx : p ⟨xa, xb⟩
      · have HD2 := Sl.mk (show ∀ j y, j < k + 1 → l[j]? = some y → p y = false from fun j y hj hy => by
          rcases Nat.lt_succ_iff_lt_or_eq.1 hj with h | rfl
          · exact HD.out j y h hy
          · have := Option.some.inj (HX.out.symm.trans hy); subst this; exact hpx)
        rw [hpx] at HC
        clear hpx
        go_wp2_with (first
          | (refine ld_m hld rfl (.tmp 14) rfl rfl ?_)
          | (go_at_fn g; refine HC.out.mono ?_; rintro e w1 ⟨rfl, hb1⟩; have HB1 := Sl.mk hb1; clear hb1))
        go_roundg (n - (k + 1))
        case measure => omega
        case rel => exact ⟨k + 1, rfl, by omega, by go_num, HB1, HD2⟩
      · have HF := Sl.mk (show R = (k : Nat) by rw [← HRR.out]; exact idxI_hit HX.out hpx HD.out)
        rw [hpx] at HC
        clear hpx
        go_wp2_with (first
          | (refine ld_m hld rfl (.tmp 14) rfl rfl ?_)
          | (go_at_fn g; refine HC.out.mono ?_; rintro e w1 ⟨rfl, hb1⟩; have HB1 := Sl.mk hb1; clear hb1))
        go_ret
        exact ⟨by rw [HF.out]; rfl, HB1.out⟩
    · obtain rfl : k = n := by omega
      have HF := Sl.mk (show R = -1 by rw [← HRR.out]; exact idxI_miss fun j y hy => HD.out j y (by rw [← HN.out]; exact (List.getElem?_eq_some_iff.1 hy).1) hy)
      go_wp2_with fail
      go_ret
      exact ⟨by rw [HF.out]; rfl, HBr.out⟩
set_option maxRecDepth 100000 in
set_option maxHeartbeats 2000000 in
theorem containsf_any (g : FuncId) (lb : Array Value) (eg : ∀ args w, (callFunc g args).run Tryd.prog w = .ok (.enter g args) w) (p : It → Bool) (A : Option Addr) (n c : Nat) (l : List It) (w : World) (hn : n ≤ 1000000)
    (hp : TestI g lb p w) (hI : Its w A n l) :
    Calls Tryd.prog 40 #[.slice A n c, .func (.func g) #[] lb] w fun e w' => e = .returned (.bool (l.any p)) ∧ Below w.heap.size w w' := by
  have HI := Sl.mk (idxf_any g lb eg p A n c l w hn hp hI)
  obtain ⟨R, hR⟩ : ∃ R, idxI p l = R := ⟨_, rfl⟩
  have HR := Sl.mk (show l.any p = decide (0 ≤ R) by rw [← hR, idxI_nonneg])
  rw [hR] at HI
  clear hR hp hI
  obtain ⟨b, hb⟩ : ∃ b, l.any p = b := ⟨_, rfl⟩
  rw [hb] at HR
  rw [hb]
  clear hb
  go_enter Tryd.func40, Tryd.ntmps40
  go_wp2_with fail
  refine HI.out.mono ?_
  rintro e w1 ⟨rfl, hb1⟩
  have HB1 := Sl.mk hb1
  clear hb1
  go_wp2_with fail
  go_ret
  exact ⟨ret_bool (by rw [HR.out]), HB1.out⟩

/-! ### Twice -/
set_option maxRecDepth 100000 in
set_option maxHeartbeats 1000000 in
theorem twice1_test (x : It) (gx : Nat) (w : World) (hx : w.cell? ⟨gx, 0, none⟩ = some (.string (bsS x.a))) (hg : gx < w.heap.size) :
    TestI 41 #[.pointer (some ⟨gx, 0, none⟩)] (fun y => decide (y.a = x.a)) w := fun y W hW => by
  have hc : W.cell? ⟨gx, 0, none⟩ = some (.string (bsS x.a)) := (hW.cell (p := ⟨gx, 0, none⟩) hg).trans hx
  have hne : gx ≠ W.heap.size := by have := hW.size; omega
  have hc2 : (W.alloc (.cells #[.string (bsS y.a), .string (bsS y.b)] 62)).cell? ⟨gx, 0, none⟩ = some (.string (bsS x.a)) := Lib.cell?_alloc_some _ hc
  have HB := Sl.mk (hW.alloc hW.size (.cells #[.string (bsS y.a), .string (bsS y.b)] 62))
  have he := bs_beq y.a x.a
  show Calls Tryd.prog 41 #[.agg #[.string (bsS y.a), .string (bsS y.b)], .pointer (some ⟨gx, 0, none⟩)] W _
  obtain ⟨b, hb⟩ : ∃ b, decide (y.a = x.a) = b := ⟨_, rfl⟩
  rw [hb] at he
  simp only [hb]
  clear hb hW
  go_enter Tryd.func41, Tryd.ntmps41
  go_wp2_with fail
  go_ret
  exact ⟨rfl, HB.out⟩
theorem nodup_next {l : List It} {k : Nat} {x : It} (hx : l[k]? = some x) (h : ((l.take k).map (·.a)).Nodup) (hn : ((l.take k).any fun y => decide (y.a = x.a)) = false) : ((l.take (k + 1)).map (·.a)).Nodup := by
  rw [take_snoc' hx, List.map_append]
  refine List.nodup_append.2 ⟨h, by simp, fun a ha b hb e => ?_⟩
  simp only [List.map_cons, List.map_nil, List.mem_singleton] at hb
  obtain ⟨y, hy, rfl⟩ := List.mem_map.1 ha
  have := List.any_eq_false.1 hn y hy
  exact this (decide_eq_true (e.trans hb))
theorem dup_found {l : List It} {k : Nat} {x : It} (hx : l[k]? = some x) (hn : ((l.take k).any fun y => decide (y.a = x.a)) = true) : dupM l = true := by
  unfold dupM
  simp only [Bool.not_eq_true', decide_eq_false_iff_not]
  intro h
  obtain ⟨y, hy, hya⟩ := List.any_eq_true.1 hn
  have h2 : ((l.take (k + 1)).map (·.a)).Nodup := h.sublist ((List.take_sublist _ _).map _)
  rw [take_snoc' hx, List.map_append] at h2
  have h3 := (List.nodup_append.1 h2).2.2 y.a (List.mem_map.2 ⟨y, hy, rfl⟩) x.a (by simp)
  exact h3 (of_decide_eq_true hya)
theorem its_take {w : World} {A : Option Addr} {n : Nat} {l : List It} (h : Its w A n l) {k : Nat} (hk : k ≤ n) : Its w A k (l.take k) := by
  have hn := h.n_
  refine ⟨⟨by rw [itsC_len, List.length_take]; congr 1; omega, fun h0 => ?_⟩, fun x hx => h.len x (List.mem_of_mem_take hx)⟩
  obtain ⟨ad, e, hb, hc⟩ := h.row.2 (by omega)
  refine ⟨ad, e, hb, fun j v hj => hc j v ?_⟩
  rw [← itsC_take] at hj
  rw [List.getElem?_take] at hj
  split at hj
  · exact hj
  · cases hj
set_option maxRecDepth 100000 in
set_option maxHeartbeats 4000000 in
theorem twice_any (A : Option Addr) (n c : Nat) (l : List It) (w : World) (hn : n ≤ 1000000) (hnc : n ≤ c) (hI : Its w A n l) :
    Calls Tryd.prog 25 #[.slice A n c] w (RPost w (dupM l)) := by
  have HN := Sl.mk hI.n_
  have HI := Sl.mk hI
  have HB0 := Sl.mk (Below.refl w.heap.size w)
  clear hI
  obtain ⟨R, hR⟩ : ∃ R, dupM l = R := ⟨_, rfl⟩
  rw [hR]
  have HRR := Sl.mk hR
  clear hR
  have eg : ∀ args w, (callFunc 41 args).run Tryd.prog w = .ok (.enter 41 args) w := enters_of Tryd.func41 (by kernel_rfl) rfl
  go_enter Tryd.func25, Tryd.ntmps25
  go_wp2_with fail
  go_loopg [7] n (fun q v7 wr => ∃ k : Nat, q = n - k ∧ k ≤ n ∧ v7 = .int .i64 k ∧ Sl (Below w.heap.size w wr) ∧ Sl (((l.take k).map (·.a)).Nodup))
  case atStart => exact ⟨0, rfl, Nat.zero_le _, rfl, HB0, ⟨by simp⟩⟩
  case round =>
    obtain ⟨k, hq, hk, rfl, HBr, HD⟩ := hrel
    by_cases hlt : k < n
    · obtain ⟨x, hx⟩ : ∃ x, l[k]? = some x := ⟨_, List.getElem?_eq_getElem (by rw [HN.out]; exact hlt)⟩
      obtain ⟨ab, ao, rfl, hbl, hld, _, _⟩ := (HI.out.be HBr.out).lit hx
      have HX := Sl.mk hx
      have hwa := below_al (Below.refl wr.heap.size wr) (.cells #[.string (bsS x.a), .string (bsS x.b)] 62)
      have HE := Sl.mk (HBr.out.trans (hwa.mono HBr.out.size))
      have HC := Sl.mk (containsf_any 41 #[.pointer (some ⟨wr.heap.size, 0, none⟩)] eg (fun y => decide (y.a = x.a)) _ k c (l.take k) (wr.alloc (.cells #[.string (bsS x.a), .string (bsS x.b)] 62)) (by omega)
        (twice1_test x wr.heap.size _ (by simp) (by simp)) (its_take (HI.out.be HE.out) hk))
      obtain ⟨b, hb⟩ : ∃ b, ((l.take k).any fun y => decide (y.a = x.a)) = b := ⟨_, rfl⟩
      rw [hb] at HC
      obtain ⟨xa, xb⟩ := x
      clear hx hwa
      cases b
      · have HD2 := Sl.mk (nodup_next HX.out HD.out hb)
        clear hb
        go_wp2_with (first
          | (refine ld_m hld rfl (.tmp 10) rfl rfl ?_)
          | (go_at_call 40; refine HC.out.mono ?_; rintro e w1 ⟨rfl, hb1⟩; have HB1 := Sl.mk (HE.out.trans (hb1.mono HE.out.size)); clear hb1))
        go_roundg (n - (k + 1))
        case measure => omega
        case rel => exact ⟨k + 1, rfl, by omega, by go_num, HB1, HD2⟩
      · have HF := Sl.mk (show R = true by rw [← HRR.out]; exact dup_found HX.out hb)
        clear hb
        go_wp2_with (first
          | (refine ld_m hld rfl (.tmp 10) rfl rfl ?_)
          | (go_at_call 40; refine HC.out.mono ?_; rintro e w1 ⟨rfl, hb1⟩; have HB1 := Sl.mk (HE.out.trans (hb1.mono HE.out.size)); clear hb1))
        go_ret
        exact ⟨by rw [HF.out]; rfl, HB1.out⟩
    · obtain rfl : k = n := by omega
      have HF := Sl.mk (show R = false by
        rw [← HRR.out]
        unfold dupM
        have := HD.out
        rw [List.take_of_length_le (by rw [HN.out]; exact Nat.le_refl _)] at this
        simp [this])
      go_wp2_with fail
      go_ret
      exact ⟨by rw [HF.out]; rfl, HBr.out⟩
end Go.Proofs.YtmgblbkmbiiofaaDoor
