/-
  The contract of split, whatever the predicate does in a block of its own.
-/
import Derived.Test.YtkmdhmnjohlnaaaRevG
import Derived.Shelf.Abstract
namespace Go.Proofs.Ytkmdhmnjohlnaaa
open Go.RowKit

/-- Of the first i, those that were answered so. -/
def selF (b : Nat → Bool) (v : Bool) (l : List Rv) : Nat → List Rv
  | 0 => []
  | i + 1 => selF b v l i ++ (if b i = v then (l[i]?).toList else [])
theorem sel_yes {b : Nat → Bool} {v : Bool} {l : List Rv} {i : Nat} {r : Rv} (hr : l[i]? = some r) (hb : b i = v) : selF b v l (i + 1) = selF b v l i ++ [r] := by simp [selF, hb, hr]
theorem sel_no {b : Nat → Bool} {v : Bool} {l : List Rv} {i : Nat} (hb : b i ≠ v) : selF b v l (i + 1) = selF b v l i := by simp [selF, hb]
theorem sel_le (b : Nat → Bool) (v : Bool) (l : List Rv) : ∀ i, (selF b v l i).length ≤ i
  | 0 => Nat.le_refl _
  | i + 1 => by
    have := sel_le b v l i
    unfold selF
    rw [List.length_append]
    split
    · cases l[i]? <;> simp <;> omega
    · simp; omega

/-- Two rows of the call's own. -/
structure Rows2 (w : World) (base : Nat) (v1 : Value) (l1 : List Rv) (v2 : Value) (l2 : List Rv) : Prop where
  own1 : w.ownsRow base 36 34 v1 l1.length (revC l1)
  own2 : w.ownsRow base 36 34 v2 l2.length (revC l2)
  ne : ∀ g, v1.ownBlock = some g → v2.ownBlock ≠ some g

theorem own_lt {w : World} {base n size : Nat} {e : TypeId} {v : Value} {xs : List Value} (h : w.ownsRow base e size v n xs) {g : Nat} (hg : v.ownBlock = some g) : g < w.heap.size := by
  rcases h.2 with ⟨rfl, _⟩ | ⟨g', cap, cur, rfl, hb, hh, _⟩
  · simp [Value.ownBlock] at hg
  · have e' : g' = g := by simpa [Value.ownBlock] using hg
    have : g' < w.heap.size := Blk.lt (t := _) (cs := cur) hh
    omega
theorem own_keep {w w' : World} {base n size : Nat} {e : TypeId} {v : Value} {xs : List Value} {row : Option Nat} (h : w.ownsRow base e size v n xs) (hg : w.grownBy w' row) (hne : ∀ g, row = some g → v.ownBlock ≠ some g) : w'.ownsRow base e size v n xs := by
  refine h.kept hg ?_
  cases row with
  | none =>
    cases hv : v.ownBlock with
    | none => exact .inl rfl
    | some x => exact .inr (by simp)
  | some g => exact .inr (hne g rfl)
theorem Rows2.below {w w' : World} {base : Nat} {v1 v2 : Value} {l1 l2 : List Rv} (h : Rows2 w base v1 l1 v2 l2) (hb : Below w.heap.size w w') : Rows2 w' base v1 l1 v2 l2 := ⟨own_below h.own1 hb, own_below h.own2 hb, h.ne⟩
theorem Rows2.far {w w' : World} {base g : Nat} {v1 v2 : Value} {l1 l2 : List Rv} (h : Rows2 w base v1 l1 v2 l2) (hg : w.grownBy w' (some g)) (hb : g < base) : Rows2 w' base v1 l1 v2 l2 :=
  ⟨own_keep h.own1 hg (fun x hx e => by injection hx with hx; have := ownGe h.own1 e; omega), own_keep h.own2 hg (fun x hx e => by injection hx with hx; have := ownGe h.own2 e; omega), h.ne⟩

theorem only_belowAt {a b c : World} {row : Option Nat} {B : Nat} (h : a.grownBy b row) (k : Below B b c) (hB : a.heap.size ≤ B) : a.grownBy c row :=
  ⟨k.os.trans h.os, k.tape.trans h.tape, k.output.trans h.output, Nat.le_trans h.size k.size, fun i hi hne => (k.block i (Nat.lt_of_lt_of_le hi hB)).trans (h.block i hi hne)⟩
theorem reads_one (w : World) (r : Rv) : Reads (w.alloc (.cells (rvC r).toArray 36)) (w.heap.size + 1) 34 (some ⟨w.heap.size, 0, none⟩) 1 (rvC r) := by
  refine ⟨by rw [rvC_len], fun _ => ⟨_, rfl, by simp, fun j u hj => ?_⟩⟩
  have hadd : (⟨w.heap.size, 0, none⟩ : Addr).add j = ⟨w.heap.size, j, none⟩ := by unfold Addr.add; split <;> simp_all
  rw [hadd, (Blk.new w _ _).cell j]
  simpa using hj

set_option maxHeartbeats 4000000 in
theorem split_any (g : Nat) (caps : Array Value) (eg : ∀ args w, (callFunc g args).run Try.prog w = .ok (.enter g args) w) (gm : Nat) (b : Nat → Bool) (St : Nat → World → Prop) (A : Option Addr) (n c : Nat) (l : List Rv) (w : World) (hn : n ≤ 1000000)
    (hgm : gm < w.heap.size) (hR : Reads w w.heap.size 34 A n (revC l)) (hsrc : ∀ ad, A = some ad → ad.block ≠ gm)
    (hstep : ∀ i r W, l[i]? = some r → St i W → Calls Try.prog g (#[.agg (rvC r).toArray] ++ caps) W fun e w' => e = .returned (.bool (b i)) ∧ St (i + 1) w' ∧ W.grownBy w' (some gm))
    (hst : ∀ i W w', w.heap.size ≤ W.heap.size → St i W → Below w.heap.size W w' → St i w') (h0 : St 0 w) :
    Calls Try.prog 30 #[.slice A n c, .func (.func g) #[] caps] w fun e w' => ∃ A1 c1 A2 c2, e = .returned (.tuple #[.slice A1 (selF b true l n).length c1, .slice A2 (selF b false l n).length c2]) ∧
      Rows2 w' w.heap.size (.slice A1 (selF b true l n).length c1) (selF b true l n) (.slice A2 (selF b false l n).length c2) (selF b false l n) ∧ St n w' ∧ w.grownBy w' (some gm) := by
  have HL := Sl.mk (reads_n hR)
  obtain ⟨i0, hi0, hz0, hz1, hz2⟩ := info_parts rvInfo
  go_enter Try.func30, Try.ntmps30
  go_wp2_with fail
  go_loopw [4, 5, 7, 10] (fun s4 s5 _ s10 wr => ∃ (i : Nat) (A1 : Option Addr) (c1 : Nat) (A2 : Option Addr) (c2 : Nat), i ≤ n ∧ s10 = .int .i64 i ∧ s4 = .slice A1 (selF b true l i).length c1 ∧ s5 = .slice A2 (selF b false l i).length c2 ∧
      Rows2 wr w.heap.size (.slice A1 (selF b true l i).length c1) (selF b true l i) (.slice A2 (selF b false l i).length c2) (selF b false l i) ∧ St i wr ∧ w.grownBy wr (some gm)) (fun _ _ _ s10 _ => n - (intOf s10).toNat)
  case atStart => exact ⟨0, none, 0, none, 0, Nat.zero_le _, rfl, rfl, rfl, ⟨World.ownsRow_nil _ _ _ _, World.ownsRow_nil _ _ _ _, fun x hx => by simp [Value.ownBlock] at hx⟩, h0, only_refl _ _⟩
  case round =>
    obtain ⟨i, A1, c1, A2, c2, hi, rfl, rfl, rfl, hrows, hS, hG⟩ := hrel
    by_cases hil : i < n
    · obtain ⟨r, hr⟩ : ∃ r, l[i]? = some r := ⟨_, List.getElem?_eq_getElem (by rw [HL.out]; exact hil)⟩
      obtain ⟨ad, rfl, hbl, hld, hd0⟩ := reads_load hR hr
      have hld2 : ∀ j v, (rvC r)[j]? = some v → wr.cell? ((ad.add (i * 34)).add j) = some v := fun j v hv => by
        rw [World.cell?_of_block (hG.block _ (by rw [block_of_add, block_of_add]; exact hbl) (by rw [block_of_add, block_of_add]; exact fun e => hsrc ad rfl (by injection e)))]
        exact hld j v hv
      have HR := Sl.mk hr
      have hst1 := Sl.mk hst
      have hstep1 := Sl.mk (hstep i r)
      clear hr hd0 hld h0 hstep hst
      go_wp2_with (first | refine ld_el hld2 rfl (.tmp 12) rfl rfl ?_ | refine st_new (by rfl) rfl (.tmp 7) (.tmp 13) rfl r rfl rfl ?_)
      intro w1 hS1 hB1 hs1
      have hrows1 := hrows.below hB1
      have hSt1 := hst1.out i wr w1 hG.size hS (hB1.mono hG.size)
      have hG1 := only_below hG hB1
      clear hrows hS hld2 hB1 hs1
      have hcall := Sl.mk (hstep1.out w1 HR.out hSt1)
      have h34 := rvC_len r
      have hfold := fold_rv r #[.int .i64 0, .int .u8 0, .int .u8 0, .int .u8 0, .int .u8 0, .int .u8 0, .int .u8 0, .int .u8 0, .int .u8 0, .int .u8 0, .int .u8 0, .int .u8 0, .int .u8 0, .int .u8 0, .int .u8 0, .int .u8 0, .int .u8 0, .int .u8 0, .int .u8 0, .int .u8 0, .int .u8 0, .int .u8 0, .int .u8 0, .int .u8 0, .int .u8 0, .int .u8 0, .int .u8 0, .int .u8 0, .int .u8 0, .int .u8 0, .int .u8 0, .int .u8 0, .int .u8 0, .int .i64 0] (by rfl)
      cases hb : b i
      · go_wp2_with (refine ld_rv hS1 rfl (.tmp 7) rfl rfl ?_)
        refine hcall.out.mono ?_
        rintro e w2 ⟨rfl, hSt2, hG2⟩
        rw [hb]
        have hne7 : wr.heap.size ≠ gm := by have := hG.size; omega
        have hS2 := blk_only hS1 hG2 hne7
        have hrows2 := hrows1.far hG2 hgm
        have hG2s := only_trans hG1 hG2
        clear hS1 hrows1 hG1 hcall hSt1
        go_wp2_with (first | refine ld_rv hS2 rfl (.tmp 7) rfl rfl ?_ | (at_builtin; refine wpList_append_anyG _ rfl (.tmp 21) (.tmp 23) 28 rfl w.heap.size 36 i0 zeroRv 34 48 Try.underlying28 hi0 hz0 hz1 hz2 (by rfl) (by decide) _ _ _ rfl (hrows2.own2.alloc _) (w2.heap.size + 1) _ 1 1 (rvC r) rfl (reads_one w2 r) (rvC_one r) (by have := sel_le b false l i; unfold maxLen; omega) (by have := sel_le b false l i; omega) (by have := hG2s.size; simp; omega) ?_))
        intro v3 w3 hown3 hG3 hb3
        obtain ⟨A3, c3, rfl⟩ := ownForm hown3
        have hBw : Below w.heap.size w2 w3 := ((Below.refl w.heap.size w2).alloc hG2s.size _).grown hG3 (by have := hG2s.size; simp; omega) (fun x hx => ownGe hrows2.own2 hx)
        have hSt3 := hst1.out (i + 1) w2 w3 hG2s.size hSt2 hBw
        have hG4 := only_belowAt hG2s hBw (Nat.le_refl _)
        have hY := sel_yes (v := false) HR.out hb
        have hN := sel_no (v := true) (l := l) (i := i) (b := b) (by rw [hb]; simp)
        have hlen : (selF b false l (i + 1)).length = (selF b false l i).length + 1 := by rw [hY]; simp
        have hrows3 : Rows2 w3 w.heap.size (.slice A1 (selF b true l (i + 1)).length c1) (selF b true l (i + 1)) (.slice A3 (selF b false l (i + 1)).length c3) (selF b false l (i + 1)) := by
          rw [hlen, hN]
          refine ⟨own_keep (hrows2.own1.alloc _) hG3 (fun x hx e => hrows2.ne x e hx), by rw [hlen, hY, revC_append]; simpa [revC] using hown3, fun x hx => ?_⟩
          have hx1 := own_lt hrows2.own1 hx
          rcases hb3 with e | e
          · rw [e]; exact hrows2.ne x hx
          · rw [e]; intro e2; injection e2 with e2; omega
        clear hstep1 hst1 hSt2 hG2 hrows2 hG2s hown3 hG3 hb3 hBw hS2 hfold
        go_wp2_with fail
        go_roundw
        case rel => exact ⟨i + 1, A1, c1, A3, c3, by omega, by go_num, by rw [hN], by rw [hlen], hrows3, hSt3, hG4⟩
        case measure => simp [intOf]; omega
      · go_wp2_with (refine ld_rv hS1 rfl (.tmp 7) rfl rfl ?_)
        refine hcall.out.mono ?_
        rintro e w2 ⟨rfl, hSt2, hG2⟩
        rw [hb]
        have hne7 : wr.heap.size ≠ gm := by have := hG.size; omega
        have hS2 := blk_only hS1 hG2 hne7
        have hrows2 := hrows1.far hG2 hgm
        have hG2s := only_trans hG1 hG2
        clear hS1 hrows1 hG1 hcall hSt1
        go_wp2_with (first | refine ld_rv hS2 rfl (.tmp 7) rfl rfl ?_ | (at_builtin; refine wpList_append_anyG _ rfl (.tmp 17) (.tmp 19) 28 rfl w.heap.size 36 i0 zeroRv 34 48 Try.underlying28 hi0 hz0 hz1 hz2 (by rfl) (by decide) _ _ _ rfl (hrows2.own1.alloc _) (w2.heap.size + 1) _ 1 1 (rvC r) rfl (reads_one w2 r) (rvC_one r) (by have := sel_le b true l i; unfold maxLen; omega) (by have := sel_le b true l i; omega) (by have := hG2s.size; simp; omega) ?_))
        intro v3 w3 hown3 hG3 hb3
        obtain ⟨A3, c3, rfl⟩ := ownForm hown3
        have hBw : Below w.heap.size w2 w3 := ((Below.refl w.heap.size w2).alloc hG2s.size _).grown hG3 (by have := hG2s.size; simp; omega) (fun x hx => ownGe hrows2.own1 hx)
        have hSt3 := hst1.out (i + 1) w2 w3 hG2s.size hSt2 hBw
        have hG4 := only_belowAt hG2s hBw (Nat.le_refl _)
        have hY := sel_yes (v := true) HR.out hb
        have hN := sel_no (v := false) (l := l) (i := i) (b := b) (by rw [hb]; simp)
        have hlen : (selF b true l (i + 1)).length = (selF b true l i).length + 1 := by rw [hY]; simp
        have hrows3 : Rows2 w3 w.heap.size (.slice A3 (selF b true l (i + 1)).length c3) (selF b true l (i + 1)) (.slice A2 (selF b false l (i + 1)).length c2) (selF b false l (i + 1)) := by
          rw [hlen, hN]
          refine ⟨by rw [hlen, hY, revC_append]; simpa [revC] using hown3, own_keep (hrows2.own2.alloc _) hG3 (fun x hx e => hrows2.ne x hx e), fun x hx e2 => ?_⟩
          have hx1 := own_lt hrows2.own2 e2
          rcases hb3 with e | e
          · rw [e] at hx; exact hrows2.ne x hx e2
          · rw [e] at hx; injection hx with hx; omega
        clear hstep1 hst1 hSt2 hG2 hrows2 hG2s hown3 hG3 hb3 hBw hS2 hfold
        go_wp2_with fail
        go_roundw
        case rel => exact ⟨i + 1, A3, c3, A2, c2, by omega, by go_num, by rw [hlen], by rw [hN], hrows3, hSt3, hG4⟩
        case measure => simp [intOf]; omega
    · obtain rfl : i = n := by omega
      clear hR hst hstep
      go_wp2_with fail
      go_ret2
      exact ⟨A1, c1, A2, c2, rfl, hrows, hS, hG⟩

end Go.Proofs.Ytkmdhmnjohlnaaa
