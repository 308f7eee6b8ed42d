/-
  The contracts of creellaw19.To and Of.
-/
import Derived.Test.YtigdfkpkogompaaDoorCoJ
import Derived.Test.YtigdfkpkogompaaDoorWordsR
namespace Go.Proofs.YtigdfkpkogompaaDoor
open Go.RowKit
attribute [local go_sem ↓] Go.wp_at_zero Go.wp_at_succ

/-- Instructions that come in. -/
structure Rs (w : World) (A : Option Addr) (n : Nat) (l : List Ci) : Prop where
  row : Reads w w.heap.size 3 A n (isC l)
  len : ∀ x ∈ l, x.s.length ≤ 9223372036854775807
theorem Rs.n_ {w : World} {A : Option Addr} {n : Nat} {l : List Ci} (h : Rs w A n l) : l.length = n := by
  have hl := h.row.1
  rw [isC_len] at hl
  omega
theorem Rs.be {w w' : World} {A : Option Addr} {n : Nat} {l : List Ci} (h : Rs w A n l) (hb : Below w.heap.size w w') : Rs w' A n l :=
  ⟨(h.row.below hb).more hb.size, h.len⟩
theorem Rs.lit {w : World} {A : Option Addr} {n : Nat} {l : List Ci} (h : Rs w A n l) {i : Nat} {x : Ci} (hi : l[i]? = some x) :
    ∃ b o, A = some ⟨b, o, none⟩ ∧ b < w.heap.size ∧ (∀ j v, (iC x)[j]? = some v → w.cell? ((⟨b, o + i * 3, none⟩ : Addr).add j) = some v) ∧ x.s.length ≤ 9223372036854775807 := by
  have hil : i < l.length := (List.getElem?_eq_some_iff.1 hi).1
  have hl := h.n_
  obtain ⟨ad, e', hb, hcc⟩ := h.row.2 (by omega)
  have hlen : 0 < (isC l).length := by rw [isC_len]; omega
  have e := addr_lit (hcc 0 _ (List.getElem?_eq_getElem hlen))
  refine ⟨ad.block, ad.off, by rw [← e]; exact e', hb, fun j v hv => ?_, h.len x (List.mem_of_getElem? hi)⟩
  have h1 := hcc _ v (isC_at l i x hi j v hv)
  rw [e, Addr.add_lit] at h1
  rw [Addr.add_lit, Nat.add_assoc]
  exact h1
def cutI (x : Ci) : Ci := { x with s := x.s.take 70 }
theorem take_snoc {α : Type} {l : List α} {i : Nat} {x : α} (h : l[i]? = some x) : l.take (i + 1) = l.take i ++ [x] := by
  rw [List.take_add_one, h]; rfl
theorem isC_snoc (l : List Ci) (i : Nat) (x : Ci) (h : l[i]? = some x) : isC (l.take (i + 1)) = isC (l.take i) ++ [.int .i64 x.op, .int .i64 x.n, .string (bsS x.s)] := by
  rw [take_snoc h, isC_app, isC_sing]; rfl
theorem reads_row3 (w : World) (a b c : Value) (t : TypeId) {B : Nat} (hB : w.heap.size < B) : Reads (w.alloc (.cells #[a, b, c] t)) B 3 (some ⟨w.heap.size, 0, none⟩) 1 [a, b, c] :=
  ⟨rfl, fun _ => ⟨_, rfl, hB, fun j u hj => by
    have hadd : (⟨w.heap.size, 0, none⟩ : Addr).add j = ⟨w.heap.size, j, none⟩ := by unfold Addr.add; split <;> simp_all
    rw [hadd, (Blk.new w t #[a, b, c]).cell j]
    simpa using hj⟩⟩
/-- What is made of instructions. -/
def TfPost (w : World) (T : TypeId) (l : List Ci) (e : Ending) (w' : World) : Prop :=
  ∃ A n c, e = .returned (.slice A n c) ∧ w'.ownsRow w.heap.size T 3 (.slice A n c) n (isC l) ∧ n ≤ 1000000 ∧ Below w.heap.size w w'

set_option maxRecDepth 100000 in
set_option maxHeartbeats 4000000 in
theorem to_any (A : Option Addr) (n c : Nat) (l : List Ci) (w : World) (hn : n ≤ 9223372036854775807) (hI : Rs w A n l) :
    Calls Tryd.prog 5 #[.slice A n c] w (TfPost w 41 ((l.take 201).map cutI)) := by
  obtain ⟨j0, hj0, hy0, hy1, hy2⟩ := info_parts iInfo
  have HN := Sl.mk hI.n_
  have HI := Sl.mk hI
  clear hI
  go_enter Tryd.func5, Tryd.ntmps5
  go_wp2_with fail
  go_loopw [3, 4] (fun v3 v4 wr => ∃ i : Nat, i ≤ n ∧ i ≤ 201 ∧ v4 = .int .i64 i ∧ wr.ownsRow w.heap.size 41 3 v3 i (isC ((l.take i).map cutI)) ∧ Below w.heap.size w wr) (fun _ v4 _ => 201 - (intOf v4).toNat)
  case atStart => exact ⟨0, by omega, by omega, rfl, World.ownsRow_nil _ _ _ _, Below.refl _ _⟩
  case round =>
    obtain ⟨i, hi, hi2, rfl, hown, hB⟩ := hrel
    obtain ⟨A3, c3, rfl⟩ := ownForm hown
    by_cases hlt : i < n
    · by_cases h201 : i < 201
      · obtain ⟨x, hx⟩ : ∃ x, l[i]? = some x := ⟨_, List.getElem?_eq_getElem (by rw [HN.out]; exact hlt)⟩
        obtain ⟨ab, ao, rfl, hbl, hld, hsl⟩ := HI.out.lit hx
        have HS := Sl.mk (show isC ((l.take (i + 1)).map cutI) = isC ((l.take i).map cutI) ++ [.int .i64 x.op, .int .i64 x.n, .string (bsS (x.s.take 70))] by rw [take_snoc hx, List.map_append, isC_app, List.map_singleton, isC_sing]; rfl)
        obtain ⟨op, k0, s⟩ := x
        have HC : ∀ W, Below w.heap.size w W → W.cell? ⟨ab, ao + i * 3, none⟩ = some (.int .i64 op) ∧ W.cell? ⟨ab, ao + i * 3 + 1, none⟩ = some (.int .i64 k0) ∧ W.cell? ⟨ab, ao + i * 3 + 2, none⟩ = some (.string (bsS s)) := fun W hW => by
          have h0 := hld 0 _ rfl
          have h1 := hld 1 _ rfl
          have h2 := hld 2 _ rfl
          rw [Addr.add_lit] at h0 h1 h2
          exact ⟨(hW.cell (p := ⟨ab, ao + i * 3, none⟩) hbl).trans h0, (hW.cell (p := ⟨ab, ao + i * 3 + 1, none⟩) hbl).trans h1, (hW.cell (p := ⟨ab, ao + i * 3 + 2, none⟩) hbl).trans h2⟩
        have hsl2 : s.length ≤ 9223372036854775807 := hsl
        have hz := bs_size s
        obtain ⟨k, hk⟩ : ∃ k : Nat, min (s.length : Int) 70 = k := ⟨(min (s.length : Int) 70).toNat, by omega⟩
        have hk2 : k ≤ s.length := by omega
        have hk3 : (bsS s).extract 0 k = bsS (s.take 70) := by
          rw [bs_cut, List.drop_zero, Nat.sub_zero]
          congr 1
          rcases Nat.le_total s.length 70 with h | h
          · rw [List.take_of_length_le (by omega), List.take_of_length_le h]
          · rw [show k = 70 by omega]
        clear hx hsl hld
        go_upto_region 5 with fail
        refine wp_region_noPanic ?_
        refine wp_region_takes (n := 25) (Below w.heap.size w) (by kernel_rfl) (by kernel_rfl) (fun _ _ _ _ _ h => h) hB.drew ?_
        iterate 25 (refine wpTake_step ?_ (by rfl) (fun w' hw' => ?_) ?_; rotate_left 1; (obtain ⟨c0, c1, c2⟩ := HC w' hw'; go_simp; rfl); rotate_left 1)
        simp only [Act.put, List.setIfInBounds_toArray, List.set_cons_zero, List.set_cons_succ]
        obtain ⟨wd, hwd⟩ : ∃ wd, ({ wr with drawn := wr.drawn + 1 } : World) = wd := ⟨_, rfl⟩
        have hownd : wd.ownsRow w.heap.size 41 3 (.slice A3 i c3) i (isC ((l.take i).map cutI)) := by rw [← hwd]; exact hown
        have hBd : Below w.heap.size w wd := by rw [← hwd]; exact hB.drew
        rw [hwd]
        clear hwd hown hB HC
        have hBa := below_al hBd (.cells #[.int .i64 op, .int .i64 k0, .string (bsS (s.take 70))] 41)
        refine wpAnyH_oneL (k := 25) rfl (by kernel_rfl) rfl ?_
        refine wp_of_run (v := .slice (some ⟨wd.heap.size, 0, none⟩) 1 1) (w' := wd.alloc (.cells #[.int .i64 op, .int .i64 k0, .string (bsS (s.take 70))] 41)) (by go_simp) ⟨hBa, ?_⟩
        simp only [Act.put, List.setIfInBounds_toArray, List.set_cons_zero, List.set_cons_succ]
        refine wpAnyH_oneL (k := 26) rfl (by kernel_rfl) rfl ?_
        refine wp_append_any _ (.tmp 15) (.tmp 40) 23 rfl w.heap.size 41 j0 (.agg #[.int .i64 0, .int .i64 0, .string ⟨#[]⟩]) 3 32 Tryd.underlying23 hj0 hy0 hy1 hy2 rfl (by decide) _ _ _ rfl (hownd.alloc _) (wd.heap.size + 1) _ 1 1 [.int .i64 op, .int .i64 k0, .string (bsS (s.take 70))] rfl (reads_row3 wd _ _ _ _ (Nat.lt_succ_self _)) (by intro u hu; simp at hu; rcases hu with rfl | rfl | rfl <;> rfl) (by unfold maxLen; omega) (by omega) (by have := hBd.size; simp; omega) ?_
        intro v6 w6 hown6 hg6 _
        have hB6 : Below w.heap.size w w6 := hBa.grown hg6 hBa.size (fun q hq => ownGe hownd hq)
        obtain ⟨A6, c6, rfl⟩ := ownForm hown6
        rw [← HS.out] at hown6
        refine ⟨hB6, ?_⟩
        simp only [Act.put, List.setIfInBounds_toArray, List.set_cons_zero, List.set_cons_succ]
        refine wpAnyH_oneL (k := 27) rfl (by kernel_rfl) rfl ?_
        refine wp_of_run (v := .slice A6 (i + 1) c6) (w' := w6) (by go_simp) ⟨hB6, ?_⟩
        simp only [Act.put, List.setIfInBounds_toArray, List.set_cons_zero, List.set_cons_succ]
        refine wpAnyH_done (by kernel_rfl) ?_ _
        refine NoPanic.normal ?_
        clear hownd hBd hBa hg6
        go_wp2_with fail
        go_roundw
        case rel => exact ⟨i + 1, by omega, by omega, by go_num, hown6, hB6⟩
        case measure => simp [intOf]; omega
      · obtain rfl : i = 201 := by omega
        go_wp2_with fail
        go_ret
        exact ⟨_, _, _, rfl, by simpa using hown, by omega, hB⟩
    · obtain rfl : i = n := by omega
      have hf : l.take i = l.take 201 := by rw [List.take_of_length_le (by rw [HN.out]; omega), List.take_of_length_le (by rw [HN.out]; omega)]
      rw [hf] at hown
      go_wp2_with fail
      go_ret
      exact ⟨_, _, _, rfl, hown, by omega, hB⟩

set_option maxRecDepth 100000 in
set_option maxHeartbeats 4000000 in
theorem of_any (A : Option Addr) (n c : Nat) (l : List Ci) (w : World) (hn : n ≤ 1000000) (hI : Is w A n l) :
    Calls Tryd.prog 6 #[.slice A n c] w (TfPost w 43 (l)) := by
  obtain ⟨j0, hj0, hy0, hy1, hy2⟩ := info_parts rInfo
  have HN := Sl.mk hI.n_
  have HI := Sl.mk hI
  clear hI
  go_enter Tryd.func6, Tryd.ntmps6
  go_wp2_with fail
  go_loopw [3, 4] (fun v3 v4 wr => ∃ i : Nat, i ≤ n ∧ v4 = .int .i64 i ∧ wr.ownsRow w.heap.size 43 3 v3 i (isC (l.take i)) ∧ Below w.heap.size w wr) (fun _ v4 _ => n - (intOf v4).toNat)
  case atStart => exact ⟨0, by omega, rfl, World.ownsRow_nil _ _ _ _, Below.refl _ _⟩
  case round =>
    obtain ⟨i, hi, rfl, hown, hB⟩ := hrel
    obtain ⟨A3, c3, rfl⟩ := ownForm hown
    by_cases hlt : i < n
    · obtain ⟨x, hx⟩ : ∃ x, l[i]? = some x := ⟨_, List.getElem?_eq_getElem (by rw [HN.out]; exact hlt)⟩
      obtain ⟨ab, ao, rfl, hbl, hld, hsl⟩ := HI.out.lit hx
      have hs := isC_snoc l i x hx
      have HS := Sl.mk hs
      obtain ⟨op, k0, s⟩ := x
      have HC : ∀ W, Below w.heap.size w W → W.cell? ⟨ab, ao + i * 3, none⟩ = some (.int .i64 op) ∧ W.cell? ⟨ab, ao + i * 3 + 1, none⟩ = some (.int .i64 k0) ∧ W.cell? ⟨ab, ao + i * 3 + 2, none⟩ = some (.string (bsS s)) := fun W hW => by
        have h0 := hld 0 _ rfl
        have h1 := hld 1 _ rfl
        have h2 := hld 2 _ rfl
        rw [Addr.add_lit] at h0 h1 h2
        exact ⟨(hW.cell (p := ⟨ab, ao + i * 3, none⟩) hbl).trans h0, (hW.cell (p := ⟨ab, ao + i * 3 + 1, none⟩) hbl).trans h1, (hW.cell (p := ⟨ab, ao + i * 3 + 2, none⟩) hbl).trans h2⟩
      clear hx hs hsl hld
      go_upto_region 5 with fail
      refine wp_region_noPanic ?_
      refine wp_region_takes (n := 17) (Below w.heap.size w) (by kernel_rfl) (by kernel_rfl) (fun _ _ _ _ _ h => h) hB.drew ?_
      iterate 17 (refine wpTake_step ?_ (by rfl) (fun w' hw' => ?_) ?_; rotate_left 1; (obtain ⟨c0, c1, c2⟩ := HC w' hw'; go_simp; rfl); rotate_left 1)
      simp only [Act.put, List.setIfInBounds_toArray, List.set_cons_zero, List.set_cons_succ]
      obtain ⟨wd, hwd⟩ : ∃ wd, ({ wr with drawn := wr.drawn + 1 } : World) = wd := ⟨_, rfl⟩
      have hownd : wd.ownsRow w.heap.size 43 3 (.slice A3 i c3) i (isC (l.take i)) := by rw [← hwd]; exact hown
      have hBd : Below w.heap.size w wd := by rw [← hwd]; exact hB.drew
      rw [hwd]
      clear hwd hown hB HC
      have hBa := below_al hBd (.cells #[.int .i64 op, .int .i64 k0, .string (bsS s)] 43)
      refine wpAnyH_oneL (k := 17) rfl (by kernel_rfl) rfl ?_
      refine wp_of_run (v := .slice (some ⟨wd.heap.size, 0, none⟩) 1 1) (w' := wd.alloc (.cells #[.int .i64 op, .int .i64 k0, .string (bsS s)] 43)) (by go_simp) ⟨hBa, ?_⟩
      simp only [Act.put, List.setIfInBounds_toArray, List.set_cons_zero, List.set_cons_succ]
      refine wpAnyH_oneL (k := 18) rfl (by kernel_rfl) rfl ?_
      refine wp_append_any _ (.tmp 11) (.tmp 28) 22 rfl w.heap.size 43 j0 (.agg #[.int .i64 0, .int .i64 0, .string ⟨#[]⟩]) 3 32 Tryd.underlying22 hj0 hy0 hy1 hy2 rfl (by decide) _ _ _ rfl (hownd.alloc _) (wd.heap.size + 1) _ 1 1 [.int .i64 op, .int .i64 k0, .string (bsS s)] rfl (reads_row3 wd _ _ _ _ (Nat.lt_succ_self _)) (by intro u hu; simp at hu; rcases hu with rfl | rfl | rfl <;> rfl) (by unfold maxLen; omega) (by omega) (by have := hBd.size; simp; omega) ?_
      intro v6 w6 hown6 hg6 _
      have hB6 : Below w.heap.size w w6 := hBa.grown hg6 hBa.size (fun q hq => ownGe hownd hq)
      obtain ⟨A6, c6, rfl⟩ := ownForm hown6
      rw [← HS.out] at hown6
      refine ⟨hB6, ?_⟩
      simp only [Act.put, List.setIfInBounds_toArray, List.set_cons_zero, List.set_cons_succ]
      refine wpAnyH_oneL (k := 19) rfl (by kernel_rfl) rfl ?_
      refine wp_of_run (v := .slice A6 (i + 1) c6) (w' := w6) (by go_simp) ⟨hB6, ?_⟩
      simp only [Act.put, List.setIfInBounds_toArray, List.set_cons_zero, List.set_cons_succ]
      refine wpAnyH_done (by kernel_rfl) ?_ _
      refine NoPanic.normal ?_
      clear hownd hBd hBa hg6
      go_wp2_with fail
      go_roundw
      case rel => exact ⟨i + 1, by omega, by go_num, hown6, hB6⟩
      case measure => simp [intOf]; omega
    · obtain rfl : i = n := by omega
      have hf : l.take i = l := by rw [← HN.out, List.take_length]
      rw [hf] at hown
      go_wp2_with fail
      go_ret
      exact ⟨_, _, _, rfl, hown, by omega, hB⟩
end Go.Proofs.YtigdfkpkogompaaDoor
