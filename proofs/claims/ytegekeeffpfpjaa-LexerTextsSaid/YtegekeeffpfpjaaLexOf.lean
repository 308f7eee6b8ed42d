/-
  The contracts of the law's Of, and of the reference's Text.
-/
import Derived.Test.YtegekeeffpfpjaaLexText
import Derived.Test.YtegekeeffpfpjaaWordsR
namespace Go.Proofs.Ytegekeeffpfpjaa
open Go.RowKit

theorem info_rtok : (Try.prog.info? 62).map (fun i => (i.zero, i.size, i.bytes)) = some (some (.agg #[.int .i64 0, .string ByteArray.empty, .int .i64 0]), 3, 32) := by kernel_rfl

theorem reads_tok (w : World) (a b c : Value) (t : TypeId) {B : Nat} (hB : w.heap.size < B) : Reads (w.alloc (.cells #[a, b, c] t)) B 3 (some ⟨w.heap.size, 0, none⟩) 1 [a, b, c] :=
  ⟨rfl, fun _ => ⟨_, rfl, hB, fun j u hj => by
    have hadd : (⟨w.heap.size, 0, none⟩ : Addr).add j = ⟨w.heap.size, j, none⟩ := by unfold Addr.add; split <;> simp_all
    rw [hadd, (Blk.new w t #[a, b, c]).cell j]
    simpa using hj⟩⟩
set_option maxRecDepth 100000 in
set_option maxHeartbeats 2000000 in
theorem Of_any (A : Option Addr) (c n : Nat) (l : List Tok) (w : World) (hn : l.length = n) (h1 : Toks w A l) (hm : n ≤ 1000000) :
    Calls Try.prog 13 #[.slice A n c] w fun e w' => ∃ v, e = .returned v ∧ w'.ownsRow w.heap.size 62 3 v n (cellsT l) ∧ Below w.heap.size w w' := by
  obtain ⟨j0, hj0, hy0, hy1, hy2⟩ := info_parts info_rtok
  have HN := hide hn
  have HT := hide h1
  clear hn h1
  go_enter Try.func13, Try.ntmps13
  go_wp2_with fail
  go_loopw [3, 4] (fun v3 v4 wr => ∃ i : Nat, i ≤ n ∧ v4 = .int .i64 i ∧ wr.ownsRow w.heap.size 62 3 v3 i (cellsT (l.take i)) ∧ Below w.heap.size w wr) (fun _ v4 _ => n - (intOf v4).toNat)
  case atStart => exact ⟨0, by omega, rfl, World.ownsRow_nil _ _ _ _, Below.refl _ _⟩
  case round =>
    obtain ⟨i, hi, rfl, hown, hB⟩ := hrel
    obtain ⟨A3, c3, rfl⟩ := own_form hown
    by_cases hlt : i < n
    · obtain ⟨t, ht, htk, -⟩ := tok_get HN.out hlt
      obtain ⟨g1, rfl, hg1, hc1⟩ := HT.out (by intro e; rw [e] at ht; simp at ht)
      obtain ⟨x0, x1, x2⟩ := cellsT_at ht
      have q0 := (hB.cell (p := ⟨g1, i * 3, none⟩) hg1).trans (hc1 _ _ x0)
      have q1 := (hB.cell (p := ⟨g1, i * 3 + 1, none⟩) hg1).trans (hc1 _ _ x1)
      have q2 := (hB.cell (p := ⟨g1, i * 3 + 2, none⟩) hg1).trans (hc1 _ _ x2)
      have hs := cellsT_snoc (l.take i) t
      rw [← htk] at hs
      have HS := hide hs
      clear ht htk hs
      obtain ⟨tk, ttx, tl⟩ := t
      dsimp only at q0 q1 q2 HS x0 x1 x2
      have e0 : ∀ w', Below w.heap.size w w' → w'.cell? ⟨g1, i * 3, none⟩ = some (.int .i64 tk) ∧ w'.cell? ⟨g1, i * 3 + 1, none⟩ = some (.string ⟨ttx.toArray⟩) ∧ w'.cell? ⟨g1, i * 3 + 2, none⟩ = some (.int .i64 tl) := fun w' hw' =>
        ⟨(hw'.cell (p := ⟨g1, i * 3, none⟩) hg1).trans (hc1 _ _ x0), (hw'.cell (p := ⟨g1, i * 3 + 1, none⟩) hg1).trans (hc1 _ _ x1), (hw'.cell (p := ⟨g1, i * 3 + 2, none⟩) hg1).trans (hc1 _ _ x2)⟩
      clear hc1 x0 x1 x2 q0 q1 q2
      go_upto_region 5 with fail
      refine wp_region_noPanic ?_
      refine wp_region_takes (n := 17) (Below w.heap.size w) (by kernel_rfl) (by kernel_rfl) (fun _ _ _ _ _ h => h) hB.drew ?_
      iterate 17 (refine wpTake_step ?_ (by rfl) (fun w' hw' => ?_) ?_; rotate_left 1; (obtain ⟨c0, c1, c2⟩ := e0 w' hw'; go_simp; rfl); rotate_left 1)
      simp only [Act.put, List.setIfInBounds_toArray, List.set_cons_zero, List.set_cons_succ]
      obtain ⟨wd, hwd⟩ : ∃ wd, ({ wr with drawn := wr.drawn + 1 } : World) = wd := ⟨_, rfl⟩
      have hownd : wd.ownsRow w.heap.size 62 3 (.slice A3 i c3) i (cellsT (l.take i)) := by rw [← hwd]; exact hown
      have hBd : Below w.heap.size w wd := by rw [← hwd]; exact hB.drew
      rw [hwd]
      clear hwd hown hB e0
      have hBa := below_al hBd (.cells #[.int .i64 tk, .string ⟨ttx.toArray⟩, .int .i64 tl] 62)
      refine wpAnyH_oneL (k := 17) rfl (by kernel_rfl) rfl ?_
      refine wp_of_run (v := .slice (some ⟨wd.heap.size, 0, none⟩) 1 1) (w' := wd.alloc (.cells #[.int .i64 tk, .string ⟨ttx.toArray⟩, .int .i64 tl] 62)) (by go_simp) ⟨hBa, ?_⟩
      simp only [Act.put, List.setIfInBounds_toArray, List.set_cons_zero, List.set_cons_succ]
      refine wpAnyH_oneL (k := 18) rfl (by kernel_rfl) rfl ?_
      refine wp_append_any _ (.tmp 11) (.tmp 28) 38 rfl w.heap.size 62 j0 (.agg #[.int .i64 0, .string ByteArray.empty, .int .i64 0]) 3 32 Try.underlying38 hj0 hy0 hy1 hy2 rfl (by decide) _ _ _ rfl (hownd.alloc _) (wd.heap.size + 1) _ 1 1 [.int .i64 tk, .string ⟨ttx.toArray⟩, .int .i64 tl] rfl (reads_tok wd _ _ _ _ (Nat.lt_succ_self _)) (by intro u hu; simp at hu; rcases hu with rfl | rfl | rfl <;> rfl) (by unfold maxLen; omega) (by omega) (by have := hBd.size; simp; omega) ?_
      intro v6 w6 hown6 hg6 _
      have hB6 : Below w.heap.size w w6 := hBa.grown hg6 hBa.size (fun q hq => own_ge hownd hq)
      obtain ⟨A6, c6, rfl⟩ := own_form hown6
      rw [← HS.out] at hown6
      refine ⟨hB6, ?_⟩
      simp only [Act.put, List.setIfInBounds_toArray, List.set_cons_zero, List.set_cons_succ]
      refine wpAnyH_oneL (k := 19) rfl (by kernel_rfl) rfl ?_
      refine wp_of_run (v := .slice A6 (i + 1) c6) (w' := w6) (by go_simp) ⟨hB6, ?_⟩
      simp only [Act.put, List.setIfInBounds_toArray, List.set_cons_zero, List.set_cons_succ]
      refine wpAnyH_done (by kernel_rfl) ?_ _
      refine NoPanic.normal ?_
      clear hownd hBd hBa hg6
      go_wp2_with fail
      go_roundw
      case rel => exact ⟨i + 1, by omega, by go_num, hown6, hB6⟩
      case measure => simp [intOf]; omega
    · obtain rfl : i = n := by omega
      have hf : l.take i = l := by rw [← HN.out, List.take_length]
      rw [hf] at hown
      go_wp2_with fail
      go_ret
      exact ⟨_, rfl, hown, hB⟩

theorem mk_app (a b : List UInt8) : (⟨a.toArray⟩ : ByteArray) ++ ⟨b.toArray⟩ = ⟨(a ++ b).toArray⟩ := by
  apply ByteArray.ext
  apply Array.toList_inj.1
  simp

set_option maxRecDepth 100000 in
set_option maxHeartbeats 2000000 in
theorem RText_any (A : Option Addr) (c n : Nat) (l : List Tok) (w : World) (hn : l.length = n) (h1 : Toks w A l) (hm : n ≤ 1000) (hsum : (txtT l).flatten.length ≤ 100000) :
    Calls Try.prog 12 #[.slice A n c] w fun e w' => e = .returned (.string ⟨(textG (txtT l)).toArray⟩) ∧ Below w.heap.size w w' := by
  have HN := hide hn
  have HT := hide h1
  have hlen : ∀ i, (textG (txtT (l.take i))).length ≤ 110000 := fun i => by
    have h2 := textG_len (txtT (l.take i))
    have h3 := flat_take_le (txtT l) i
    have e : txtT (l.take i) = (txtT l).take i := by simp [txtT, List.map_take]
    have h4 : (txtT (l.take i)).length ≤ n := by rw [txtT_len, List.length_take]; omega
    rw [e] at h2 h4 ⊢
    omega
  have HLEN := hide hlen
  have hsum2 : ∀ t ∈ l, t.2.1.length ≤ 100000 := fun t ht => by
    have : t.2.1.length ≤ (txtT l).flatten.length := by
      obtain ⟨a, b, rfl⟩ := List.append_of_mem ht
      simp [txtT]; omega
    omega
  have HSUM := hide hsum2
  clear hn h1 hlen hsum hsum2
  go_enter Try.func12, Try.ntmps12
  go_wp2_with fail
  go_loopw [3, 4] (fun v3 v4 wr => ∃ i : Nat, i ≤ n ∧ v4 = .int .i64 i ∧ v3 = .string ⟨(textG (txtT (l.take i))).toArray⟩ ∧ Below w.heap.size w wr) (fun _ v4 _ => n - (intOf v4).toNat)
  case atStart => exact ⟨0, by omega, rfl, rfl, Below.refl _ _⟩
  case round =>
    obtain ⟨i, hi, rfl, rfl, hB⟩ := hrel
    by_cases hlt : i < n
    · obtain ⟨t, ht, htk, htx⟩ := tok_get HN.out hlt
      obtain ⟨g1, rfl, hg1, hc1⟩ := HT.out (by intro e; rw [e] at ht; simp at ht)
      obtain ⟨x0, x1, x2⟩ := cellsT_at ht
      have q1 := (hB.cell (p := ⟨g1, i * 3 + 1, none⟩) hg1).trans (hc1 _ _ x1)
      have hts := text_step (l.take i) t
      rw [← htk] at hts
      have HTS := hide hts
      have HTL := hide (HSUM.out t (List.mem_of_getElem? ht))
      have hL := HLEN.out i
      obtain ⟨tk, ttx, tl⟩ := t
      dsimp only at q1 HTS HTL
      clear ht htk htx x0 x1 x2 hts
      obtain ⟨X, hX⟩ : ∃ X, textG (txtT (l.take i)) = X := ⟨_, rfl⟩
      rw [hX] at hL ⊢
      have HX := hide hX
      clear hX
      go_upto_region 5 with fail
      go_cut [21] (fun v21 wx => v21 = .bool (spB (txtT (l.take i))) ∧ wx = wr)
      case first =>
        by_cases hi0 : i = 0
        · subst hi0
          go_wp2_with fail
          go_meet
          exact ⟨rfl, rfl⟩
        · obtain ⟨j, rfl⟩ : ∃ j, i = j + 1 := ⟨i - 1, by omega⟩
          obtain ⟨p, hp, hpk, -⟩ := tok_get HN.out (show j < n by omega)
          obtain ⟨-, y1, -⟩ := cellsT_at hp
          have r1W := (hB.cell (p := ⟨g1, j * 3 + 1, none⟩) hg1).trans (hc1 _ _ y1)
          have hsp : spB (txtT (l.take (j + 1))) = !(p.2.1 == [59]) := by
            rw [hpk]
            have e : txtT (l.take j ++ [p]) = txtT (l.take j) ++ [p.2.1] := by simp [txtT]
            rw [e]; exact spB_last _
          have HSP := hide hsp
          clear hp hpk y1 hsp hc1
          obtain ⟨pk, ptx, pl⟩ := p
          dsimp only at r1W HSP
          go_wp2_with fail
          go_meet
          exact ⟨by rw [HSP.out], rfl⟩
      case rest =>
        obtain ⟨rfl, rfl⟩ := hcut
        clear hc1
        have hse := sepT_eq (txtT (l.take i))
        obtain ⟨b, hb⟩ : ∃ b, spB (txtT (l.take i)) = b := ⟨_, rfl⟩
        rw [hb] at hse ⊢
        have HSE := hide hse
        have hsl : (sepT (txtT (l.take i))).length ≤ 1 := by rw [hse]; split <;> simp
        have htl := HTL.out
        have hz : ∀ x : List UInt8, (⟨x.toArray⟩ : ByteArray).size = x.length := fun x => by show x.toArray.size = _; simp
        clear hb hse
        go_upto_if 21 with fail
        go_cut [3] (fun v3 wx => v3 = .string ⟨(X ++ sepT (txtT (l.take i))).toArray⟩ ∧ wx = wc)
        case first =>
          have hx1 := hz X
          cases b
          · go_wp2_with fail
            go_meet
            exact ⟨by rw [HSE.out]; simp, rfl⟩
          · go_wp2_with fail
            go_meet
            exact ⟨by rw [HSE.out, ← mk_app]; rfl, rfl⟩
        case rest =>
          obtain ⟨rfl, rfl⟩ := hcut
          have hts := HTS.out
          rw [HX.out] at hts
          have hen : endT ttx = if (ttx == [59]) = true then [10] else [] := by unfold endT; by_cases q : ttx = [59] <;> simp [q]
          obtain ⟨b2, hb2⟩ : ∃ b2, (ttx == [59]) = b2 := ⟨_, rfl⟩
          rw [hb2] at hen
          obtain ⟨Y, hY⟩ : ∃ Y, X ++ sepT (txtT (l.take i)) = Y := ⟨_, rfl⟩
          have hYl : Y.length ≤ 110001 := by rw [← hY, List.length_append]; omega
          rw [← List.append_assoc, hY] at hts
          rw [hY]
          have hy1 := hz Y
          have hy2 := hz ttx
          have hy3 := hz (Y ++ ttx)
          rw [List.length_append] at hy3
          have HTS2 := hide hts
          clear hz hY hts HX
          cases b2
          · have hen' : endT ttx = [] := hen
            have HEN := hide hen'
            clear hen hen'
            go_wp2_with fail
            go_roundw
            case rel => exact ⟨i + 1, by omega, by go_num, by rw [HTS2.out, HEN.out, List.append_nil, ← mk_app], hB⟩
            case measure => simp [intOf]; omega
          · have hen' : endT ttx = [10] := hen
            have HEN := hide hen'
            clear hen hen'
            go_wp2_with fail
            go_roundw
            case rel => exact ⟨i + 1, by omega, by go_num, by rw [HTS2.out, HEN.out, ← List.append_assoc, ← mk_app, ← mk_app], hB⟩
            case measure => simp [intOf]; omega
    · obtain rfl : i = n := by omega
      have hf : l.take i = l := by rw [← HN.out, List.take_length]
      rw [hf]
      go_wp2_with fail
      go_ret
      exact ⟨rfl, hB⟩

end Go.Proofs.Ytegekeeffpfpjaa
