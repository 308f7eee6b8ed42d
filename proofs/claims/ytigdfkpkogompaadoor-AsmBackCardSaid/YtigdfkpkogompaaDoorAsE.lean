/-
  The contract of asm's line.
-/
import Derived.Test.YtigdfkpkogompaaDoorAsD
namespace Go.Proofs.YtigdfkpkogompaaDoor
open Go.RowKit Go.Maps
attribute [local go_sem ↓] Go.wp_at_zero Go.wp_at_succ

theorem wp_of_call {P : Program} {o : Oper} {a : Act} {w : World} {K : Act → World → Prop} {Q : Exit → Act → World → Prop} {f : FuncId} {args : Array Value} {R : Ending → World → Prop} (hrun : (execOp a.eval o).run P w = .ok (.enter f args) w)
    (hc : Calls P f args w R) (h : ∀ e w', R e w' → ∃ v, e = .returned v ∧ K (a.put o.dst v) w') : o.wp P a w K Q := by
  unfold Oper.wp
  rw [hrun]
  refine hc.mono fun e w' hr => ?_
  obtain ⟨v, rfl, hk⟩ := h e w' hr
  exact hk
theorem cut_le (s : List UInt8) : (Lib.cut s [35]).1.length ≤ s.length := by
  unfold Lib.cut
  split
  · simp; omega
  · exact Nat.le_refl _
theorem dw_le (p : UInt8 → Bool) (l : List UInt8) : (l.dropWhile p).length ≤ l.length := (List.dropWhile_suffix p).length_le
theorem trim_le (s : List UInt8) : (Lib.trimS s bl2).length ≤ s.length := by
  unfold Lib.trimS Lib.trimLeftS Lib.trimRightS
  have h1 := dw_le (bl2.contains ·) s.reverse
  have h2 := dw_le (bl2.contains ·) (s.reverse.dropWhile (bl2.contains ·)).reverse
  simp at h1 h2 ⊢
  omega
theorem idx_app : ∀ l : List UInt8, ∃ k : Nat, Lib.indexAny (l ++ [32]) bl2 = (k : Int) ∧ k ≤ l.length
  | [] => ⟨0, rfl, Nat.le_refl _⟩
  | b :: l => by
    obtain ⟨k, h1, h2⟩ := idx_app l
    by_cases hb : bl2.contains b = true
    · refine ⟨0, ?_, Nat.zero_le _⟩
      rw [List.cons_append, Lib.indexAny, if_pos hb]; rfl
    · refine ⟨k + 1, ?_, by simpa using h2⟩
      rw [List.cons_append, Lib.indexAny, if_neg hb, h1, if_neg (by simp)]; rfl
theorem bare_le (s : List UInt8) : (bareF s).length ≤ s.length := Nat.le_trans (trim_le _) (cut_le s)
def LnPost (w : World) (base pb mb : Nat) (p : Ps) (s : List UInt8) (no : Nat) (e : Ending) (w' : World) : Prop :=
  e = .returned (.int .i64 (lineF p s no).2) ∧ ((lineF p s no).2 = 0 → Pv w' base pb mb (lineF p s no).1) ∧ Below base w w' ∧ Kps w w'
theorem line_empty {p : Ps} {s : List UInt8} {no : Nat} (h : bareF s = []) : lineF p s no = (p, 0) := by unfold lineF; rw [if_pos h]
theorem line_label {p : Ps} {s : List UInt8} {no : Nat} (h : bareF s ≠ []) (h2 : [58].isSuffixOf (bareF s) = true) : lineF p s no = (match markF p (bareF s).dropLast with | none => (p, 3) | some q => (q, 0)) := by
  unfold lineF; rw [if_neg h, if_pos h2]; rfl
theorem line_code {p : Ps} {s : List UInt8} {no : Nat} (h : bareF s ≠ []) (h2 : [58].isSuffixOf (bareF s) = false) : lineF p s no = (match oneF p ((bareF s).take (wordAt (bareF s))) (restF (bareF s)) no with | none => (p, 3) | some q => if p.l.length = 200 then (p, 6) else (q, 0)) := by
  unfold lineF; rw [if_neg h, if_neg (by rw [h2]; simp)]; rfl

set_option maxRecDepth 100000 in
set_option maxHeartbeats 4000000 in
theorem line_any (base pb mb no : Nat) (p : Ps) (s : List UInt8) (w : World) (h : Pv w base pb mb p) (hs : s.length ≤ 100000) (hl : p.l.length ≤ 200) (hlab : p.lab.length ≤ 1000000) (hask : p.ask.length ≤ 1000000) (hbw : base ≤ w.heap.size) (hE : Eg w base) :
    Calls Tryd.prog 25 #[.pointer (some ⟨pb, 0, none⟩), .string (bsS s), .int .i64 no] w (LnPost w base pb mb p s no) := by
  obtain ⟨b1, hb1⟩ : ∃ b1, (Lib.cut s [35]).1 = b1 := ⟨_, rfl⟩
  have hl1 : b1.length ≤ s.length := by rw [← hb1]; exact cut_le s
  have HC := Sl.mk (cut_any s w (by omega) (hE.mono hbw))
  rw [hb1] at HC
  obtain ⟨b, hb⟩ : ∃ b, bareF s = b := ⟨_, rfl⟩
  have hbb : Lib.trimS b1 bl2 = b := by rw [← hb, ← hb1]; rfl
  have hl2 : b.length ≤ b1.length := by rw [← hbb]; exact trim_le b1
  have HT := Sl.mk (fun W => trim2_any b1 W (by omega))
  rw [hbb] at HT
  have HS := Sl.mk (fun W => cuts_any b 58 W (by omega))
  have hem := emp_list b
  have hz := bs_size b
  have HH := Sl.mk h
  have hE0 := Sl.mk hE
  have HBF := Sl.mk hb
  have HLS := Sl.mk (show b.length ≤ 100000 by omega)
  clear hb1 hbb hb h hE hl1 hl2
  by_cases h0 : b = []
  · subst h0
    have HR := Sl.mk (line_empty (p := p) (no := no) HBF.out)
    go_enter Tryd.func25, Tryd.ntmps25
    go_wp2_with fail
    refine HC.out.mono ?_
    rintro e w1 ⟨⟨t, bt, rfl⟩, hb1⟩
    have HB1 := Sl.mk hb1
    clear hb1
    go_wp2_with fail
    refine (HT.out w1).mono ?_
    rintro e w2 ⟨rfl, hb2⟩
    have HB2 := Sl.mk (below_tr HB1.out hb2)
    clear hb2
    go_wp2_with fail
    go_ret
    exact ⟨by rw [HR.out]; rfl, fun _ => (by rw [HR.out]; exact HH.out.be HB2.out), HB2.out.mono hbw, Kps.be HB2.out⟩
  · have hne : b.isEmpty = false := by cases b with | nil => exact absurd rfl h0 | cons _ _ => rfl
    rw [hne] at hem
    cases hsx : [58].isSuffixOf b with
    | true =>
      rw [hsx, if_pos rfl] at HS
      have HR := Sl.mk (line_label (p := p) (no := no) (by rw [HBF.out]; exact h0) (by rw [HBF.out]; exact hsx))
      rw [HBF.out] at HR
      go_enter Tryd.func25, Tryd.ntmps25
      go_wp2_with fail
      refine HC.out.mono ?_
      rintro e w1 ⟨⟨t, bt, rfl⟩, hb1⟩
      have HB1 := Sl.mk hb1
      clear hb1
      go_wp2_with fail
      refine (HT.out w1).mono ?_
      rintro e w2 ⟨rfl, hb2⟩
      have HB2 := Sl.mk (below_tr HB1.out hb2)
      clear hb2
      go_wp2_with fail
      refine (HS.out w2).mono ?_
      rintro e w3 ⟨rfl, rfl⟩
      have HM := Sl.mk (mark_any base pb mb p b.dropLast w3 (HH.out.be HB2.out) (by rw [List.length_dropLast]; have := HLS.out; omega) (by omega) hlab (Nat.le_trans hbw HB2.out.size))
      unfold MkPost at HM
      obtain ⟨mk, hmk⟩ : ∃ mk, markF p b.dropLast = mk := ⟨_, rfl⟩
      rw [hmk] at HM HR
      clear hmk
      go_wp2_with fail
      refine HM.out.mono ?_
      rintro e w4 ⟨rfl, h4, hb4, hk4⟩
      have HD := Sl.mk (show Below base w w4 ∧ Kps w w4 from ⟨(HB2.out.mono hbw).trans hb4, (Kps.be HB2.out).trans hk4⟩)
      have H4 := Sl.mk h4
      clear h4 hb4 hk4
      cases mk with
      | none =>
        go_wp2_with fail
        go_ret
        exact ⟨by rw [HR.out]; rfl, fun h => (by rw [HR.out] at h; cases h), HD.out⟩
      | some q =>
        go_wp2_with fail
        go_ret
        exact ⟨by rw [HR.out]; rfl, fun h => (by rw [HR.out]; exact H4.out q rfl), HD.out⟩
    | false =>
      rw [hsx] at HS
      have HR := Sl.mk (line_code (p := p) (no := no) (by rw [HBF.out]; exact h0) (by rw [HBF.out]; exact hsx))
      rw [HBF.out] at HR
      obtain ⟨k, hk, hkl⟩ := idx_app b
      have hwa : wordAt b = k := by unfold wordAt; rw [hk]; rfl
      obtain ⟨R, hR⟩ : ∃ R, restF b = R := ⟨_, rfl⟩
      have hR2 : Lib.trimLeftS (b.drop k) bl2 = R := by rw [← hR, ← hwa]; rfl
      have hRl : R.length ≤ b.length := by
        rw [← hR2]
        unfold Lib.trimLeftS
        have := dw_le (bl2.contains ·) (b.drop k)
        rw [List.length_drop] at this
        omega
      rw [hwa, hR] at HR
      have HIX := Sl.mk (fun W => idxany_any (b ++ [32]) W (by simp; have := HLS.out; omega))
      rw [hk] at HIX
      have HTL := Sl.mk (fun W => triml_any (b.drop k) W)
      rw [hR2] at HTL
      have hap : bsS b ++ ⟨#[32]⟩ = bsS (b ++ [32]) := by unfold bsS; apply ByteArray.ext; simp [ByteArray.data_append]
      have hsl1 : ∀ W, (Instr.slice 9 (.string (bsS b)) none (some (.int .i64 (k : Int))) none).run Tryd.prog W = .ok (.string (bsS (b.take k))) W := fun W => by
        rw [run_slice_string_to_if W 9 (bsS b) .i64 (k : Int) Tryd.underlying9, if_pos ⟨by omega, by rw [hz]; omega⟩, Int.toNat_natCast, bs_cut, List.drop_zero, Nat.sub_zero]
      have hsl2 : ∀ W, (Instr.slice 9 (.string (bsS b)) (some (.int .i64 (k : Int))) none none).run Tryd.prog W = .ok (.string (bsS (b.drop k))) W := fun W => by
        rw [run_slice_string_from_if W 9 (bsS b) .i64 (k : Int) Tryd.underlying9, if_pos ⟨by omega, by rw [hz]; omega⟩, Int.toNat_natCast, bs_cut, hz, List.take_of_length_le (by simp)]
      have HKK := Sl.mk (show k ≤ 100000 ∧ R.length ≤ 100000 by have := HLS.out; omega)
      clear hwa hR hR2 hk hkl hRl
      go_enter Tryd.func25, Tryd.ntmps25
      go_wp2_with fail
      refine HC.out.mono ?_
      rintro e w1 ⟨⟨t, bt, rfl⟩, hb1⟩
      have HB1 := Sl.mk hb1
      clear hb1
      go_wp2_with fail
      refine (HT.out w1).mono ?_
      rintro e w2 ⟨rfl, hb2⟩
      have HB2 := Sl.mk (below_tr HB1.out hb2)
      clear hb2
      go_wp2_with fail
      refine (HS.out w2).mono ?_
      rintro e w3 ⟨rfl, rfl⟩
      have hls := HLS.out
      go_wp2_with fail
      refine (HIX.out w3).mono ?_
      rintro e w4 ⟨rfl, hb4⟩
      have HB4 := Sl.mk (below_tr HB2.out hb4)
      have HP4 := Sl.mk (HH.out.be HB4.out)
      clear hb4
      obtain ⟨A, c, A2, c2, hBp, -, -⟩ := HP4.out.blk
      have d0 := hBp.cell 0
      obtain ⟨L, hL⟩ : ∃ L, p.l.length = L := ⟨_, rfl⟩
      rw [hL] at d0 hl HR
      have HL := Sl.mk hL
      clear hBp hL
      go_wp2_with fail
      have HO := Sl.mk (fun (W : World) (hW : Below w4.heap.size w4 W) => one_any base pb mb no p (b.take k) R W (HP4.out.be hW) (by have := HKK.out; omega) (by have := HL.out; omega) hask (Nat.le_trans (Nat.le_trans hbw HB4.out.size) hW.size) ((hE0.out.be (HB4.out.mono hbw)).be (hW.mono (Nat.le_trans hbw HB4.out.size))))
      obtain ⟨ok, hok⟩ : ∃ ok, oneF p (b.take k) R no = ok := ⟨_, rfl⟩
      rw [hok] at HR
      unfold OnPost at HO
      rw [hok] at HO
      clear hok d0
      have HSF : Sl (World → True) := Sl.mk (fun _ => trivial)
      obtain ⟨wd, hwd⟩ : ∃ wd, w4.drew = wd := ⟨_, rfl⟩
      have HWD := Sl.mk (show Below w4.heap.size w4 wd by rw [← hwd]; exact (Below.refl _ _).drew)
      refine wp_region_X (fun _ => True) [9, 10, 11] (by kernel_rfl) trivial (fun hS => ?_)
      rw [hwd]
      clear hwd HSF
      refine wpAnyX_S (i := 0) (v := ?_) rfl (by kernel_rfl) (by kernel_rfl) (by kernel_rfl) (by kernel_rfl) (fun _ _ _ h => h) (Or.inl ⟨by rfl, ?_⟩) hS ?_
      rotate_left 1
      · (intro w' hw'; (first | rw [hw'] | (have hw2 := HSF.out w' hw'; (try obtain ⟨hw2, hw3⟩ := hw2)) | skip); go_simp; (try with_reducible rfl))
      simp only [Act.put, List.setIfInBounds_toArray, List.set_cons_zero, List.set_cons_succ]
      refine wpAnyX_S (i := 1) (v := ?_) rfl (by kernel_rfl) (by kernel_rfl) (by kernel_rfl) (by kernel_rfl) (fun _ _ _ h => h) (Or.inl ⟨by rfl, ?_⟩) hS ?_
      rotate_left 1
      · (intro w' hw'; (first | rw [hw'] | (have hw2 := HSF.out w' hw'; (try obtain ⟨hw2, hw3⟩ := hw2)) | skip); go_simp; (try with_reducible rfl))
      simp only [Act.put, List.setIfInBounds_toArray, List.set_cons_zero, List.set_cons_succ]
      refine wpAnyX_S (i := 2) (v := ?_) rfl (by kernel_rfl) (by kernel_rfl) (by kernel_rfl) (by kernel_rfl) (fun _ _ _ h => h) (Or.inl ⟨by rfl, ?_⟩) hS ?_
      rotate_left 1
      · (intro w' hw'; (first | rw [hw'] | (have hw2 := HSF.out w' hw'; (try obtain ⟨hw2, hw3⟩ := hw2)) | skip); go_simp; (try with_reducible rfl))
      simp only [Act.put, List.setIfInBounds_toArray, List.set_cons_zero, List.set_cons_succ]
      refine wpAnyX_S (i := 3) (v := ?_) rfl (by kernel_rfl) (by kernel_rfl) (by kernel_rfl) (by kernel_rfl) (fun _ _ _ h => h) (Or.inl ⟨by rfl, ?_⟩) hS ?_
      rotate_left 1
      · (intro w' hw'; (first | rw [hw'] | (have hw2 := HSF.out w' hw'; (try obtain ⟨hw2, hw3⟩ := hw2)) | skip); go_simp; (try with_reducible rfl))
      simp only [Act.put, List.setIfInBounds_toArray, List.set_cons_zero, List.set_cons_succ]
      refine wpAnyX_S (i := 4) (v := ?_) rfl (by kernel_rfl) (by kernel_rfl) (by kernel_rfl) (by kernel_rfl) (fun _ _ _ h => h) (Or.inl ⟨by rfl, ?_⟩) hS ?_
      rotate_left 1
      · (intro w' hw'; (first | rw [hw'] | (have hw2 := HSF.out w' hw'; (try obtain ⟨hw2, hw3⟩ := hw2)) | skip); go_simp; (try with_reducible rfl))
      simp only [Act.put, List.setIfInBounds_toArray, List.set_cons_zero, List.set_cons_succ]
      refine wpAnyX_S (i := 5) (v := ?_) rfl (by kernel_rfl) (by kernel_rfl) (by kernel_rfl) (by kernel_rfl) (fun _ _ _ h => h) (Or.inl ⟨by rfl, ?_⟩) hS ?_
      rotate_left 1
      · (intro w' hw'; (first | rw [hw'] | (have hw2 := HSF.out w' hw'; (try obtain ⟨hw2, hw3⟩ := hw2)) | skip); go_simp; (try with_reducible rfl))
      simp only [Act.put, List.setIfInBounds_toArray, List.set_cons_zero, List.set_cons_succ]
      refine wpAnyX_S (i := 6) (v := ?_) rfl (by kernel_rfl) (by kernel_rfl) (by kernel_rfl) (by kernel_rfl) (fun _ _ _ h => h) (Or.inl ⟨by rfl, ?_⟩) hS ?_
      rotate_left 1
      · (intro w' hw'; (first | rw [hw'] | (have hw2 := HSF.out w' hw'; (try obtain ⟨hw2, hw3⟩ := hw2)) | skip); go_simp; (try with_reducible rfl))
      simp only [Act.put, List.setIfInBounds_toArray, List.set_cons_zero, List.set_cons_succ]
      refine wpAnyX_S (i := 8) (v := ?_) rfl (by kernel_rfl) (by kernel_rfl) (by kernel_rfl) (by kernel_rfl) (fun _ _ _ h => h) (Or.inl ⟨by rfl, ?_⟩) hS ?_
      rotate_left 1
      · (intro w' hw'; (first | rw [hw'] | (have hw2 := HSF.out w' hw'; (try obtain ⟨hw2, hw3⟩ := hw2)) | skip); go_simp; (try with_reducible rfl))
      simp only [Act.put, List.setIfInBounds_toArray, List.set_cons_zero, List.set_cons_succ]
      refine wpAnyX_oneL (k := 7) rfl (by kernel_rfl) rfl ?_
      refine wp_of_call (f := 39) (args := #[.string (bsS (b.drop k)), .string ⟨#[32, 9]⟩]) (by go_simp) (HTL.out wd) (fun e w7 hq => ?_)
      obtain ⟨rfl, hB7⟩ := hq
      refine ⟨_, rfl, fun _ => trivial, ?_⟩
      simp only [Act.put, List.setIfInBounds_toArray, List.set_cons_zero, List.set_cons_succ]
      have hB7' := HWD.out.trans (hB7.mono HWD.out.size)
      refine wpAnyX_oneL (k := 9) rfl (by kernel_rfl) rfl ?_
      refine wp_of_call (f := 38) (args := #[.pointer (some ⟨pb, 0, none⟩), .string (bsS (b.take k)), .string (bsS R), .int .i64 no]) (by go_simp) (HO.out w7 hB7') (fun e w8 hq => ?_)
      obtain ⟨rfl, h8, hb8, hk8⟩ := hq
      refine ⟨_, rfl, fun _ => trivial, ?_⟩
      simp only [Act.put, List.setIfInBounds_toArray, List.set_cons_zero, List.set_cons_succ]
      have HD := Sl.mk (show Below base w w8 ∧ Kps w w8 from ⟨((HB4.out.trans (hB7'.mono HB4.out.size)).mono hbw).trans hb8, ((Kps.be HB4.out).trans (Kps.be hB7')).trans hk8⟩)
      have H8 := Sl.mk h8
      clear h8 hb8 hk8 hB7 hB7'
      refine wpAnyX_tailF [10, 11] (by kernel_rfl) (by rfl) (by rfl) (by rfl) ?_
      simp only [List.filterMap_cons, List.filterMap_nil, List.getElem?_cons_succ, List.getElem?_cons_zero]
      cases ok with
      | none =>
        go_wp2_with fail
        refine NoPanic.normal ?_
        go_wp2_with fail
        go_ret
        exact ⟨by rw [HR.out]; rfl, fun h => (by rw [HR.out] at h; cases h), HD.out⟩
      | some q =>
        by_cases hf : L = 200
        · have hfb : ((L : Int) == 200) = true := by simp; omega
          have HR2 := Sl.mk (show lineF p s no = (p, 6) by rw [HR.out]; simp [hf])
          clear HR
          go_wp2_with fail
          refine NoPanic.normal ?_
          go_wp2_with fail
          go_ret
          exact ⟨by rw [HR2.out]; rfl, fun h => (by rw [HR2.out] at h; cases h), HD.out⟩
        · have hfb : ((L : Int) == 200) = false := by simp; omega
          have HR2 := Sl.mk (show lineF p s no = (q, 0) by rw [HR.out]; simp [hf])
          clear HR
          go_wp2_with fail
          refine NoPanic.normal ?_
          go_wp2_with fail
          go_ret
          exact ⟨by rw [HR2.out]; rfl, fun h => (by rw [HR2.out]; exact H8.out q rfl), HD.out⟩
end Go.Proofs.YtigdfkpkogompaaDoor
