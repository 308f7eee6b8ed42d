/-
  Write.
-/
import Derived.Test.YtpffdlnjpjoikaaBlkG
namespace Go.Proofs.Ytpffdlnjpjoikaa
open Go.RowKit

theorem fold_off (c : Nat) : ∀ (l : List Value) (k : Nat) (cs : Array Value), c + k + l.length ≤ cs.size → (l.zipIdx k).foldl (fun cs x => cs.setIfInBounds (c + x.snd) x.fst) cs = (cs.toList.take (c + k) ++ l ++ cs.toList.drop (c + k + l.length)).toArray
  | [], k, cs, h => by simp
  | v :: l, k, cs, h => by
    have hlen : (v :: l).length = l.length + 1 := rfl
    rw [List.zipIdx_cons, List.foldl_cons, fold_off c l (k + 1) _ (by simp; omega)]
    have h1 : (cs.setIfInBounds (c + k) v).toList.take (c + (k + 1)) = cs.toList.take (c + k) ++ [v] := by
      rw [Array.toList_setIfInBounds, ← Nat.add_assoc, List.take_succ_eq_append_getElem (by simp; omega), List.take_set_of_le (Nat.le_refl _)]
      simp
    have h2 : (cs.setIfInBounds (c + k) v).toList.drop (c + (k + 1) + l.length) = cs.toList.drop (c + k + (v :: l).length) := by
      rw [Array.toList_setIfInBounds, List.drop_set_of_lt (by omega), hlen]
      congr 1; omega
    rw [h1, h2]; simp
theorem fold_all (l : List Value) (cs : Array Value) (h : l.length = cs.size) : (l.zipIdx).foldl (fun cs x => cs.setIfInBounds x.snd x.fst) cs = l.toArray := by
  have := fold_off 0 l 0 cs (by omega)
  simp only [Nat.zero_add] at this
  rw [this]
  simp [h]
theorem by_build {P : Program} {v : Value} {w : World} {m : Sem Value} (h : Sem.run P m w = .ok v w) : Sem.run P (do pure (Next.value (← m))) w = .ok (.value v) w := by
  rw [Sem.run_bind, h]; rfl
theorem by_run {P : Program} {v : Value} {w w' : World} {m : Sem Value} (h : Sem.run P m w = .ok v w') : Sem.run P (do pure (Next.value (← m))) w = .ok (.value v) w' := by
  rw [Sem.run_bind, h]; rfl
theorem yieldsIf_loadA {P : Program} {ops : Array Oper} {S : World → Prop} {o : Oper} {a : Act} (hw : Region.wanted o (yielded ops a.tmps) = true) (ty : TypeId) (x : Operand) (ho : o.op = .load ty x) (ad : Addr) (v : Value) (hx : a.eval x = .pointer (some ad))
    (hL : ∀ w, S w → (loadVar ty ad).run P w = .ok v w) : YieldsIf P ops S o v a :=
  .inl ⟨hw, fun w hS => by unfold execOp; simp only [ho, hx, Instr.loadAt, Instr.sureAddr, Sem.run_bind, Sem.run_pure, Result.andThen_ok, hL w hS]⟩

theorem build_wt (x : Wt) (w : World) : Sem.run Try.prog (Instr.build 77 #[(0, .int .i64 x.no), (1, .agg (bsC x.b).toArray)]) w = .ok (.agg (wtC x).toArray) w := by
  have h := x.h
  have h65 := bsC_len x.b
  have hz := zeroWt w
  go_simp
  rw [fold_off 1 (bsC x.b) 0 _ (by simp [h65, h])]
  simp [h65, h, wtC]

theorem bslice_wt (x : Wt) (w : World) : Sem.run Try.prog (Instr.buildSlice 63 1 #[(0, .agg (wtC x).toArray)]) w = .ok (.slice (some ⟨w.heap.size, 0, none⟩) 1 1) (w.alloc (.cells (wtC x).toArray 77)) := by
  have h := wtC_len x
  have hz := zeroWt w
  go_simp
  rw [fold_all (wtC x) _ (by simp [h])]
theorem arr_any (ad : Addr) (c : Nat) (w : World) : (Instr.arrayAt 75 (.slice (some ad) 64 c)).run Try.prog w = .ok (.pointer (some ad)) w := by
  simp [Instr.arrayAt, run_underlying Try.underlying75]

theorem own_kept {w w' : World} {base n size : Nat} {e : TypeId} {v : Value} {xs : List Value} {row : Option Nat} (h : w.ownsRow base e size v n xs) (hg : w.grownBy w' row) (hne : ∀ k, v.ownBlock = some k → row ≠ some k) : w'.ownsRow base e size v n xs :=
  Touch.row (M := fun k => row = some k) ⟨hg.os, hg.tape, hg.output, hg.size, fun k hk hn => hg.block k hk (fun e => hn e.symm)⟩ h (fun k hk => hne k hk)
theorem grown_touch {w w' : World} {row : Option Nat} {M : Nat → Prop} (hg : w.grownBy w' row) (hM : ∀ k, row = some k → M k) : Touch w w' M :=
  ⟨hg.os, hg.tape, hg.output, hg.size, fun k hk hn => hg.block k hk (fun e => hn (hM k e.symm))⟩
theorem reads_one (w : World) (x : Wt) : Reads (w.alloc (.cells (wtC x).toArray 77)) (w.heap.size + 1) 65 (some ⟨w.heap.size, 0, none⟩) 1 (wtC x) :=
  ⟨by rw [wtC_len], fun _ => ⟨_, rfl, by simp, fun j u hj => by rw [add_mk, Nat.zero_add, (Blk.new w _ _).cell j]; simpa using hj⟩⟩

set_option maxRecDepth 100000 in
set_option maxHeartbeats 4000000 in
theorem write_any (g : Nat) (s : DSt) (Al Aq A : Option Addr) (cl cq c base no : Nat) (b : List Int) (hb : b.length = 64) (w : World) (hoff : s.off = false) (hD : Dk w base g s (.slice Al s.n cl) (.slice Aq s.line.length cq)) (hno : no < s.n) (hn : s.line.length ≤ 1000000) (hB : base ≤ w.heap.size)
    (hw : 0 ≤ s.wr ∧ s.wr ≤ 1000000) (hR : Reads w w.heap.size 1 A 64 (bsC b)) :
    Calls Try.prog 9 #[.pointer (some ⟨g, 0, none⟩), .int .i64 no, .slice A 64 c] w fun e w' => e = .returned (.int .i64 0) ∧
      DkTo w w' base g { s with line := s.line ++ [⟨no, b, hb⟩], wr := s.wr + 1 } (.slice Al s.n cl) (.slice Aq s.line.length cq) := by
  have c0 : w.cell? ⟨g, 0, none⟩ = some (.bool false) := by rw [← hoff]; exact hD.blk.cell 0
  have c1 : w.cell? ⟨g, 1, none⟩ = some (.bool false) := hD.blk.cell 1
  have c3 : w.cell? ⟨g, 3, none⟩ = some (.slice Al s.n cl) := hD.blk.cell 3
  have hh : (decide ((0 : Int) ≤ (no : Int)) && decide ((no : Int) < (s.n : Int))) = true := by simp [hno]
  have HH := Sl.mk hh
  have HD := Sl.mk hD
  clear hD hoff hh
  obtain ⟨i0, hi0, hz0, hz1, hz2⟩ := info_parts infoWt3
  obtain ⟨ad, rfl, hbl, hcell⟩ := hR.2 (by omega)
  go_enter Try.func9, Try.ntmps9
  go_wp2_with fail
  refine (on_any g false _ c0).mono ?_
  rintro e w' ⟨rfl, rfl⟩
  go_wp2_with fail
  refine (has_any g Al s.n cl no _ c3).mono ?_
  rintro e w' ⟨rfl, rfl⟩
  rw [HH.out]
  go_wp2_with fail
  refine (use_any g _ c0 c1).mono ?_
  rintro e w' ⟨rfl, rfl⟩
  go_wp2_with fail
  have c4 : w.cell? ⟨g, 4, none⟩ = some (.slice Aq s.line.length cq) := HD.out.blk.cell 4
  have hLV : (loadVar 75 ad).run Try.prog w.drew = .ok (.agg (bsC b).toArray) w.drew :=
    run_loadVar_at _ _ 75 (bsC b) _ hcell Try.underlying75 rfl (by rw [infoSec, bsC_len, hb])
  obtain ⟨wd, hwd⟩ : ∃ wd, w.drew = wd := ⟨_, rfl⟩
  have d4 : wd.cell? ⟨g, 4, none⟩ = some (.slice Aq s.line.length cq) := by rw [← hwd]; exact c4
  have HDd : Sl (Dk wd base g s (.slice Al s.n cl) (.slice Aq s.line.length cq)) := by rw [← hwd]; exact Sl.mk (HD.out.be (Below.refl _ _).drew)
  have hbd : Below w.heap.size w wd := by rw [← hwd]; exact (Below.refl _ _).drew
  have hcd : ∀ j u, (bsC b)[j]? = some u → wd.cell? (ad.add j) = some u := by rw [← hwd]; exact hcell
  have hbd2 : ad.block < wd.heap.size := by rw [← hwd]; exact hbl
  have hgl : g < wd.heap.size := HDd.out.blk.lt
  have harr := arr_any ad c
  have HSF : Sl (∀ W, Below wd.heap.size wd W → W.cell? ⟨g, 4, none⟩ = some (.slice Aq s.line.length cq)) := Sl.mk (fun W hW => (hW.cell (p := ⟨g, 4, none⟩) hgl).trans d4)
  have HLV : Sl (∀ W, Below wd.heap.size wd W → (loadVar 75 ad).run Try.prog W = .ok (.agg (bsC b).toArray) W) := Sl.mk (fun W hW =>
    run_loadVar_at _ _ 75 (bsC b) _ (fun j u hj => (hW.cell (p := ad.add j) (by rw [block_of_add]; exact hbd2)).trans (hcd j u hj)) Try.underlying75 rfl (by rw [infoSec, bsC_len, hb]))
  refine wp_region_X (fun W => Below wd.heap.size wd W) [0, 11, 12, 13, 14] (by kernel_rfl) (by rw [hwd]; exact Below.refl _ _) (fun hS => ?_)
  rw [hwd] at hS ⊢
  clear c0 c1 c3 c4 hwd hLV hcell hbl hR d4 hcd hbd2
  refine wpAnyX_P (i := 0) (v := ?_) rfl (by kernel_rfl) (by kernel_rfl) (by kernel_rfl) (by kernel_rfl) (fun _ _ _ h => h) (Or.inl ⟨by rfl, ?_⟩) ?_
  rotate_left 1
  · (intro w' hw'; (first | rw [hw'] | (have hw2 := HSF.out w' hw') | skip); go_simp; (try with_reducible rfl))
  simp only [Act.put, List.setIfInBounds_toArray, List.set_cons_zero, List.set_cons_succ]
  refine wpAnyX_S (i := 1) (v := ?_) rfl (by kernel_rfl) (by kernel_rfl) (by kernel_rfl) (by kernel_rfl) (fun _ _ _ h => h) (Or.inl ⟨by rfl, ?_⟩) hS ?_
  rotate_left 1
  · (intro w' hw'; (first | rw [hw'] | (have hw2 := HSF.out w' hw') | skip); go_simp; (try with_reducible rfl))
  simp only [Act.put, List.setIfInBounds_toArray, List.set_cons_zero, List.set_cons_succ]
  refine wpAnyX_S (i := 2) (v := ?_) rfl (by kernel_rfl) (by kernel_rfl) (by kernel_rfl) (by kernel_rfl) (fun _ _ _ h => h) (Or.inl ⟨by rfl, ?_⟩) hS ?_
  rotate_left 1
  · (intro w' hw'; (first | rw [hw'] | (have hw2 := HSF.out w' hw') | skip); go_simp; (try with_reducible rfl))
  simp only [Act.put, List.setIfInBounds_toArray, List.set_cons_zero, List.set_cons_succ]
  refine wpAnyX_S (i := 3) (v := ?_) rfl (by kernel_rfl) (by kernel_rfl) (by kernel_rfl) (by kernel_rfl) (fun _ _ _ h => h) (Or.inl ⟨by rfl, ?_⟩) hS ?_
  rotate_left 1
  · (intro w' hw'; (first | rw [hw'] | (have hw2 := HSF.out w' hw') | skip); go_simp; (try with_reducible rfl))
  simp only [Act.put, List.setIfInBounds_toArray, List.set_cons_zero, List.set_cons_succ]
  refine wpAnyX_S (i := 4) (v := ?_) rfl (by kernel_rfl) (by kernel_rfl) (by kernel_rfl) (by kernel_rfl) (fun _ _ _ h => h) (Or.inl ⟨by rfl, ?_⟩) hS ?_
  rotate_left 1
  · (intro w' hw'; (first | rw [hw'] | (have hw2 := HSF.out w' hw') | skip); go_simp; (try with_reducible rfl))
  simp only [Act.put, List.setIfInBounds_toArray, List.set_cons_zero, List.set_cons_succ]
  refine wpAnyX_S (i := 5) (v := ?_) rfl (by kernel_rfl) (by kernel_rfl) (by kernel_rfl) (by kernel_rfl) (fun _ _ _ h => h) (Or.inl ⟨by rfl, ?_⟩) hS ?_
  rotate_left 1
  · (intro w' hw'; (first | rw [hw'] | (have hw2 := HSF.out w' hw') | skip); go_simp; (try with_reducible rfl))
  simp only [Act.put, List.setIfInBounds_toArray, List.set_cons_zero, List.set_cons_succ]
  refine wpAnyX_S (i := 6) (v := ?_) rfl (by kernel_rfl) (by kernel_rfl) (by kernel_rfl) (by kernel_rfl) (fun _ _ _ h => h) (Or.inl ⟨by rfl, ?_⟩) hS ?_
  rotate_left 1
  · (intro w' hw'; (first | rw [hw'] | (have hw2 := HSF.out w' hw') | skip); go_simp; (try with_reducible rfl))
  simp only [Act.put, List.setIfInBounds_toArray, List.set_cons_zero, List.set_cons_succ]
  refine wpAnyX_S (i := 7) (v := ?_) rfl (by kernel_rfl) (by kernel_rfl) (by kernel_rfl) (by kernel_rfl) (fun _ _ _ h => h) (Or.inl ⟨by rfl, ?_⟩) hS ?_
  rotate_left 1
  · (intro w' hw'; (first | rw [hw'] | (have hw2 := HSF.out w' hw') | skip); go_simp; (try with_reducible rfl))
  simp only [Act.put, List.setIfInBounds_toArray, List.set_cons_zero, List.set_cons_succ]
  refine wpAnyX_S (i := 8) (v := .agg (bsC b).toArray) rfl (by kernel_rfl) (by kernel_rfl) (by kernel_rfl) (by kernel_rfl) (fun _ _ _ h => h) (yieldsIf_loadA (by rfl) 75 (.tmp 34) rfl ad _ rfl (fun w' hw' => HLV.out w' hw')) hS ?_
  simp only [Act.put, List.setIfInBounds_toArray, List.set_cons_zero, List.set_cons_succ]
  refine wpAnyX_S (i := 9) (v := .agg (wtC ⟨no, b, hb⟩).toArray) rfl (by kernel_rfl) (by kernel_rfl) (by kernel_rfl) (by kernel_rfl) (fun _ _ _ h => h) (.inl ⟨by rfl, fun w' _ => by unfold execOp; simp only [List.map_toArray, List.map_cons, List.map_nil]; exact by_build (build_wt ⟨no, b, hb⟩ w')⟩) hS ?_
  simp only [Act.put, List.setIfInBounds_toArray, List.set_cons_zero, List.set_cons_succ]
  refine wpAnyX_oneL (k := 10) rfl (by kernel_rfl) rfl ?_
  refine wp_of_run (v := .slice (some ⟨wd.heap.size, 0, none⟩) 1 1) (w' := wd.alloc (.cells (wtC ⟨no, b, hb⟩).toArray 77)) (by unfold execOp; simp only [List.map_toArray, List.map_cons, List.map_nil]; exact by_run (bslice_wt ⟨no, b, hb⟩ wd)) ⟨fun _ => (Below.refl _ _).alloc (Nat.le_refl _) _, ?_⟩
  simp only [Act.put, List.setIfInBounds_toArray, List.set_cons_zero, List.set_cons_succ]
  refine wpAnyX_tailF [11, 12, 13, 14] (by kernel_rfl) (by rfl) (by rfl) (by rfl) ?_
  simp only [List.filterMap_cons, List.filterMap_nil, List.getElem?_cons_succ, List.getElem?_cons_zero]
  have h65 := wtC_len ⟨no, b, hb⟩
  have hDa := HDd.out.be ((Below.refl wd.heap.size wd).alloc (Nat.le_refl _) (.cells (wtC ⟨no, b, hb⟩).toArray 77))
  have hBw : base ≤ wd.heap.size := Nat.le_trans hB hbd.size
  have hRx : Reads (wd.alloc (.cells (wtC ⟨no, b, hb⟩).toArray 77)) (wd.heap.size + 1) 65 (some ⟨wd.heap.size, 0, none⟩) 1 (wtC ⟨no, b, hb⟩) := reads_one wd ⟨no, b, hb⟩
  have HDa := Sl.mk hDa
  clear hDa hS
  refine wpList_append_anyG _ rfl (.tmp 31) (.tmp 37) 63 rfl base 77 i0 (.agg (wtC wt0).toArray) 65 72 Try.underlying63 hi0 hz0 hz1 hz2 (by rfl) (by decide) (.slice Aq s.line.length cq) s.line.length (lineC s.line) rfl HDa.out.line (wd.heap.size + 1) _ 1 1 (wtC ⟨no, b, hb⟩) rfl hRx (wtC_one _) (by unfold maxLen; omega) (by omega) (by simp; omega) ?_
  intro v1 w1 hown1 hG1 hb1
  have hal : (wd.alloc (.cells (wtC ⟨no, b, hb⟩).toArray 77)).heap.size = wd.heap.size + 1 := by simp
  have hX1 := HDa.out.blk.grown hG1 (fun e => HDa.out.ne_q e.symm)
  have hl1 : w1.ownsRow base 75 64 (.slice Al s.n cl) s.n (bsC s.laid) := own_kept HDa.out.laid hG1 (fun k h1 h2 => HDa.out.ne_lq k h1 h2)
  have hn1 : v1.ownBlock ≠ some g := by
    rcases hb1 with e | e
    · rw [e]; exact HDa.out.ne_q
    · rw [e, hal]; intro h; injection h with h; omega
  have hm1 : ∀ k, v1.ownBlock = some k → (Value.slice Aq s.line.length cq).ownBlock = some k ∨ w.heap.size ≤ k := fun k hk => by
    rcases hb1 with e | e
    · rw [e] at hk; exact .inl hk
    · rw [e, hal] at hk; injection hk with hk; have := hbd.size; exact .inr (by omega)
  have ht1 : Touch w w1 (mine g (.slice Al s.n cl) (.slice Aq s.line.length cq)) :=
    Touch.trans (Touch.of_below (hbd.trans (((Below.refl wd.heap.size wd).alloc (Nat.le_refl _) _).mono hbd.size)) _) (grown_touch hG1 (M := fun k => (Value.slice Aq s.line.length cq).ownBlock = some k) (fun k h => h)) (fun k h => .inl (.inr (.inr h)))
  have hlen1 : (lineC s.line ++ wtC ⟨no, b, hb⟩) = lineC (s.line ++ [⟨no, b, hb⟩]) := (lineC_snoc _ _).symm
  rw [hlen1] at hown1
  have x4 : w1.cell? ⟨g, 4, none⟩ = some (.slice Aq s.line.length cq) := hX1.cell 4
  have y4 := hX1.frozen 4
  have HX1 := Sl.mk hX1
  have HL1 := Sl.mk hl1
  have HN1 := Sl.mk hn1
  have HM1 := Sl.mk hm1
  have HT1 := Sl.mk ht1
  have HO1 := Sl.mk hown1
  clear hX1 hl1 hn1 hm1 ht1 hown1 hG1 hb1 hal hlen1 hRx HDa
  obtain ⟨A1, c1, rfl⟩ := ownForm HO1.out
  go_wp2_with fail
  refine NoPanic.normal ?_
  have x5 : (w1.setCell ⟨g, 4, none⟩ (.slice A1 (s.line.length + 1) c1)).cell? ⟨g, 5, none⟩ = some (.int .i64 s.wr) := (HX1.out.set_ 4 _).cell 5
  have y5 := (HX1.out.set_ 4 (.slice A1 (s.line.length + 1) c1)).frozen 5
  clear x4 y4
  go_wp2_with fail
  refine (add_any g 5 s.wr 1 _ x5 y5 (by omega)).mono ?_
  rintro e w2 ⟨rfl, rfl⟩
  go_wp2_with fail
  go_ret
  have hnl : (Value.slice Al s.n cl).ownBlock ≠ some g := HD.out.ne_l
  refine ⟨rfl, .slice Al s.n cl, .slice A1 (s.line.length + 1) c1, ⟨(HX1.out.set_ 4 _).set_ 5 _, dk_row (dk_row HL1.out hnl 4 _) hnl 5 _, ?_, HD.out.lo⟩, (HT1.out.trans (Touch.set (M := mine g (.slice Al s.n cl) (.slice Aq s.line.length cq)) (.inl rfl) _) (fun _ h => .inl h)).trans (Touch.set (M := mine g (.slice Al s.n cl) (.slice Aq s.line.length cq)) (.inl rfl) _) (fun _ h => .inl h), ?_⟩
  · have h := dk_row (dk_row HO1.out HN1.out 4 (.slice A1 (s.line.length + 1) c1)) HN1.out 5 (.int .i64 (s.wr + 1))
    simpa using h
  · rintro k (h | h | h)
    · exact .inl (.inl h)
    · exact .inl (.inr (.inl h))
    · exact (HM1.out k h).imp (fun h => .inr (.inr h)) id

end Go.Proofs.Ytpffdlnjpjoikaa
