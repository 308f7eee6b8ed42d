/-
  lay: those writes that a function picks are laid.
-/
import Derived.Test.YtpffdlnjpjoikaaBlkC
import Derived.LoopNIn
namespace Go.Proofs.Ytpffdlnjpjoikaa
open Go.RowKit
attribute [local go_sem ↓] Go.wp_at_zero Go.wp_at_succ

theorem add_mk (g o j : Nat) : (⟨g, o, none⟩ : Addr).add j = ⟨g, o + j, none⟩ := by unfold Addr.add; split <;> simp_all
theorem wtC_get0 (x : Wt) : (wtC x)[0]? = some (.int .i64 x.no) := rfl
theorem wtC_one (x : Wt) : ∀ v ∈ wtC x, v.oneCell' = true := by
  intro v hv
  simp only [wtC, bsC, List.mem_cons, List.mem_map] at hv
  rcases hv with rfl | ⟨y, -, rfl⟩ <;> rfl
theorem bsC_one (l : List Int) : ∀ v ∈ bsC l, v.oneCell' = true := by
  intro v hv
  simp only [bsC, List.mem_map] at hv
  obtain ⟨y, -, rfl⟩ := hv
  rfl
def wt0 : Wt := ⟨0, List.replicate 64 0, by simp⟩
theorem lineC_at : ∀ (l : List Wt) (i : Nat) (x : Wt), l[i]? = some x → ∀ j v, (wtC x)[j]? = some v → (lineC l)[i * 65 + j]? = some v
  | [], i, x, h => by simp at h
  | y :: l, 0, x, h => fun j v hv => by
    obtain rfl : y = x := by simpa using h
    have hj : j < (wtC y).length := (List.getElem?_eq_some_iff.1 hv).1
    simp only [lineC, List.flatMap_cons]
    rw [List.getElem?_append_left (by omega)]
    simpa using hv
  | y :: l, i + 1, x, h => fun j v hv => by
    have := lineC_at l i x (by simpa using h) j v hv
    simp only [lineC, List.flatMap_cons] at this ⊢
    rw [List.getElem?_append_right (by rw [wtC_len]; omega), wtC_len]
    rw [← this]; congr 1; omega
/-- The place of a waiting write. -/
theorem reads_wt {w : World} {B n : Nat} {A : Option Addr} {l : List Wt} (h : Reads w B 65 A n (lineC l)) {i : Nat} {x : Wt} (hi : l[i]? = some x) :
    ∃ ad, A = some ad ∧ ad.block < B ∧ (∀ j v, (wtC x)[j]? = some v → w.cell? ((ad.add (i * 65)).add j) = some v) := by
  have hn : n = l.length := by have := h.1; rw [lineC_len] at this; omega
  have hlt : i < l.length := (List.getElem?_eq_some_iff.1 hi).1
  obtain ⟨ad, e, hb, hc⟩ := h.2 (by omega)
  exact ⟨ad, e, hb, fun j v hj => by rw [add_of_add]; exact hc _ v (lineC_at l i x hi j v hj)⟩

section
variable {ops : Array Oper} {rest : List Oper} {op : Oper} {a : Act} {w : World} {Q : Exit → Act → World → Prop} {g : Nat}
theorem ld_wt {x : Wt} {ad : Addr} (hld : ∀ j v, (wtC x)[j]? = some v → w.cell? (ad.add j) = some v) (hgd : op.guard = none) (y : Operand) (ho : op.op = .load 77 y) (hx : a.eval y = .pointer (some ad))
    (h : wpList Try.prog ops Q rest (a.put op.dst (.agg (wtC x).toArray)) w) : wpList Try.prog ops Q (op :: rest) a w :=
  wpList_load_at hgd 77 y ho ad hx (wtC x) _ hld Try.underlying77 rfl (by rw [infoWt, wtC_len]) h
theorem st_wt {w1 : World} {cs : Array Value} (hcs : cs = (wtC wt0).toArray) (hgd : op.guard = none) (x y : Operand) (ho : op.op = .store 77 x y) (r : Wt)
    (hx : a.eval x = .pointer (some ⟨w1.heap.size, 0, none⟩)) (hy : a.eval y = .agg (wtC r).toArray)
    (h : ∀ w', Blk w' w1.heap.size 77 (wtC r).toArray → Below w1.heap.size w1 w' → w'.heap.size = w1.heap.size + 1 → wpList Try.prog ops Q rest (a.put op.dst undef) w') :
    wpList Try.prog ops Q (op :: rest) a (w1.alloc (.cells cs 77)) :=
  wpList_store_fresh hgd 77 x y ho 77 (wtC wt0) (wtC r) _ hcs hx hy (by simp [wtC_len]) (by rw [infoWt, wtC_len]) (wtC_one r) h
end

theorem zeroWt (w : World) : (zeroValue 77).run Try.prog w = .ok (.agg #[.int .i64 0, .int .u8 0, .int .u8 0, .int .u8 0, .int .u8 0, .int .u8 0, .int .u8 0, .int .u8 0, .int .u8 0, .int .u8 0, .int .u8 0, .int .u8 0, .int .u8 0, .int .u8 0, .int .u8 0, .int .u8 0, .int .u8 0, .int .u8 0, .int .u8 0, .int .u8 0, .int .u8 0, .int .u8 0, .int .u8 0, .int .u8 0, .int .u8 0, .int .u8 0, .int .u8 0, .int .u8 0, .int .u8 0, .int .u8 0, .int .u8 0, .int .u8 0, .int .u8 0, .int .u8 0, .int .u8 0, .int .u8 0, .int .u8 0, .int .u8 0, .int .u8 0, .int .u8 0, .int .u8 0, .int .u8 0, .int .u8 0, .int .u8 0, .int .u8 0, .int .u8 0, .int .u8 0, .int .u8 0, .int .u8 0, .int .u8 0, .int .u8 0, .int .u8 0, .int .u8 0, .int .u8 0, .int .u8 0, .int .u8 0, .int .u8 0, .int .u8 0, .int .u8 0, .int .u8 0, .int .u8 0, .int .u8 0, .int .u8 0, .int .u8 0, .int .u8 0]) w := by kernel_rfl
theorem Blk.wt0 {w : World} {g : Nat} {x : Wt} (h : Blk w g 77 (wtC x).toArray) : w.cell? ⟨g, 0, none⟩ = some (.int .i64 x.no) := h.cell 0

theorem wpQuiet_loadA {P : Program} {ops : Array Oper} {C : World → Prop} {Q : Act → Prop} {a : Act} {o : Oper} {rest : List Oper} (hgd : Region.wanted o (yielded ops a.tmps) = true) (ty : TypeId) (x : Operand) (ho : o.op = .load ty x)
    (ad : Addr) (v : Value) (hx : a.eval x = .pointer (some ad)) (hL : ∀ w, C w → (loadVar ty ad).run P w = .ok v w) (h : wpQuiet P ops C Q rest (a.put o.dst v)) : wpQuiet P ops C Q (o :: rest) a := by
  unfold wpQuiet
  rw [if_pos hgd]
  refine ⟨v, fun w hw => ?_, h⟩
  unfold Oper.quietAt execOp
  simp only [ho, hx, Instr.loadAt, Instr.sureAddr, Sem.run_bind, Sem.run_pure, Result.andThen_ok, hL w hw]
  exact ⟨rfl, rfl⟩
theorem Touch.set {w : World} {g i : Nat} {M : Nat → Prop} (hM : M g) (v : Value) : Touch w (w.setCell ⟨g, i, none⟩ v) M :=
  ⟨rfl, rfl, rfl, by simp [World.setCell], fun k _ hn => Below.heap_setCell w ⟨g, i, none⟩ v k (fun e => hn (by rw [e]; exact hM))⟩
theorem mine_nil {g : Nat} {vl vq : Value} {k : Nat} (h : mine g vl (.slice none 0 0) k) : mine g vl vq k := by
  rcases h with h | h | h
  · exact .inl h
  · exact .inr (.inl h)
  · simp [Value.ownBlock] at h
theorem Dk.nil {W : World} {base g : Nat} {s : DSt} {vl vq : Value} (h : Dk W base g s vl vq) : Dk (W.setCell ⟨g, 4, none⟩ (.slice none 0 0)) base g { s with line := [] } vl (.slice none 0 0) :=
  ⟨h.blk.set_ 4 (.slice none 0 0), (Touch.set (M := fun k => k = g) rfl _).row h.laid (fun k hk e => h.ne_l (by rw [hk, e])), World.ownsRow_nil _ _ _ _, h.lo⟩

/-- Between two rounds of lay. -/
structure LayS (w W : World) (base g : Nat) (s : DSt) (vl vq : Value) (p : Nat → Bool) (i : Nat) : Prop where
  dk : Dk W base g { s with laid := layF p s.laid s.line i } vl vq
  tch : Touch w W (mine g vl vq)
theorem LayS.be {w W W' : World} {base g : Nat} {s : DSt} {vl vq : Value} {p : Nat → Bool} {i : Nat} (h : LayS w W base g s vl vq p i) (hb : Below W.heap.size W W') : LayS w W' base g s vl vq p i :=
  ⟨h.dk.be hb, h.tch.trans (Touch.of_below hb (fun _ => False)) (fun _ hf => hf.elim)⟩

set_option maxRecDepth 100000 in
set_option maxHeartbeats 4000000 in
theorem lay_any (g fn : Nat) (caps : Array Value) (eg : ∀ args w, (callFunc fn args).run Try.prog w = .ok (.enter fn args) w) (p : Nat → Bool) (s : DSt) (Al Aq : Option Addr) (cl cq : Nat) (base : Nat) (w : World)
    (hD : Dk w base g s (.slice Al s.n cl) (.slice Aq s.line.length cq)) (hok : ∀ x ∈ s.line, x.no < s.n) (hn : s.line.length ≤ 1000000) (hs : s.n ≤ 1000000)
    (hp : ∀ (i : Nat) W, Touch w W (mine g (.slice Al s.n cl) (.slice Aq s.line.length cq)) → Calls Try.prog fn (#[.int .i64 i] ++ caps) W fun e w' => e = .returned (.bool (p i)) ∧ W = w') :
    Calls Try.prog 32 #[.pointer (some ⟨g, 0, none⟩), .func (.func fn) #[] caps] w fun e w' => e = .returned (.int .i64 (cntF p s.line.length)) ∧
      DkTo w w' base g { s with laid := layF p s.laid s.line s.line.length, line := [] } (.slice Al s.n cl) (.slice Aq s.line.length cq) := by
  have hz := zeroWt
  have c4 : w.cell? ⟨g, 4, none⟩ = some (.slice Aq s.line.length cq) := hD.blk.cell 4
  have HD := Sl.mk hD
  have HOK := Sl.mk hok
  clear hok hD
  go_enter Try.func32, Try.ntmps32
  go_wp2_with fail
  go_step3
  go_wp2_with fail
  go_step3
  go_wp2_with fail
  go_loopw [5, 6, 7, 13] (fun s5 _ _ s13 wr => ∃ i : Nat, i ≤ s.line.length ∧ s13 = .int .i64 i ∧ s5 = .int .i64 (cntF p i) ∧ LayS w wr base g s (.slice Al s.n cl) (.slice Aq s.line.length cq) p i) (fun _ _ _ s13 _ => s.line.length - (intOf s13).toNat)
  case atStart => exact ⟨0, Nat.zero_le _, rfl, rfl, HD.out, Touch.refl _ _⟩
  case round =>
    obtain ⟨i, hi, rfl, rfl, hL⟩ := hrel
    by_cases hil : i < s.line.length
    · obtain ⟨x, hx⟩ : ∃ x, s.line[i]? = some x := ⟨_, List.getElem?_eq_getElem hil⟩
      obtain ⟨ad, rfl, hbl, hld⟩ := reads_wt (Reads.of_own hL.dk.line) hx
      have HX := Sl.mk hx
      have h65 := wtC_len x
      clear hx c4
      go_wp2_with (first | refine ld_wt hld rfl (.tmp 16) rfl rfl ?_ | refine st_wt (by rfl) rfl (.tmp 7) (.tmp 17) rfl x rfl rfl ?_)
      intro w1 hX1 hB1 hs1
      have hL1 := hL.be hB1
      have x0 := hX1.wt0
      have hcall := Sl.mk (hp i w1 hL1.tch)
      clear hL hld hB1 hs1 hbl
      cases hpi : p i
      · go_wp2_with fail
        refine hcall.out.mono ?_
        rintro e w2 ⟨rfl, rfl⟩
        rw [hpi]
        have hno : layF p s.laid s.line (i + 1) = layF p s.laid s.line i := layF_no hpi
        have hL2 : LayS w w1 base g s (.slice Al s.n cl) (.slice (some ad) s.line.length cq) p (i + 1) := ⟨by rw [hno]; exact hL1.dk, hL1.tch⟩
        have HC := Sl.mk (show cntF p (i + 1) = cntF p i by simp [cntF, hpi])
        clear hno hL1
        go_wp2_with fail
        exact ⟨⟨i + 1, by omega, by go_num, by rw [HC.out], hL2⟩, by simp [intOf]; omega⟩
      · go_wp2_with fail
        refine hcall.out.mono ?_
        rintro e w2 ⟨rfl, rfl⟩
        rw [hpi]
        have hxn := HOK.out x (List.mem_of_getElem? HX.out)
        obtain ⟨gl, cl', hvl, hgl1, hgl2, -⟩ := ownCells hL1.dk.laid (by simp only; omega)
        injection hvl with hA _ hc
        subst hA hc
        have g3 : w1.cell? ⟨g, 3, none⟩ = some (.slice (some ⟨gl, 0, none⟩) s.n cl) := hL1.dk.blk.cell 3
        have i0 : (0 : Int) ≤ (x.no : Int) := by omega
        have i1 : (x.no : Int) < (s.n : Int) := by omega
        have hld : ∀ k, (loadVar 75 ⟨wr.heap.size, 1, none⟩).run Try.prog (w1.drewN k) = .ok (.agg (bsC x.b).toArray) (w1.drewN k) := fun k =>
          run_loadVar_at _ _ 75 (bsC x.b) _ (fun j v hv => by
            have h1 := (hX1.drewN k).cell (1 + j)
            have h2 : (wtC x).toArray[1 + j]? = some v := by rw [Nat.add_comm]; simpa [wtC] using hv
            rw [h2] at h1
            rw [add_mk]
            exact h1) Try.underlying75 rfl (by rw [infoSec, bsC_len, x.h])
        have HL1 := Sl.mk hL1
        have HX1 := Sl.mk hX1
        clear hL1 hX1
        go_wp2_with fail
        refine wp_region_quiet_tail 9 (by kernel_rfl) (by kernel_rfl) ?_
        simp only [List.take_succ_cons, List.take_zero, List.drop_succ_cons, List.drop_zero]
        repeat (any_goals (first | (refine wpQuiet_loadA (by rfl) 75 (.tmp 28) rfl ⟨wr.heap.size, 1, none⟩ _ rfl (fun _ ⟨k, hk⟩ => by subst hk; exact hld k) ?_) | go_big_quiet_step (fail) | quiet_step (fail)))
        refine wpQuiet_nil ?_
        intro _ hw'
        obtain ⟨nq, hw''⟩ := hw'
        subst hw''
        have hL2 := HL1.out.be (below_drN (Below.refl w1.heap.size w1) nq)
        have hly : layF p s.laid s.line (i + 1) = splice (layF p s.laid s.line i) x.no x.b := layF_yes HX.out hpi
        have hll := layF_len (p := p) (l := s.line) (by have := HD.out.laid.1; rw [bsC_len] at this; exact this) HOK.out i
        have hcb := cntF_le p i
        have HC := Sl.mk (show cntF p (i + 1) = cntF p i + 1 by simp [cntF, hpi])
        have HLY := Sl.mk hly
        have HLL := Sl.mk hll
        clear hly hll hld g3 HL1
        go_wp2_with (refine wpList_store_own rfl 75 (.tmp 30) (.tmp 29) rfl base 75 64 gl s.n cl (x.no * 64) (bsC (layF p s.laid s.line i)) (bsC x.b) hL2.dk.laid rfl rfl (by rw [bsC_len, bsC_len, x.h, HLL.out]; omega) (by rw [infoSec, bsC_len, x.h]) (bsC_one _) ?_)
        intro w3 hown3 hG3 _
        have hL3 : LayS w w3 base g s (.slice (some ⟨gl, 0, none⟩) s.n cl) (.slice (some ad) s.line.length cq) p (i + 1) := by
          have ht := Touch.of_grown (M := fun k => k = gl) hG3 rfl
          have hng : gl ≠ g := fun e => hL2.dk.ne_l (by rw [e]; rfl)
          refine ⟨⟨ht.blk hL2.dk.blk (fun e => hng e.symm), ?_, ht.row hL2.dk.line (fun k hk e => hL2.dk.ne_lq gl rfl (by rw [← e]; exact hk)), hL2.dk.lo⟩, hL2.tch.trans ht (fun k e => .inl (by rw [e]; exact .inr (.inl rfl)))⟩
          show w3.ownsRow base _ 64 _ s.n (bsC (layF p s.laid s.line (i + 1)))
          rw [HLY.out]
          have e : bsC (splice (layF p s.laid s.line i) x.no x.b) = (bsC (layF p s.laid s.line i)).take (x.no * 64) ++ bsC x.b ++ (bsC (layF p s.laid s.line i)).drop (x.no * 64 + (bsC x.b).length) := by
            simp [bsC, splice, x.h, List.map_take, List.map_drop]
          rw [e, List.append_assoc]
          exact hown3
        clear hL2 hown3 hG3
        go_wp2_with fail
        exact ⟨⟨i + 1, by omega, by go_num, by rw [HC.out]; go_num, hL3⟩, by simp [intOf]; omega⟩
    · obtain rfl : i = s.line.length := by omega
      have d4 : wr.cell? ⟨g, 4, none⟩ = some (.slice Aq s.line.length cq) := hL.dk.blk.cell 4
      have f4 := hL.dk.blk.frozen 4
      go_wp2_with fail
      rw [Exit.noGoto_ret]
      go_ret
      exact ⟨rfl, .slice Al s.n cl, .slice none 0 0, hL.dk.nil, hL.tch.trans (Touch.set (M := mine g (.slice Al s.n cl) (.slice Aq s.line.length cq)) (.inl rfl) _) (fun _ h => .inl h), fun k hk => .inl (mine_nil hk)⟩

end Go.Proofs.Ytpffdlnjpjoikaa
