/-
  Read.
-/
import Derived.Test.YtpffdlnjpjoikaaBlkE
namespace Go.Proofs.Ytpffdlnjpjoikaa
open Go.RowKit Go.Shelf
attribute [local go_sem] Oper.semAt_some

theorem infoU8 : (Try.prog.info? 5).map (fun i => (i.zero, i.size, i.bytes)) = some (some (.int .u8 0), 1, 1) := by kernel_rfl
set_option maxHeartbeats 1000000 in
theorem clone_bytes (A : Option Addr) (n c : Nat) (l : List Int) (w : World) (hn : n ≤ 1000000) (hR : Reads w w.heap.size 1 A n (bsC l)) :
    Calls Try.prog 37 #[.slice A n c] w fun e w' => ∃ v', e = .returned v' ∧ w'.ownsRow w.heap.size 5 1 v' n (bsC l) ∧ Below w.heap.size w w' := by
  have q : ∀ (w : World) (a : Option Addr) (n c n' c' : Nat), (binOp .eql 30 (.slice a n c) (.slice none n' c')).run Try.prog w = .ok (.bool a.isNone) w := fun w a n c n' c' => Lib.run_eql_slice_nil w _ _ a n c n' c' Try.underlying30
  obtain ⟨i0, hi0, hz0, hz1, hz2⟩ := info_parts infoU8
  have hl : l.length = n := by have := hR.1; rw [bsC_len] at this; omega
  cases A with
  | none =>
    have h0 : n = 0 := by
      rcases Nat.eq_zero_or_pos n with h | h
      · exact h
      · obtain ⟨ad, h, _⟩ := hR.2 h; cases h
    subst h0
    obtain rfl : l = [] := List.eq_nil_of_length_eq_zero hl
    clear hR
    go_enter Try.func37, Try.ntmps37
    go_wp2
    go_ret
    exact ⟨_, rfl, World.ownsRow_nil _ _ _ _, Below.refl _ _⟩
  | some ad =>
    have HR := Sl.mk (hR.alloc (Nat.le_refl _) (.cells #[] 5))
    clear hR hl
    go_enter Try.func37, Try.ntmps37
    go_wp2_with (at_builtin; refine wpList_append_anyG _ rfl (.tmp 5) (.tmp 6) 30 rfl w.heap.size 5 i0 (.int .u8 0) 1 1 Try.underlying30 hi0 hz0 hz1 hz2 (by rfl) (by decide) _ _ _ rfl (own_empty w _ 1) w.heap.size _ _ _ _ rfl HR.out (bsC_one l) (by unfold maxLen; omega) (by omega) (by simp) ?_)
    intro v1 w1 hown hg hb
    go_wp2_with fail
    go_ret
    refine ⟨_, rfl, by simpa using hown, (below_al (Below.refl _ _) _).grown hg (by simp) (fun x hx => by simp [Value.ownBlock] at hx; omega)⟩

theorem bwd_take (l : List Wt) {k : Nat} (hk : k ≤ l.length) : (bwd l k).map Prod.snd = l.reverse.take k := by
  apply List.ext_getElem
  · simp [bwd, hk]
  · intro i h1 h2
    simp [bwd] at h1
    have hi : l.length - 1 - i < l.length := by omega
    simp [bwd, List.getElem?_eq_getElem hi]

/-- What is read of a sector: the last write that waits for it, or what is laid. -/
def lastW (l : List Wt) (no : Nat) : Option Wt := l.reverse.find? (fun x => x.no == no)
def readF (s : DSt) (no : Nat) : List Int := match lastW s.line no with
  | some x => x.b
  | none => (s.laid.drop (no * 64)).take 64

theorem lastW_none {l : List Wt} {no : Nat} (h : ∀ x ∈ bwd l l.length, x.2.no ≠ no) : lastW l no = none := by
  have e := bwd_take l (Nat.le_refl _)
  rw [List.take_of_length_le (by simp)] at e
  unfold lastW
  rw [← e, List.find?_eq_none]
  intro x hx
  obtain ⟨y, hy, rfl⟩ := List.mem_map.1 hx
  simpa using h y hy
theorem lastW_some {l : List Wt} {no k i : Nat} {p : List (Nat × Wt)} {x : Wt} (hk : k ≤ l.length) (hb : bwd l k = p ++ [(i, x)]) (hp : ∀ y ∈ p, y.2.no ≠ no) (hx : x.no = no) : lastW l no = some x := by
  have e := bwd_take l hk
  rw [hb] at e
  unfold lastW
  rw [← List.take_append_drop k l.reverse, ← e, List.map_append, List.append_assoc, List.find?_append]
  have h1 : (p.map Prod.snd).find? (fun x => x.no == no) = none := by
    rw [List.find?_eq_none]
    intro y hy
    obtain ⟨z, hz, rfl⟩ := List.mem_map.1 hy
    simpa using hp z hz
  rw [h1]
  simp [hx]
theorem readF_none {s : DSt} {no : Nat} (h : lastW s.line no = none) : readF s no = (s.laid.drop (no * 64)).take 64 := by unfold readF; rw [h]
theorem readF_some {s : DSt} {no : Nat} {x : Wt} (h : lastW s.line no = some x) : readF s no = x.b := by unfold readF; rw [h]
theorem reads_found {W : World} {Bx : Nat} {x : Wt} (h : Blk W Bx 77 (wtC x).toArray) : Reads W W.heap.size 1 (some ⟨Bx, 1, none⟩) 64 (bsC x.b) :=
  ⟨by simp [bsC_len, x.h], fun _ => ⟨_, rfl, h.lt, fun j u hj => by
    rw [add_mk, h.cell, Nat.add_comm 1 j]
    simpa [wtC] using hj⟩⟩
theorem reads_piece {W : World} {base n cap g no : Nat} {L : List Int} {e : TypeId} (h : W.ownsRow base e 64 (.slice (some ⟨g, 0, none⟩) n cap) n (bsC L)) (hno : no < n) : Reads W W.heap.size 1 (some ⟨g, no * 64, none⟩) 64 (bsC ((L.drop (no * 64)).take 64)) := by
  have hl : L.length = n * 64 := by have := h.1; rw [bsC_len] at this; exact this
  have h0 := Reads.of_own h
  refine ⟨by simp [bsC_len, hl]; omega, fun _ => ⟨_, rfl, (own_lt' h rfl), fun j u hj => ?_⟩⟩
  obtain ⟨ad, e, -, hc⟩ := h0.2 (by omega)
  injection e with e
  subst e
  have hj64 : j < 64 := by
    have := (List.getElem?_eq_some_iff.1 hj).1
    simp [bsC_len] at this; omega
  have := hc (no * 64 + j) u (by
    rw [← hj]
    simp [bsC, hj64, List.getElem?_drop])
  rw [add_mk, Nat.zero_add] at this
  rw [add_mk]
  exact this

set_option maxRecDepth 100000 in
set_option maxHeartbeats 4000000 in
theorem read_any (g : Nat) (s : DSt) (Al Aq : Option Addr) (cl cq : Nat) (base no : Nat) (w : World) (hoff : s.off = false)
    (hD : Dk w base g s (.slice Al s.n cl) (.slice Aq s.line.length cq)) (hno : no < s.n) (hn : s.line.length ≤ 1000000) (hs : s.n ≤ 1000000) :
    Calls Try.prog 11 #[.pointer (some ⟨g, 0, none⟩), .int .i64 no] w fun e w' => ∃ (A : Option Addr) (c : Nat), e = .returned (.tuple #[.slice A 64 c, .int .i64 0]) ∧
      Reads w' w'.heap.size 1 A 64 (bsC (readF s no)) ∧ Below w.heap.size w w' ∧ ∀ ad, A = some ad → w.heap.size ≤ ad.block := by
  have HD := Sl.mk hD
  have hlt := hD.blk.lt
  have c0 : w.cell? ⟨g, 0, none⟩ = some (.bool false) := by rw [← hoff]; exact hD.blk.cell 0
  have c3 : w.cell? ⟨g, 3, none⟩ = some (.slice Al s.n cl) := hD.blk.cell 3
  have c4 : w.cell? ⟨g, 4, none⟩ = some (.slice Aq s.line.length cq) := hD.blk.cell 4
  have hB0 : Below w.heap.size w (((w.alloc (.cells #[.int .i64 no] 3)).alloc (.cells #[.slice none 0 0] 30)).alloc (.cells #[.int .i64 0] 24)) := (((Below.refl _ w).alloc (Nat.le_refl _) _).alloc (by simp) _).alloc (by simp; omega) _
  have b3 := ((Boxed.new w 3 (.int .i64 no)).alloc (.cells #[.slice none 0 0] 30)).alloc (.cells #[.int .i64 0] 24)
  have b4 := (Boxed.new (w.alloc (.cells #[.int .i64 no] 3)) 30 (.slice none 0 0)).alloc (.cells #[.int .i64 0] 24)
  have b5 := Boxed.new ((w.alloc (.cells #[.int .i64 no] 3)).alloc (.cells #[.slice none 0 0] 30)) 24 (.int .i64 0)
  simp only [World.size_alloc] at b4 b5
  have hsz : (((w.alloc (.cells #[.int .i64 no] 3)).alloc (.cells #[.slice none 0 0] 30)).alloc (.cells #[.int .i64 0] 24)).heap.size = w.heap.size + 3 := by simp
  obtain ⟨W0, hW0⟩ : ∃ W0, ((w.alloc (.cells #[.int .i64 no] 3)).alloc (.cells #[.slice none 0 0] 30)).alloc (.cells #[.int .i64 0] 24) = W0 := ⟨_, rfl⟩
  rw [hW0] at b3 b4 b5 hB0 hsz
  clear hD hoff
  refine (callsIn_wide (n := 9)).1 ?_
  refine callsIn_of_wp_marks Try.func11 rfl trivial ?_ rfl
  simp only [Try.ntmps11, List.size_toArray, List.length_cons, List.length_nil, Nat.reduceAdd, Nat.reduceSub, Array.replicate_succ, Array.replicate_zero, List.push_toArray, List.append_toArray, List.nil_append, List.cons_append]
  refine wpIn_wide.2 ?_
  have d0 := (hB0.cell (p := ⟨g, 0, none⟩) hlt).trans c0
  have d3 := (hB0.cell (p := ⟨g, 3, none⟩) hlt).trans c3
  have d4 := (hB0.cell (p := ⟨g, 4, none⟩) hlt).trans c4
  have e3 := b3.cell
  have i0 : (0 : Int) ≤ (no : Int) := by omega
  have i1 : (no : Int) < (s.n : Int) := by omega
  have hh : (decide ((0 : Int) ≤ (no : Int)) && decide ((no : Int) < (s.n : Int))) = true := by simp [hno]
  have HH := Sl.mk hh
  clear c0 c3 c4 hh
  go_wp2_with fail
  refine (on_any g false _ d0).mono ?_
  rintro e w' ⟨rfl, rfl⟩
  go_wp2_with fail
  refine (has_any g Al s.n cl no _ d3).mono ?_
  rintro e w' ⟨rfl, rfl⟩
  rw [HH.out]
  clear hW0
  go_wp2_with fail
  refine (callsIn_wide (n := 3)).1 ((back_in Fence.wide 3 trivial rfl Aq s.line.length cq _).mono ?_)
  rintro e w' ⟨rfl, rfl⟩
  go_wp2_with fail
  have hW1 : Below w.heap.size w (W0.alloc (.cells #[.slice Aq s.line.length cq] 63)) := hB0.alloc hB0.size _
  have k3 := b3.alloc (.cells #[.slice Aq s.line.length cq] 63)
  have k4 := b4.alloc (.cells #[.slice Aq s.line.length cq] 63)
  have k5 := b5.alloc (.cells #[.slice Aq s.line.length cq] 63)
  have kb := Boxed.new W0 63 (.slice Aq s.line.length cq)
  have hsz1 : (W0.alloc (.cells #[.slice Aq s.line.length cq] 63)).heap.size = w.heap.size + 4 := by simp [hsz]
  obtain ⟨W1, hW1e⟩ : ∃ W1, W0.alloc (.cells #[.slice Aq s.line.length cq] 63) = W1 := ⟨_, rfl⟩
  rw [hW1e] at hW1 k3 k4 k5 kb hsz1 ⊢
  rw [hsz] at kb
  clear hW1e b3 b4 b5 hB0 d0 d3 d4 e3 hsz
  refine wpIn_wide (n := 9).1 ?_
  refine wpIn_rangeFunc_ownH rfl (by omega) (gf := 47) (lb := #[.pointer (some ⟨w.heap.size + 3, 0, none⟩)]) rfl trivial (enters_of Try.func47 (by kernel_rfl) rfl)
    (back_stops Fence.wide 8 trivial rfl (by omega) (w.heap.size + 3) W1.heap.size Aq s.line.length cq s.line hn rfl W1 (by omega) (Nat.le_refl _) kb.cell (((Reads.of_own HD.out.line).below hW1).more (by omega))) belowK_t (belowK_b (Nat.le_refl _)) (Below.refl _ _) (fun _ => rfl)
    (fun pre W => (∀ x ∈ pre, x.2.no ≠ no) ∧ Below W1.heap.size W1 W)
    (fun c pre W => (c = .ret ∧ Found w W no pre) ∧ Below w.heap.size w W)
    (OwnFrom.and (ownFrom_pure _ _) (ownFrom_below (Nat.le_refl _) (Nat.le_refl _)))
    (fun c => OwnFrom.and (OwnFrom.and (ownFrom_pure _ _) Found.own) (ownFrom_below (Nat.le_refl _) (by omega)))
    ⟨by simp, Below.refl _ _⟩
    (fun x a' W => ∃ Bx, W1.heap.size ≤ Bx ∧ Blk W Bx 77 (wtC x.2).toArray ∧ a' = { tmps := #[.pointer (some ⟨g, 0, none⟩), .int .i64 no, undef, .pointer (some ⟨w.heap.size, 0, none⟩), .pointer (some ⟨w.heap.size + 1, 0, none⟩), .pointer (some ⟨w.heap.size + 1 + 1, 0, none⟩), undef, .pointer (some ⟨Bx, 0, none⟩), .bool false, .pointer (some ⟨g, 0, none⟩), .bool true, .bool false, .bool false, .pointer (some ⟨g, 0, none⟩), .int .i64 no, .bool true, .bool false, .pointer (some ⟨g, 0, none⟩), .pointer (some ⟨g, 0, none⟩), .pointer (some ⟨g, 4, none⟩), .slice Aq s.line.length cq, .func (.func 47) #[] #[.pointer (some ⟨w.heap.size + 3, 0, none⟩)], .int .i64 x.1, .agg (wtC x.2).toArray, undef, undef, undef, undef, undef, undef, undef, undef, undef, undef, undef, undef, undef, undef], defers := [] })
    (fun x a' _ X Y row hs hg hr => by obtain ⟨Bx, e1, e2, e3⟩ := hs; exact ⟨Bx, e1, blk_kept e2 hg (fun r e => (hr r e).2), e3⟩)
    ?assign ?body ?done ?stop
  case assign =>
    rintro l pre x W K ⟨hp, hB1⟩ hK
    have h65 := wtC_len x.2
    have hz := zeroWt
    gi_wp2_with (refine wpListIn_store_fresh rfl 77 (.tmp 7) (.tmp 23) rfl 77 (wtC wt0) (wtC x.2) _ (by rfl) rfl rfl (by simp [wtC_len]) (by rw [infoWt, wtC_len]) (wtC_one _) ?_)
    intro W' hX hBX hsX hsame
    gi_wp2
    exact hK _ _ ⟨hBX.size, fun k o _ hk _ => (hBX.block k (Array.getElem?_eq_some_iff.1 hk).1).trans hk⟩ (hBX.mono hB1.size) ⟨hp, hB1.trans (hBX.mono hB1.size)⟩ ⟨W.heap.size, hB1.size, hX, rfl⟩
  case body =>
    rintro l pre x a' W hl ⟨r, hr⟩ ⟨hp, hB1⟩ ⟨Bx, hBx, bX, rfl⟩ hlt2
    have x0 := bX.wt0
    have hs4 := hB1.size
    have n3 : Boxed W w.heap.size 3 (.int .i64 no) := (hB1.block _ (by omega)).trans k3
    have n4 : Boxed W (w.heap.size + 1) 30 (.slice none 0 0) := (hB1.block _ (by omega)).trans k4
    have n5 : Boxed W (w.heap.size + 1 + 1) 24 (.int .i64 0) := (hB1.block _ (by omega)).trans k5
    have c3 := n3.cell
    have c4 := n4.cell
    have c5 := n5.cell
    have f4 := n4.frozen
    have f5 := n5.frozen
    by_cases hxn : x.2.no = no
    · have hb : ((x.2.no : Int) == (no : Int)) = true := by simp [hxn]
      gi_wp2
      refine ⟨(KeepsFrom.of_grownBy (grownBy_setCell' W (w.heap.size + 1) (.slice (some ⟨Bx, 1, none⟩) 64 64)) (fun j e => by cases e; omega)).trans (KeepsFrom.of_grownBy (grownBy_setCell' _ (w.heap.size + 1 + 1) _) (fun j e => by cases e; omega)), ⟨rfl, pre, x.1, x.2, Bx, rfl, hp, hxn, ?_, ?_, ?_, by omega⟩, ?_⟩
      · exact (n4.set _).other (by omega) _
      · exact (n5.other (by omega) _).set _
      · exact (bX.far (p := ⟨w.heap.size + 1, 0, none⟩) (by simp only; omega) _).far (p := ⟨w.heap.size + 1 + 1, 0, none⟩) (by simp only; omega) _
      · exact ((hW1.trans (hB1.mono (by omega))).setCell (p := ⟨w.heap.size + 1, 0, none⟩) (by simp only; omega) _).setCell (p := ⟨w.heap.size + 1 + 1, 0, none⟩) (by simp only; omega) _
    · have hb : ((x.2.no : Int) == (no : Int)) = false := by simp; omega
      gi_wp2
      exact ⟨KeepsFrom.refl _ _, Below.refl _ _, fun y hy => (List.mem_append.1 hy).elim (hp y) (fun e => by simp at e; subst e; exact hxn), hB1⟩
  case done =>
    rintro D ys W hDs rfl ⟨hp, hB1⟩ hK
    obtain ⟨gl, cl', hvl, -, -, -⟩ := ownCells HD.out.laid (by omega)
    injection hvl with hA _ hc
    subst hA hc
    have g3 : W.cell? ⟨g, 3, none⟩ = some (.slice (some ⟨gl, 0, none⟩) s.n cl) := ((hW1.trans (hB1.mono (by omega))).cell (p := ⟨g, 3, none⟩) hlt).trans (HD.out.blk.cell 3)
    have hs4 := hB1.size
    have n3 : Boxed W w.heap.size 3 (.int .i64 no) := (hB1.block _ (by omega)).trans k3
    have n4 : Boxed W (w.heap.size + 1) 30 (.slice none 0 0) := (hB1.block _ (by omega)).trans k4
    have n5 : Boxed W (w.heap.size + 1 + 1) 24 (.int .i64 0) := (hB1.block _ (by omega)).trans k5
    have c3 := n3.cell
    have HP := Sl.mk hp
    go_wp2_with fail
    refine wp_region_quiet_tail 7 (by kernel_rfl) (by kernel_rfl) ?_
    simp only [List.take_succ_cons, List.take_zero, List.drop_succ_cons, List.drop_zero]
    repeat (any_goals (first | go_big_quiet_step (fail) | quiet_step (fail)))
    refine wpQuiet_nil ?_
    intro _ hw'
    obtain ⟨nq, hw''⟩ := hw'
    subst hw''
    have hBn : Below W.heap.size W (W.drewN nq) := below_drN (Below.refl _ _) _
    have hown := own_below (own_below HD.out.laid (hW1.trans (hB1.mono (by omega)))) hBn
    have hRp := reads_piece hown hno
    have hRL := readF_none (s := s) (lastW_none HP.out)
    have q4 : Boxed (W.drewN nq) (w.heap.size + 1) 30 (.slice none 0 0) := n4
    have q5 : Boxed (W.drewN nq) (w.heap.size + 1 + 1) 24 (.int .i64 0) := n5
    have hKn : (W.drewN nq).heap[D]? = some (.deferred (some [])) := hK
    have hsn : (W.drewN nq).heap.size = W.heap.size := rfl
    have hBwn : Below w.heap.size w (W.drewN nq) := (hW1.trans (hB1.mono (by omega))).trans (hBn.mono (by omega))
    obtain ⟨Wn, hWn⟩ : ∃ Wn, W.drewN nq = Wn := ⟨_, rfl⟩
    rw [hWn] at hRp q4 q5 hKn hsn hBwn ⊢
    clear hBn hown hWn n4 n5 n3 c3 hK g3
    go_wp2_with fail
    refine (clone_bytes _ 64 64 _ _ (by omega) hRp).mono ?_
    rintro e W' ⟨v', rfl, hown', hB'⟩
    have r4 : Boxed W' (w.heap.size + 1) 30 (.slice none 0 0) := (hB'.block _ (by omega)).trans q4
    have r5 : Boxed W' (w.heap.size + 1 + 1) 24 (.int .i64 0) := (hB'.block _ (by omega)).trans q5
    have hK' : W'.heap[D]? = some (.deferred (some [])) := (hB'.block _ (Array.getElem?_eq_some_iff.1 hKn).1).trans hKn
    have hBw' := hBwn.trans (hB'.mono hBwn.size)
    obtain ⟨A', c', rfl⟩ := ownForm hown'
    have c4 := r4.cell
    have c5 := r5.cell
    have f4 := r4.frozen
    have f5 := r5.frozen
    have hge := hB'.size
    clear hRp q4 q5 hKn hB' hBwn
    go_wp2_with fail
    have t4 : Boxed ((W'.setCell ⟨w.heap.size + 1, 0, none⟩ (.slice A' 64 c')).setCell ⟨w.heap.size + 1 + 1, 0, none⟩ (.int .i64 0)) (w.heap.size + 1) 30 (.slice A' 64 c') := (r4.set _).other (by omega) _
    have t5 : Boxed ((W'.setCell ⟨w.heap.size + 1, 0, none⟩ (.slice A' 64 c')).setCell ⟨w.heap.size + 1 + 1, 0, none⟩ (.int .i64 0)) (w.heap.size + 1 + 1) 24 (.int .i64 0) := (r5.other (by omega) _).set _
    have tB : Below w.heap.size w ((W'.setCell ⟨w.heap.size + 1, 0, none⟩ (.slice A' 64 c')).setCell ⟨w.heap.size + 1 + 1, 0, none⟩ (.int .i64 0)) := (hBw'.setCell (p := ⟨w.heap.size + 1, 0, none⟩) (by simp only; omega) _).setCell (p := ⟨w.heap.size + 1 + 1, 0, none⟩) (by simp only; omega) _
    have tK : ((W'.setCell ⟨w.heap.size + 1, 0, none⟩ (.slice A' 64 c')).setCell ⟨w.heap.size + 1 + 1, 0, none⟩ (.int .i64 0)).heap[D]? = some (.deferred (some [])) :=
      (Below.heap_setCell _ _ _ _ (by simp only; omega)).trans ((Below.heap_setCell _ _ _ _ (by simp only; omega)).trans hK')
    have tR : Reads ((W'.setCell ⟨w.heap.size + 1, 0, none⟩ (.slice A' 64 c')).setCell ⟨w.heap.size + 1 + 1, 0, none⟩ (.int .i64 0)) W'.heap.size 1 A' 64 (bsC ((s.laid.drop (no * 64)).take 64)) := by
      obtain ⟨h1, h2⟩ := Reads.of_own hown'
      refine ⟨h1, fun h => ?_⟩
      obtain ⟨ad, e, hb, hc⟩ := h2 h
      have hg1 : Wn.heap.size ≤ ad.block := ownGe hown' (by rw [e]; rfl)
      refine ⟨ad, e, hb, fun j u hj => ?_⟩
      rw [World.cell?_setCell_other _ _ _ _ (fun e => by have := congrArg Addr.block e; rw [block_of_add] at this; simp only at this; omega), World.cell?_setCell_other _ _ _ _ (fun e => by have := congrArg Addr.block e; rw [block_of_add] at this; simp only at this; omega)]
      exact hc j u hj
    obtain ⟨W3, hW3⟩ : ∃ W3, (W'.setCell ⟨w.heap.size + 1, 0, none⟩ (.slice A' 64 c')).setCell ⟨w.heap.size + 1 + 1, 0, none⟩ (.int .i64 0) = W3 := ⟨_, rfl⟩
    have hs3 : W3.heap.size = W'.heap.size := by rw [← hW3]; simp [World.setCell]
    rw [hW3] at t4 t5 tB tK tR ⊢
    clear hW3 r4 r5 c4 c5 f4 f5
    refine ⟨by simp, .inl ⟨_, _, rfl, run_takeDeferred tK, ?_⟩⟩
    have hc4 := cell_kept t4.cell (grownBy_putObj' _ D (.deferred none)) (fun r e => by cases e; exact ⟨_, tK, rfl⟩)
    have hc5 := cell_kept t5.cell (grownBy_putObj' _ D (.deferred none)) (fun r e => by cases e; exact ⟨_, tK, rfl⟩)
    refine ⟨.tuple #[.slice A' 64 c', .int .i64 0], by simp [results, Try.f11, go_sem, hc4, hc5], A', c', rfl, ?_, tB.trans (belowK_b (w := w) (Nat.le_refl _) _ D _ _ (by omega) tK rfl rfl), fun ad e => by have := ownGe hown' (g := ad.block) (by rw [e]; rfl); omega⟩
    rw [hRL]
    have hput := grownBy_putObj' W3 D (.deferred none)
    obtain ⟨h1, h2⟩ := tR
    refine ⟨h1, fun h => ?_⟩
    obtain ⟨ad, e, hb, hc⟩ := h2 h
    exact ⟨ad, e, by have := hput.size; omega, fun j u hj => cell_kept (hc j u hj) hput (fun r e => by cases e; exact ⟨_, tK, rfl⟩)⟩
  case stop =>
    rintro D c pre W hDs ⟨k, hk, rfl⟩ ⟨⟨rfl, p, i, x, Bx, hpx, hpn, hxn, n4, n5, bX, hBx⟩, hBw⟩ hK
    refine wpIn_wide.2 ?_
    go_wp2_with fail
    refine ⟨by simp, .inl ⟨_, _, rfl, run_takeDeferred hK, ?_⟩⟩
    have hc4 := cell_kept n4.cell (grownBy_putObj' _ D (.deferred none)) (fun r e => by cases e; exact ⟨_, hK, rfl⟩)
    have hc5 := cell_kept n5.cell (grownBy_putObj' _ D (.deferred none)) (fun r e => by cases e; exact ⟨_, hK, rfl⟩)
    have hbX := blk_kept bX (grownBy_putObj' _ D (.deferred none)) (fun r e => by cases e; exact ⟨_, hK, rfl⟩)
    refine ⟨.tuple #[.slice (some ⟨Bx, 1, none⟩) 64 64, .int .i64 0], by simp [results, Try.f11, go_sem, hc4, hc5], some ⟨Bx, 1, none⟩, 64, rfl, ?_, hBw.trans (belowK_b (w := w) (Nat.le_refl _) W D _ _ (by omega) hK rfl rfl), fun ad e => by cases e; exact hBx⟩
    rw [readF_some (s := s) (lastW_some hk hpx hpn hxn)]
    exact reads_found hbX

end Go.Proofs.Ytpffdlnjpjoikaa
