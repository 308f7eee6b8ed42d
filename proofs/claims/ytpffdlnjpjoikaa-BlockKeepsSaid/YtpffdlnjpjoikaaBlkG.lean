/-
  New, Power, Flush, Crash, Write.
-/
import Derived.Test.YtpffdlnjpjoikaaBlkF
namespace Go.Proofs.Ytpffdlnjpjoikaa
open Go.RowKit

def z64 : Value := .agg (List.replicate 64 (Value.int .u8 0)).toArray
theorem infoSec3 : (Try.prog.info? 75).map (fun i => (i.zero, i.size, i.bytes)) = some (some z64, 64, 64) := by kernel_rfl
theorem infoWt3 : (Try.prog.info? 77).map (fun i => (i.zero, i.size, i.bytes)) = some (some (.agg (wtC wt0).toArray), 65, 72) := by kernel_rfl
theorem z64_get (k : Nat) (hk : k < 64) : z64.cells[k]! = .int .u8 0 := by
  have : z64.cells = Array.replicate 64 (Value.int .u8 0) := rfl
  rw [this]
  simp [hk]
theorem made_zero (n : Nat) : (madeCells z64.cells (n * 64)).toList = bsC (List.replicate (n * 64) 0) := by
  apply List.ext_getElem
  · simp [madeCells, bsC]
  · intro i h1 h2
    simp only [madeCells, Array.getElem_toList, Array.getElem_map, Array.getElem_range]
    rw [show z64.cells.size = 64 from rfl, z64_get _ (Nat.mod_lt _ (by omega))]
    simp [bsC]

theorem wpList_make_secs {ops : Array Oper} {rest : List Oper} {o : Oper} {a : Act} {Q : Exit → Act → World → Prop} (w : World) (hg : o.guard = none) (l c : Operand) (hop : o.op = Op.makeSlice 60 l c) (n : Nat)
    (hl : a.eval l = .int .i64 n) (hc : a.eval c = .int .i64 n) (hn : n ≤ 4096)
    (hK : ∀ w', w'.ownsRow w.heap.size 75 64 (.slice (some ⟨w.heap.size, 0, none⟩) n n) n (bsC (List.replicate (n * 64) 0)) → w.grownBy w' none → wpList Try.prog ops Q rest (a.put o.dst (.slice (some ⟨w.heap.size, 0, none⟩) n n)) w') :
    wpList Try.prog ops Q (o :: rest) a w := by
  obtain ⟨i0, hi0, hz0, hz1, hz2⟩ := info_parts infoSec3
  exact wpList_make_full _ hg l c 60 hop w.heap.size 75 i0 z64 64 Try.underlying60 hi0 hz0 hz1 .i64 .i64 n n n hl hc rfl rfl (by rw [hz2]; omega) (by unfold maxLen; omega) (Nat.le_refl _) (fun w' h hG => hK w' (by rw [← made_zero]; exact h) hG)

/-- A new disk. -/
def new0 (n : Nat) : DSt := { off := false, n := n, laid := List.replicate (n * 64) 0, line := [], wr := 0, fl := 0 }
set_option maxHeartbeats 1000000 in
theorem new_any (n : Nat) (w : World) (h1 : 1 ≤ n) (h2 : n ≤ 4096) : Calls Try.prog 7 #[.int .i64 n] w fun e w' => ∃ g vl, e = .returned (.tuple #[.pointer (some ⟨g, 0, none⟩), .int .i64 0]) ∧
      Dk w' w.heap.size g (new0 n) vl (.slice none 0 0) ∧ Below w.heap.size w w' := by
  have b1 : (1 : Int) ≤ (n : Int) := by omega
  have b2 : (n : Int) ≤ 4096 := by omega
  go_enter Try.func7, Try.ntmps7
  go_wp2_with (refine wpList_make_secs _ rfl (.tmp 10) (.tmp 10) rfl n rfl rfl h2 ?_)
  intro w1 hown hG
  have hB1 : Below w.heap.size w w1 := (Below.refl _ w).grown hG (Nat.le_refl _) (fun k e => by cases e)
  have H1 := Sl.mk hown
  clear hown hG
  go_wp2_with fail
  go_ret2
  refine ⟨_, .slice (some ⟨w.heap.size, 0, none⟩) n n, rfl, ⟨Blk.new _ _ _, own_below H1.out (below_al (Below.refl _ _) _), World.ownsRow_nil _ _ _ _, hB1.size⟩, hB1.alloc hB1.size _⟩

theorem dk_row {w : World} {base n size g : Nat} {e : TypeId} {v : Value} {xs : List Value} (h : w.ownsRow base e size v n xs) (hg : v.ownBlock ≠ some g) (i : Nat) (u : Value) : (w.setCell ⟨g, i, none⟩ u).ownsRow base e size v n xs :=
  (Touch.set (M := fun k => k = g) rfl u).row h (fun k hk e => hg (by rw [hk, e]))
set_option maxHeartbeats 1000000 in
theorem power_any (g : Nat) (s : DSt) (vl vq : Value) (base : Nat) (w : World) (hD : Dk w base g s vl vq) : Calls Try.prog 14 #[.pointer (some ⟨g, 0, none⟩)] w fun e w' => e = .returned (.tuple #[]) ∧
      DkTo w w' base g { s with off := false, line := [] } vl vq := by
  have c0 : w.cell? ⟨g, 0, none⟩ = some (.bool s.off) := hD.blk.cell 0
  have c1 : w.cell? ⟨g, 1, none⟩ = some (.bool false) := hD.blk.cell 1
  have c2 : w.cell? ⟨g, 2, none⟩ = some (.int .i64 0) := hD.blk.cell 2
  have c4 : w.cell? ⟨g, 4, none⟩ = some vq := hD.blk.cell 4
  have f0 := hD.blk.frozen 0
  have f1 := hD.blk.frozen 1
  have f2 := hD.blk.frozen 2
  have f4 := hD.blk.frozen 4
  have HD := Sl.mk hD
  clear hD
  go_enter Try.func14, Try.ntmps14
  go_wp2
  go_end0
  have hm : mine g vl vq g := .inl rfl
  exact ⟨rfl, _, _, Dk.nil (s := { s with off := false }) ⟨((HD.out.blk.set_ 0 (.bool false)).set_ 1 (.bool false)).set_ 2 (.int .i64 0), dk_row (dk_row (dk_row HD.out.laid HD.out.ne_l 0 _) HD.out.ne_l 1 _) HD.out.ne_l 2 _, dk_row (dk_row (dk_row HD.out.line HD.out.ne_q 0 _) HD.out.ne_q 1 _) HD.out.ne_q 2 _, HD.out.lo⟩,
    (((Touch.set hm _).trans (Touch.set (M := mine g vl vq) hm _) (fun _ h => .inl h)).trans (Touch.set (M := mine g vl vq) hm _) (fun _ h => .inl h)).trans (Touch.set (M := mine g vl vq) hm _) (fun _ h => .inl h), fun k hk => .inl (mine_nil hk)⟩

/-- A store of a counter. -/
theorem Dk.fl_ {w : World} {base g : Nat} {s : DSt} {vl vq : Value} (h : Dk w base g s vl vq) (n : Int) : Dk (w.setCell ⟨g, 6, none⟩ (.int .i64 n)) base g { s with fl := n } vl vq :=
  ⟨h.blk.set_ 6 _, dk_row h.laid h.ne_l 6 _, dk_row h.line h.ne_q 6 _, h.lo⟩
theorem Dk.wr_ {w : World} {base g : Nat} {s : DSt} {vl vq : Value} (h : Dk w base g s vl vq) (n : Int) : Dk (w.setCell ⟨g, 5, none⟩ (.int .i64 n)) base g { s with wr := n } vl vq :=
  ⟨h.blk.set_ 5 _, dk_row h.laid h.ne_l 5 _, dk_row h.line h.ne_q 5 _, h.lo⟩
theorem Dk.off_ {w : World} {base g : Nat} {s : DSt} {vl vq : Value} (h : Dk w base g s vl vq) (b : Bool) : Dk (w.setCell ⟨g, 0, none⟩ (.bool b)) base g { s with off := b } vl vq :=
  ⟨h.blk.set_ 0 _, dk_row h.laid h.ne_l 0 _, dk_row h.line h.ne_q 0 _, h.lo⟩

set_option maxHeartbeats 2000000 in
theorem flush_any (g : Nat) (s : DSt) (Al Aq : Option Addr) (cl cq : Nat) (base : Nat) (w : World) (hoff : s.off = false) (hD : Dk w base g s (.slice Al s.n cl) (.slice Aq s.line.length cq)) (hok : ∀ x ∈ s.line, x.no < s.n) (hn : s.line.length ≤ 1000000) (hs : s.n ≤ 1000000) (hf : 0 ≤ s.fl ∧ s.fl ≤ 1000000) :
    Calls Try.prog 8 #[.pointer (some ⟨g, 0, none⟩)] w fun e w' => e = .returned (.int .i64 0) ∧
      DkTo w w' base g { s with laid := layF (fun _ => true) s.laid s.line s.line.length, line := [], fl := s.fl + 1 } (.slice Al s.n cl) (.slice Aq s.line.length cq) := by
  have c0 : w.cell? ⟨g, 0, none⟩ = some (.bool false) := by rw [← hoff]; exact hD.blk.cell 0
  have c1 : w.cell? ⟨g, 1, none⟩ = some (.bool false) := hD.blk.cell 1
  have HOK := Sl.mk hok
  have HD := Sl.mk hD
  clear hok hD hoff
  go_enter Try.func8, Try.ntmps8
  go_wp2_with fail
  refine (on_any g false _ c0).mono ?_
  rintro e w' ⟨rfl, rfl⟩
  go_wp2_with fail
  refine (use_any g _ c0 c1).mono ?_
  rintro e w' ⟨rfl, rfl⟩
  go_wp2_with fail
  refine (lay_any g 33 #[] (enters_of Try.func33 (by kernel_rfl) rfl) (fun _ => true) s Al Aq cl cq base _ HD.out HOK.out hn hs (fun i W _ => pick_all i W)).mono ?_
  rintro e w1 ⟨rfl, vl', vq', hD1, ht1, hm1⟩
  have c6 : w1.cell? ⟨g, 6, none⟩ = some (.int .i64 s.fl) := hD1.blk.cell 6
  have f6 := hD1.blk.frozen 6
  have HD1 := Sl.mk hD1
  have HT1 := Sl.mk ht1
  have HM1 := Sl.mk hm1
  clear hD1 ht1 hm1 c0 c1
  go_wp2_with fail
  refine (add_any g 6 s.fl 1 _ c6 f6 (by omega)).mono ?_
  rintro e w2 ⟨rfl, rfl⟩
  go_wp2_with fail
  go_ret
  exact ⟨rfl, vl', vq', HD1.out.fl_ _, HT1.out.trans (Touch.set (M := mine g vl' vq') (.inl rfl) _) (fun k hk => HM1.out k hk), HM1.out⟩

set_option maxHeartbeats 2000000 in
theorem crash_any (g : Nat) (s : DSt) (Al Aq Ak : Option Addr) (cl cq nk ck : Nat) (ks : List Int) (base : Nat) (w : World) (hD : Dk w base g s (.slice Al s.n cl) (.slice Aq s.line.length cq)) (hok : ∀ x ∈ s.line, x.no < s.n) (hn : s.line.length ≤ 1000000) (hs : s.n ≤ 1000000)
    (hnk : nk ≤ 1000000) (hR : Reads w w.heap.size 1 Ak nk (isC ks)) (hap : 0 < nk → ∀ ad, Ak = some ad → ¬ mine g (.slice Al s.n cl) (.slice Aq s.line.length cq) ad.block) :
    Calls Try.prog 13 #[.pointer (some ⟨g, 0, none⟩), .slice Ak nk ck] w fun e w' => e = .returned (.int .i64 (cntF (fun i => hasI ks i) s.line.length)) ∧
      DkTo w w' base g { s with off := true, laid := layF (fun i => hasI ks i) s.laid s.line s.line.length, line := [] } (.slice Al s.n cl) (.slice Aq s.line.length cq) := by
  have hB0 : Below w.heap.size w (w.alloc (.cells #[.slice Ak nk ck] 28)) := (Below.refl _ w).alloc (Nat.le_refl _) _
  have hK := Blk.new w 28 #[.slice Ak nk ck]
  have hD0 := hD.be hB0
  have hlt := hD.lt
  obtain ⟨w0, hw0⟩ : ∃ w0, w.alloc (.cells #[.slice Ak nk ck] 28) = w0 := ⟨_, rfl⟩
  have hs0 : w0.heap.size = w.heap.size + 1 := by rw [← hw0]; simp
  rw [hw0] at hB0 hK hD0
  have c0 : w0.cell? ⟨g, 0, none⟩ = some (.bool s.off) := hD0.blk.cell 0
  have f0 := hD0.blk.frozen 0
  have HOK := Sl.mk hok
  have HAP := Sl.mk hap
  have HLT := Sl.mk hlt
  have HR := Sl.mk hR
  have HS0 := Sl.mk hs0
  have HB0 := Sl.mk hB0
  clear hok hap hlt hR hs0 hD
  go_enter Try.func13, Try.ntmps13
  go_wp2_with fail
  have hD1 := hD0.off_ true
  have hge : ∀ W, Touch (w0.setCell ⟨g, 0, none⟩ (.bool true)) W (mine g (.slice Al s.n cl) (.slice Aq s.line.length cq)) → W.cell? ⟨w.heap.size, 0, none⟩ = some (.slice Ak nk ck) ∧ Reads W W.heap.size 1 Ak nk (isC ks) := by
    intro W ht
    have hsz : (w0.setCell ⟨g, 0, none⟩ (.bool true)).heap.size = w.heap.size + 1 := by simp [World.setCell, HS0.out]
    have hg := HLT.out g (.inl rfl)
    have hk1 : Blk (w0.setCell ⟨g, 0, none⟩ (.bool true)) w.heap.size 28 #[.slice Ak nk ck] := hK.far (p := ⟨g, 0, none⟩) (by simp only; omega) _
    refine ⟨(ht.blk hk1 (fun hm => by have := HLT.out _ hm; omega)).cell 0, HR.out.1, fun h => ?_⟩
    obtain ⟨ad, e, hb, hc⟩ := HR.out.2 h
    have hnm := HAP.out h ad e
    have hne : ad.block ≠ g := fun e => hnm (.inl e)
    have hwz := ht.size
    refine ⟨ad, e, by omega, fun j u hj => ?_⟩
    rw [← hc j u hj]
    refine World.cell?_of_block ?_
    rw [block_of_add]
    exact (ht.block _ (by omega) hnm).trans ((Below.heap_setCell w0 ⟨g, 0, none⟩ _ _ hne).trans (hB0.block _ hb))
  have HGE := Sl.mk hge
  have HD1 := Sl.mk hD1
  clear hD1 hge hD0 hK c0 f0 hB0
  refine (lay_any g 38 #[.pointer (some ⟨w.heap.size, 0, none⟩)] (enters_of Try.func38 (by kernel_rfl) rfl) (fun i => hasI ks i) { s with off := true } Al Aq cl cq base _ HD1.out HOK.out hn hs (fun i W ht => by
    obtain ⟨h1, h2⟩ := HGE.out W ht
    exact pick_kept w.heap.size Ak nk ck ks i W hnk h1 h2)).mono ?_
  rintro e w1 ⟨rfl, vl', vq', hD2, ht2, hm2⟩
  have HD2 := Sl.mk hD2
  have HT2 := Sl.mk ht2
  have HM2 := Sl.mk hm2
  clear hD2 ht2 hm2
  go_wp2_with fail
  go_ret
  have hsz : (w0.setCell ⟨g, 0, none⟩ (.bool true)).heap.size = w.heap.size + 1 := by simp [World.setCell, HS0.out]
  refine ⟨rfl, vl', vq', HD2.out, ?_, fun k hk => (HM2.out k hk).imp id (fun h => by rw [hsz] at h; omega)⟩
  refine Touch.trans (Touch.trans (M' := mine g (.slice Al s.n cl) (.slice Aq s.line.length cq)) (Touch.of_below HB0.out _) (Touch.set (.inl rfl) _) (fun _ h => .inl h)) HT2.out (fun _ h => .inl h)

end Go.Proofs.Ytpffdlnjpjoikaa
