/-
  The contracts of codec.Depth, the writer's put.
-/
import Derived.Test.YtbnmbncjefnpiaaDoorCdD
namespace Go.Proofs.YtbnmbncjefnpiaaDoor
open Go.RowKit
attribute [local go_sem ↓] Go.wp_at_zero Go.wp_at_succ

set_option maxHeartbeats 1000000 in
theorem top_depth (x : Vx) (w : World) (hx : VxIn w x) :
    Calls Tryd.prog 14 #[.agg (vxC x).toArray] w fun e w' => e = .returned (.int .i64 (depN 8 x.v : Nat)) ∧ Below w.heap.size w w' := by
  have hwa := below_al (Below.refl w.heap.size w) (.cells (vxC x).toArray 26)
  have HD := Sl.mk (depth_any 8 x (w.alloc (.cells (vxC x).toArray 26)) (by omega) (hx.be hwa))
  have hB := Blk.new w 26 (vxC x).toArray
  clear hx
  obtain ⟨k, n, pb, b, cb, pl, l, cl⟩ := x
  rw [vxC_mk] at *
  go_enter Tryd.func14, Tryd.ntmps14
  go_wp2_with fail
  refine HD.out.mono ?_
  rintro e w1 ⟨rfl, hB1⟩
  have hE := below_tr hwa hB1
  clear hB hwa hB1 HD
  go_wp2_with fail
  go_ret
  exact ⟨rfl, hE⟩

/-- A writer that has written so far. -/
structure Wr (w : World) (base R : Nat) (bs : List Nat) : Prop where
  le : base ≤ R
  ex : ∃ A c, Blk w R 58 #[.slice A bs.length c, .bool false] ∧ w.ownsRow base 5 1 (.slice A bs.length c) bs.length (u8s bs)
theorem Wr.lt {w : World} {base R : Nat} {bs : List Nat} (h : Wr w base R bs) : R < w.heap.size := by
  obtain ⟨A, c, hB, _⟩ := h.ex
  exact hB.lt
theorem Wr.be {w w' : World} {base R : Nat} {bs : List Nat} (h : Wr w base R bs) (hb : Below w.heap.size w w') : Wr w' base R bs := by
  obtain ⟨A, c, hB, ho⟩ := h.ex
  exact ⟨h.le, A, c, hB.be hb, own_below ho hb⟩
/-- Blocks of other types stay. -/
def Oth (w w' : World) : Prop := ∀ g t cs, t ≠ 58 → t ≠ 5 → Blk w g t cs → Blk w' g t cs
theorem Oth.be {w w' : World} (hb : Below w.heap.size w w') : Oth w w' := fun _ _ _ _ _ h => h.be hb
theorem Oth.trans {a b c : World} (h : Oth a b) (k : Oth b c) : Oth a c := fun g t cs h1 h2 hB => k g t cs h1 h2 (h g t cs h1 h2 hB)
theorem Oth.own {w w' : World} {base n : Nat} {v : Value} {xs : List Value} (ho : w.ownsRow base 5 1 v n xs) (hg : w.grownBy w' v.ownBlock) : Oth w w' :=
  fun _ _ _ _ h2 hB => hB.grown hg (Ne.symm (own_blk_ne ho hB (Ne.symm h2)))
theorem Oth.wr {w w' : World} {R : Nat} {cs : Array Value} (hR : Blk w R 58 cs) (hg : w.grownBy w' (some R)) : Oth w w' :=
  fun _ _ _ h1 _ hB => hB.grown hg (fun e => Blk.ne_ hB hR h1 (by injection e))
theorem wrSize : (Tryd.prog.info? 58).map (·.size) = some 2 := by kernel_rfl

theorem cell_same {w : World} {R : Nat} {t : TypeId} {cs : Array Value} {i : Nat} {u : Value} (hB : Blk w R t cs) (e : cs.setIfInBounds i u = cs) (p : Addr) : (w.setCell ⟨R, i, none⟩ u).cell? p = w.cell? p := by
  refine World.cell?_of_block ?_
  by_cases hp : p.block = R
  · have h1 := hB.set_ i u
    rw [e] at h1
    rw [hp]
    exact h1.trans hB.symm
  · exact Below.heap_setCell w ⟨R, i, none⟩ u p.block hp

set_option maxRecDepth 100000 in
set_option maxHeartbeats 1000000 in
theorem put_any (w : World) (base R m d : Nat) (A : Option Addr) (bs ys : List Nat) (hm : ys.length = m) (hW : Wr w base R bs) (hr : Reads w w.heap.size 1 A m (u8s ys)) (hle : bs.length + m ≤ 131072) :
    Calls Tryd.prog 31 #[.pointer (some ⟨R, 0, none⟩), .slice A m d] w fun e w' => e = .returned (.tuple #[]) ∧ Wr w' base R (bs ++ ys) ∧ Below base w w' ∧ Oth w w' := by
  obtain ⟨i0, hi0, hz0, hz1, hz2⟩ := info_parts u8Info
  have hy2 := hz2
  have hRb := hW.le
  have hRl := hW.lt
  obtain ⟨A0, c0, hB, hown⟩ := hW.ex
  clear hW
  obtain ⟨q, hq⟩ : ∃ q, bs.length = q := ⟨_, rfl⟩
  have HQ := Sl.mk hq
  have HM := Sl.mk hm
  rw [hq] at hB hown hle
  clear hq hm
  have hC0 := hB.cell 0
  have hC1 := hB.cell 1
  have hgt : ¬ (131072 : Int) < (q : Int) + (m : Int) := by omega
  have hB1 : Blk (w.setCell ⟨R, 1, none⟩ (.bool false)) R 58 #[.slice A0 q c0, .bool false] := blk_set _ _ _ _ 1 _ _ hB rfl
  have hr1 : Reads (w.setCell ⟨R, 1, none⟩ (.bool false)) w.heap.size 1 A m (u8s ys) := hr.keep fun p _ => cell_same hB rfl p
  have hg1 : w.grownBy (w.setCell ⟨R, 1, none⟩ (.bool false)) (some R) := only_setCell (only_refl w _) 1 _
  have ho1 := hown.kept hg1 (.inr (own_blk_ne hown hB (by decide)))
  have hs1 : base ≤ (w.setCell ⟨R, 1, none⟩ (.bool false)).heap.size := by simp [World.setCell]; omega
  have ht1 : Oth w (w.setCell ⟨R, 1, none⟩ (.bool false)) := Oth.wr hB hg1
  have hb1 : Below base w (w.setCell ⟨R, 1, none⟩ (.bool false)) := below_only (Below.refl _ _) hg1 (by omega) hRb
  have hone : ∀ u ∈ u8s ys, u.oneCell' = true := u8s_one _
  have hF0 := hB1.frozen 0
  have hF1 := hB.frozen 1
  clear hr hown
  go_enter Tryd.func31, Tryd.ntmps31
  go_wp2_with (at_builtin; refine wpList_append_any _ rfl (.tmp 31) (.tmp 32) 23 rfl base 5 i0 (.int .u8 0) 1 1 Tryd.underlying23 hi0 hz0 hz1 hy2 rfl (by decide) _ _ _ rfl ho1 _ A m d (u8s ys) rfl hr1 hone (by unfold maxLen; omega) (by omega) hs1 ?_)
  intro v2 w2 ho2 hg2 hv2
  obtain ⟨A2, c2, rfl⟩ := ownForm ho2
  have hno : Value.ownBlock (.slice A0 q c0) ≠ some R := own_blk_ne ho1 hB1 (by decide)
  have hB2 := hB1.grown hg2 (Ne.symm hno)
  have hb2 := hb1.grown hg2 hs1 (fun g hg => ownGe ho1 hg)
  have ht2 := ht1.trans (Oth.own ho1 hg2)
  have hF2 := hB2.frozen 0
  have hC2 := hB2.cell 0
  have hB3 : Blk (w2.setCell ⟨R, 0, none⟩ (.slice A2 (q + m) c2)) R 58 #[.slice A2 (q + m) c2, .bool false] := blk_set _ _ _ _ 0 _ _ hB2 rfl
  have hg3 : w2.grownBy (w2.setCell ⟨R, 0, none⟩ (.slice A2 (q + m) c2)) (some R) := only_setCell (only_refl w2 _) 0 _
  have ho3 := ho2.kept hg3 (.inr (own_blk_ne ho2 hB2 (by decide)))
  have HT3 := Sl.mk (ht2.trans (Oth.wr hB2 hg3))
  have hb3 := below_only hb2 hg3 (Nat.le_trans hs1 hg2.size) hRb
  have HO3 := Sl.mk ho3
  have HB3 := Sl.mk hB3
  clear ht1 ht2 hB hB1 hg1 ho1 hF0 hF1 hC0 hC1 ho2 hg3 ho3 hB3 hB2 hg2
  go_wp2_with fail
  go_end0
  refine ⟨rfl, ⟨hRb, A2, c2, ?_, ?_⟩, hb3, HT3.out⟩
  · rw [List.length_append, HQ.out, HM.out]; exact HB3.out
  · have := HO3.out
    rw [List.length_append, HQ.out, HM.out]
    simpa [u8s] using this

end Go.Proofs.YtbnmbncjefnpiaaDoor
