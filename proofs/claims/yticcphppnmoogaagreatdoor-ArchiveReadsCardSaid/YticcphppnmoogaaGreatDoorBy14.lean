/-
  The contract of digest.Of at one text.
  == between two arrays of integers.
  == between two digests.
  The contracts of the law's Of, archive.Digests, archive.Sizes.
  The contract of Framed.
-/
import Derived.Test.YticcphppnmoogaaGreatDoorBy13
import Derived.Test.YticcphppnmoogaaGreatDoorBy2
import Derived.Test.YticcphppnmoogaaGreatDoorBy10

namespace Go.Proofs.YticcphppnmoogaaGreatDoor
open Go.RowKit

theorem rdss_one {w : World} {S : Nat → Prop} {A : Option Addr} {c : Nat} {l : List Nat} {g : Nat} {t : TypeId} (hB : Blk w g t #[.slice A l.length c]) (hg : S g) (hr : RdS w S A l) : RdSS w S (some ⟨g, 0, none⟩) [l] := fun i hi => by
  match i, hi with
  | 0, _ => exact ⟨_, A, c, rfl, hg, by rw [add_zero']; exact hB.cell 0, hr⟩
theorem rds_lt {w w' : World} {A : Option Addr} {l : List Nat} (h : RdS w (fun b => b < w.heap.size) A l) (hb : Below w.heap.size w w') : RdS w' (fun b => b < w'.heap.size) A l :=
  rds_mono (h.keep (fun _ hp => hb.cell hp)) (fun _ hb' => Nat.lt_of_lt_of_le hb' hb.size)
theorem rdss_lt {w w' : World} {A : Option Addr} {L : List (List Nat)} (h : RdSS w (fun b => b < w.heap.size) A L) (hb : Below w.heap.size w w') : RdSS w' (fun b => b < w'.heap.size) A L := fun i hi => by
  obtain ⟨ad, Ai, ci, e, hS, hc, hr⟩ := h i hi
  exact ⟨ad, Ai, ci, e, Nat.lt_of_lt_of_le hS hb.size, (hb.cell (p := ad.add i) (by rw [block_of_add]; exact hS)).trans hc, rds_lt hr hb⟩


end Go.Proofs.YticcphppnmoogaaGreatDoor

namespace Go.Proofs.YticcphppnmoogaaGreatDoor
open Go.RowKit

section
variable {P : Program}
theorem run_equalIn_arr (w : World) (d : Nat) (t e : TypeId) (len : Nat) (k k' : IntKind) (X Y : List Int) (hX : X.length = len) (hY : Y.length = len) (ht : P.underlying t = some (.array len e)) (he : P.underlying e = some (.int k')) (hi : (P.info? e).map (·.size) = some 1) :
    (Op.equalIn (d + 2) t (.agg (X.map (Value.int k)).toArray) (.agg (Y.map (Value.int k)).toArray)).run P w = .ok (X == Y) w := by
  cases hq : P.info? e with
  | none => simp [hq] at hi
  | some x =>
    have hs : x.size = 1 := by simpa [hq] using hi
    have hsz : (sizeOf e).run P w = .ok 1 w := by simp [sizeOf, typeInfo, hq, hs]
    have hpart : ∀ (Z : List Int) (i : Nat) (h : i < Z.length), (part e (Z.map (Value.int k)).toArray (i * 1)).run P w = .ok (.int k Z[i]) w := fun Z i h => by
      simp [part, isAgg, run_underlying he, h]
    have hone : ∀ a b : Int, (Op.equalIn (d + 1) e (.int k a) (.int k b)).run P w = .ok (a == b) w := fun a b => run_equalIn_int w d e k k' a b he
    rw [show d + 2 = (d + 1) + 1 from rfl]
    unfold Op.equalIn
    simp only [Sem.run_bind, run_underlying ht, Result.andThen_ok, hsz]
    rw [Std.Legacy.Range.forIn_eq_forIn_range']
    have hrange : List.range' (Std.Legacy.Range.start [:len]) (Std.Legacy.Range.size [:len]) (Std.Legacy.Range.step [:len]) = List.range' 0 len := by simp [Std.Legacy.Range.size]
    rw [hrange]
    have key : ∀ (n s : Nat), s + n = len →
        (forIn (List.range' s n) ((none, ()) : Option Bool × Unit) fun i r => do
          let a ← part e (X.map (Value.int k)).toArray (i * 1)
          let b ← part e (Y.map (Value.int k)).toArray (i * 1)
          let c ← Op.equalIn (d + 1) e a b
          if (!c) = true then pure (ForInStep.done (some false, ())) else pure (ForInStep.yield (none, ()))).run P w = .ok (if X.drop s = Y.drop s then (none, ()) else (some false, ())) w := by
      intro n
      induction n with
      | zero =>
        intro s h
        rw [List.drop_of_length_le (by omega), List.drop_of_length_le (by omega)]
        simp
      | succ n ih =>
        intro s h
        have hx : s < X.length := by omega
        have hy : s < Y.length := by omega
        have hdx := List.drop_eq_getElem_cons hx
        have hdy := List.drop_eq_getElem_cons hy
        rw [List.range'_succ]
        simp only [List.forIn_cons, Sem.run_bind, hpart X s hx, hpart Y s hy, Result.andThen_ok, hone]
        by_cases hxy : X[s] = Y[s]
        · have hb : (X[s] == Y[s]) = true := by simp [hxy]
          simp only [hb, Bool.not_true, Bool.false_eq_true, if_false, Sem.run_pure, Result.andThen_ok]
          rw [ih (s + 1) (by omega)]
          have : (X.drop s = Y.drop s) ↔ (X.drop (s + 1) = Y.drop (s + 1)) := ⟨fun e => by rw [hdx, hdy] at e; injection e, fun e => by rw [hdx, hdy, hxy, e]⟩
          simp only [this]
        · have hb : (X[s] == Y[s]) = false := by simp [hxy]
          simp only [hb, Bool.not_false, if_true, Sem.run_pure, Result.andThen_ok]
          have : ¬ X.drop s = Y.drop s := by rw [hdx, hdy]; intro e; injection e with e; exact hxy e
          rw [if_neg this]
    rw [key len 0 (by omega)]
    simp only [List.drop_zero, Result.andThen_ok]
    by_cases hxy : X = Y
    · subst hxy; simp
    · simp [hxy]
/-- == on two arrays of integers, as the walk meets it. -/
theorem run_eql_arr (w : World) (t e : TypeId) (len : Nat) (k k' : IntKind) (X Y : List Int) (hX : X.length = len) (hY : Y.length = len) (ht : P.underlying t = some (.array len e)) (he : P.underlying e = some (.int k')) (hi : (P.info? e).map (·.size) = some 1) :
    (binOp .eql t (.agg (X.map (Value.int k)).toArray) (.agg (Y.map (Value.int k)).toArray)).run P w = .ok (.bool (X == Y)) w := by
  rw [run_eql_struct, show 10000 = 9998 + 2 from rfl, run_equalIn_arr w 9998 t e len k k' X Y hX hY ht he hi]
  rfl
end

end Go.Proofs.YticcphppnmoogaaGreatDoor

namespace Go.Proofs.YticcphppnmoogaaGreatDoor
open Go.RowKit

theorem info8e : (Tryz.prog.info? 5).map (·.size) = some 1 := by kernel_rfl
theorem eql_dig (A B : List Nat) (hA : A.length = 32) (hB : B.length = 32) (w : World) : (binOp .eql 89 (.agg (u8s A).toArray) (.agg (u8s B).toArray)).run Tryz.prog w = .ok (.bool (A == B)) w := by
  have := run_eql_arr (P := Tryz.prog) w 89 5 32 .u8 .u8 (A.map fun n : Nat => (n : Int)) (B.map fun n : Nat => (n : Int)) (by simpa using hA) (by simpa using hB) Tryz.underlying89 Tryz.underlying5 info8e
  rw [List.map_map, List.map_map] at this
  have e : ((A.map fun n : Nat => (n : Int)) == (B.map fun n : Nat => (n : Int))) = (A == B) := by
    rw [Bool.eq_iff_iff, beq_iff_eq, beq_iff_eq]
    exact List.map_inj_right (fun a b h => by exact_mod_cast h)
  rw [e] at this
  exact this

end Go.Proofs.YticcphppnmoogaaGreatDoor

namespace Go.Proofs.YticcphppnmoogaaGreatDoor
open Go.RowKit
attribute [local go_sem ↓] Go.wp_at_zero Go.wp_at_succ

def OfPost (w : World) (n : Nat) (l : List Ex) (e : Ending) (w' : World) : Prop := ∃ (A : Option Addr) (c : Nat), e = .returned (.slice A n c) ∧ w'.ownsRow w.heap.size 64 4 (.slice A n c) n (exsC l) ∧ Below w.heap.size w w'

set_option maxRecDepth 100000 in
set_option maxHeartbeats 4000000 in
theorem aof_any (A : Option Addr) (n c : Nat) (l : List Ex) (w : World) (hn : n ≤ 1000000) (hE : Exs w A n l) :
    Calls Tryz.prog 9 #[.slice A n c] w (OfPost w n l) := by
  have HL := Sl.mk hE.n_
  have HE := Sl.mk hE
  obtain ⟨r0, hr0, hw0, hw1, hw2⟩ := info_parts refInfo
  clear hE
  go_enter Tryz.func9, Tryz.ntmps9
  go_wp2_with fail
  go_loopw [3, 4] (fun v3 v4 wr => ∃ i : Nat, i ≤ n ∧ v4 = .int .i64 i ∧ wr.ownsRow w.heap.size 64 4 v3 i (exsC (l.take i)) ∧ Below w.heap.size w wr) (fun _ v4 _ => n - (intOf v4).toNat)
  case atStart => exact ⟨0, Nat.zero_le _, rfl, World.ownsRow_nil _ _ _ _, Below.refl _ _⟩
  case round =>
    obtain ⟨i, hi, rfl, hown, hB⟩ := hrel
    obtain ⟨A3, c3, rfl⟩ := ownForm hown
    by_cases hil : i < n
    · obtain ⟨x, hx⟩ : ∃ x, l[i]? = some x := ⟨_, List.getElem?_eq_getElem (by rw [HL.out]; exact hil)⟩
      obtain ⟨xb, xo, rfl, hxb, hxc, hxok⟩ := HE.out.lit hx
      have HT : Sl (exsC (l.take (i + 1)) = exsC (l.take i) ++ exC x) := ⟨by rw [take_snoc' hx, exsC_app]; simp [exsC]⟩
      go_wp2_with fail
      obtain ⟨wd, hwd⟩ : ∃ wd, wr.drew = wd := ⟨_, rfl⟩
      have hEd : Below w.heap.size w wd := by rw [← hwd]; exact hB.drew
      have hod : wd.ownsRow w.heap.size 64 4 (.slice A3 i c3) i (exsC (l.take i)) := by rw [← hwd]; exact hown
      have HSF : Sl (∀ W, Below wd.heap.size wd W → W.cell? ⟨xb, xo + i * 4, none⟩ = some (.slice x.pa x.e.path.length x.pc) ∧ W.cell? ⟨xb, xo + i * 4 + 1, none⟩ = some (.int .i64 x.e.kind) ∧ W.cell? ⟨xb, xo + i * 4 + 2, none⟩ = some (.int .i64 x.e.mode) ∧ W.cell? ⟨xb, xo + i * 4 + 3, none⟩ = some (.slice x.da x.e.data.length x.dc)) := Sl.mk (fun W hW => by
        have hw := below_tr hEd hW
        exact ⟨(hw.cell (p := ⟨xb, xo + i * 4, none⟩) hxb).trans (hxc 0 _ rfl), (hw.cell (p := ⟨xb, xo + i * 4 + 1, none⟩) hxb).trans (hxc 1 _ rfl), (hw.cell (p := ⟨xb, xo + i * 4 + 2, none⟩) hxb).trans (hxc 2 _ rfl), (hw.cell (p := ⟨xb, xo + i * 4 + 3, none⟩) hxb).trans (hxc 3 _ rfl)⟩)
      clear hx hxc hxok hown hB
      refine wp_region_X (fun W => Below wd.heap.size wd W) [23, 24] (by kernel_rfl) (by rw [hwd]; exact Below.refl _ _) (fun hS => ?_)
      rw [hwd] at hS ⊢
      clear hwd
      refine wpAnyX_S (i := 0) (v := ?_) rfl (by kernel_rfl) (by kernel_rfl) (by kernel_rfl) (by kernel_rfl) (fun _ _ _ h => h) (Or.inl ⟨by rfl, ?_⟩) hS ?_
      rotate_left 1
      · (intro w' hw'; (first | rw [hw'] | (have hw2 := HSF.out w' hw') | skip); go_simp; (try with_reducible rfl))
      simp only [Act.put, List.setIfInBounds_toArray, List.set_cons_zero, List.set_cons_succ]
      refine wpAnyX_S (i := 1) (v := ?_) rfl (by kernel_rfl) (by kernel_rfl) (by kernel_rfl) (by kernel_rfl) (fun _ _ _ h => h) (Or.inl ⟨by rfl, ?_⟩) hS ?_
      rotate_left 1
      · (intro w' hw'; (first | rw [hw'] | (have hw2 := HSF.out w' hw') | skip); go_simp; (try with_reducible rfl))
      simp only [Act.put, List.setIfInBounds_toArray, List.set_cons_zero, List.set_cons_succ]
      refine wpAnyX_S (i := 2) (v := ?_) rfl (by kernel_rfl) (by kernel_rfl) (by kernel_rfl) (by kernel_rfl) (fun _ _ _ h => h) (Or.inl ⟨by rfl, ?_⟩) hS ?_
      rotate_left 1
      · (intro w' hw'; (first | rw [hw'] | (have hw2 := HSF.out w' hw') | skip); go_simp; (try with_reducible rfl))
      simp only [Act.put, List.setIfInBounds_toArray, List.set_cons_zero, List.set_cons_succ]
      refine wpAnyX_S (i := 3) (v := ?_) rfl (by kernel_rfl) (by kernel_rfl) (by kernel_rfl) (by kernel_rfl) (fun _ _ _ h => h) (Or.inl ⟨by rfl, ?_⟩) hS ?_
      rotate_left 1
      · (intro w' hw'; (first | rw [hw'] | (have hw2 := HSF.out w' hw') | skip); go_simp; (try with_reducible rfl))
      simp only [Act.put, List.setIfInBounds_toArray, List.set_cons_zero, List.set_cons_succ]
      refine wpAnyX_S (i := 4) (v := ?_) rfl (by kernel_rfl) (by kernel_rfl) (by kernel_rfl) (by kernel_rfl) (fun _ _ _ h => h) (Or.inl ⟨by rfl, ?_⟩) hS ?_
      rotate_left 1
      · (intro w' hw'; (first | rw [hw'] | (have hw2 := HSF.out w' hw') | skip); go_simp; (try with_reducible rfl))
      simp only [Act.put, List.setIfInBounds_toArray, List.set_cons_zero, List.set_cons_succ]
      refine wpAnyX_S (i := 5) (v := ?_) rfl (by kernel_rfl) (by kernel_rfl) (by kernel_rfl) (by kernel_rfl) (fun _ _ _ h => h) (Or.inl ⟨by rfl, ?_⟩) hS ?_
      rotate_left 1
      · (intro w' hw'; (first | rw [hw'] | (have hw2 := HSF.out w' hw') | skip); go_simp; (try with_reducible rfl))
      simp only [Act.put, List.setIfInBounds_toArray, List.set_cons_zero, List.set_cons_succ]
      refine wpAnyX_S (i := 6) (v := ?_) rfl (by kernel_rfl) (by kernel_rfl) (by kernel_rfl) (by kernel_rfl) (fun _ _ _ h => h) (Or.inl ⟨by rfl, ?_⟩) hS ?_
      rotate_left 1
      · (intro w' hw'; (first | rw [hw'] | (have hw2 := HSF.out w' hw') | skip); go_simp; (try with_reducible rfl))
      simp only [Act.put, List.setIfInBounds_toArray, List.set_cons_zero, List.set_cons_succ]
      refine wpAnyX_S (i := 7) (v := ?_) rfl (by kernel_rfl) (by kernel_rfl) (by kernel_rfl) (by kernel_rfl) (fun _ _ _ h => h) (Or.inl ⟨by rfl, ?_⟩) hS ?_
      rotate_left 1
      · (intro w' hw'; (first | rw [hw'] | (have hw2 := HSF.out w' hw') | skip); go_simp; (try with_reducible rfl))
      simp only [Act.put, List.setIfInBounds_toArray, List.set_cons_zero, List.set_cons_succ]
      refine wpAnyX_S (i := 8) (v := ?_) rfl (by kernel_rfl) (by kernel_rfl) (by kernel_rfl) (by kernel_rfl) (fun _ _ _ h => h) (Or.inl ⟨by rfl, ?_⟩) hS ?_
      rotate_left 1
      · (intro w' hw'; (first | rw [hw'] | (have hw2 := HSF.out w' hw') | skip); go_simp; (try with_reducible rfl))
      simp only [Act.put, List.setIfInBounds_toArray, List.set_cons_zero, List.set_cons_succ]
      refine wpAnyX_S (i := 9) (v := ?_) rfl (by kernel_rfl) (by kernel_rfl) (by kernel_rfl) (by kernel_rfl) (fun _ _ _ h => h) (Or.inl ⟨by rfl, ?_⟩) hS ?_
      rotate_left 1
      · (intro w' hw'; (first | rw [hw'] | (have hw2 := HSF.out w' hw') | skip); go_simp; (try with_reducible rfl))
      simp only [Act.put, List.setIfInBounds_toArray, List.set_cons_zero, List.set_cons_succ]
      refine wpAnyX_S (i := 10) (v := ?_) rfl (by kernel_rfl) (by kernel_rfl) (by kernel_rfl) (by kernel_rfl) (fun _ _ _ h => h) (Or.inl ⟨by rfl, ?_⟩) hS ?_
      rotate_left 1
      · (intro w' hw'; (first | rw [hw'] | (have hw2 := HSF.out w' hw') | skip); go_simp; (try with_reducible rfl))
      simp only [Act.put, List.setIfInBounds_toArray, List.set_cons_zero, List.set_cons_succ]
      refine wpAnyX_S (i := 11) (v := ?_) rfl (by kernel_rfl) (by kernel_rfl) (by kernel_rfl) (by kernel_rfl) (fun _ _ _ h => h) (Or.inl ⟨by rfl, ?_⟩) hS ?_
      rotate_left 1
      · (intro w' hw'; (first | rw [hw'] | (have hw2 := HSF.out w' hw') | skip); go_simp; (try with_reducible rfl))
      simp only [Act.put, List.setIfInBounds_toArray, List.set_cons_zero, List.set_cons_succ]
      refine wpAnyX_S (i := 12) (v := ?_) rfl (by kernel_rfl) (by kernel_rfl) (by kernel_rfl) (by kernel_rfl) (fun _ _ _ h => h) (Or.inl ⟨by rfl, ?_⟩) hS ?_
      rotate_left 1
      · (intro w' hw'; (first | rw [hw'] | (have hw2 := HSF.out w' hw') | skip); go_simp; (try with_reducible rfl))
      simp only [Act.put, List.setIfInBounds_toArray, List.set_cons_zero, List.set_cons_succ]
      refine wpAnyX_S (i := 13) (v := ?_) rfl (by kernel_rfl) (by kernel_rfl) (by kernel_rfl) (by kernel_rfl) (fun _ _ _ h => h) (Or.inl ⟨by rfl, ?_⟩) hS ?_
      rotate_left 1
      · (intro w' hw'; (first | rw [hw'] | (have hw2 := HSF.out w' hw') | skip); go_simp; (try with_reducible rfl))
      simp only [Act.put, List.setIfInBounds_toArray, List.set_cons_zero, List.set_cons_succ]
      refine wpAnyX_S (i := 14) (v := ?_) rfl (by kernel_rfl) (by kernel_rfl) (by kernel_rfl) (by kernel_rfl) (fun _ _ _ h => h) (Or.inl ⟨by rfl, ?_⟩) hS ?_
      rotate_left 1
      · (intro w' hw'; (first | rw [hw'] | (have hw2 := HSF.out w' hw') | skip); go_simp; (try with_reducible rfl))
      simp only [Act.put, List.setIfInBounds_toArray, List.set_cons_zero, List.set_cons_succ]
      refine wpAnyX_S (i := 15) (v := ?_) rfl (by kernel_rfl) (by kernel_rfl) (by kernel_rfl) (by kernel_rfl) (fun _ _ _ h => h) (Or.inl ⟨by rfl, ?_⟩) hS ?_
      rotate_left 1
      · (intro w' hw'; (first | rw [hw'] | (have hw2 := HSF.out w' hw') | skip); go_simp; (try with_reducible rfl))
      simp only [Act.put, List.setIfInBounds_toArray, List.set_cons_zero, List.set_cons_succ]
      refine wpAnyX_S (i := 16) (v := ?_) rfl (by kernel_rfl) (by kernel_rfl) (by kernel_rfl) (by kernel_rfl) (fun _ _ _ h => h) (Or.inl ⟨by rfl, ?_⟩) hS ?_
      rotate_left 1
      · (intro w' hw'; (first | rw [hw'] | (have hw2 := HSF.out w' hw') | skip); go_simp; (try with_reducible rfl))
      simp only [Act.put, List.setIfInBounds_toArray, List.set_cons_zero, List.set_cons_succ]
      refine wpAnyX_S (i := 17) (v := ?_) rfl (by kernel_rfl) (by kernel_rfl) (by kernel_rfl) (by kernel_rfl) (fun _ _ _ h => h) (Or.inl ⟨by rfl, ?_⟩) hS ?_
      rotate_left 1
      · (intro w' hw'; (first | rw [hw'] | (have hw2 := HSF.out w' hw') | skip); go_simp; (try with_reducible rfl))
      simp only [Act.put, List.setIfInBounds_toArray, List.set_cons_zero, List.set_cons_succ]
      refine wpAnyX_S (i := 18) (v := ?_) rfl (by kernel_rfl) (by kernel_rfl) (by kernel_rfl) (by kernel_rfl) (fun _ _ _ h => h) (Or.inl ⟨by rfl, ?_⟩) hS ?_
      rotate_left 1
      · (intro w' hw'; (first | rw [hw'] | (have hw2 := HSF.out w' hw') | skip); go_simp; (try with_reducible rfl))
      simp only [Act.put, List.setIfInBounds_toArray, List.set_cons_zero, List.set_cons_succ]
      refine wpAnyX_S (i := 19) (v := ?_) rfl (by kernel_rfl) (by kernel_rfl) (by kernel_rfl) (by kernel_rfl) (fun _ _ _ h => h) (Or.inl ⟨by rfl, ?_⟩) hS ?_
      rotate_left 1
      · (intro w' hw'; (first | rw [hw'] | (have hw2 := HSF.out w' hw') | skip); go_simp; (try with_reducible rfl))
      simp only [Act.put, List.setIfInBounds_toArray, List.set_cons_zero, List.set_cons_succ]
      refine wpAnyX_S (i := 20) (v := ?_) rfl (by kernel_rfl) (by kernel_rfl) (by kernel_rfl) (by kernel_rfl) (fun _ _ _ h => h) (Or.inl ⟨by rfl, ?_⟩) hS ?_
      rotate_left 1
      · (intro w' hw'; (first | rw [hw'] | (have hw2 := HSF.out w' hw') | skip); go_simp; (try with_reducible rfl))
      simp only [Act.put, List.setIfInBounds_toArray, List.set_cons_zero, List.set_cons_succ]
      refine wpAnyX_S (i := 21) (v := .agg #[.slice x.pa x.e.path.length x.pc, .int .i64 x.e.kind, .int .i64 x.e.mode, .slice x.da x.e.data.length x.dc]) rfl (by kernel_rfl) (by kernel_rfl) (by kernel_rfl) (by kernel_rfl) (fun _ _ _ h => h) (.inl ⟨by rfl, fun w' _ => by go_simp⟩) hS ?_
      simp only [Act.put, List.setIfInBounds_toArray, List.set_cons_zero, List.set_cons_succ]
      refine wpAnyX_oneL (k := 22) rfl (by kernel_rfl) rfl ?_
      refine wp_of_run (v := .slice (some ⟨wd.heap.size, 0, none⟩) 1 1) (w' := wd.alloc (.cells #[.slice x.pa x.e.path.length x.pc, .int .i64 x.e.kind, .int .i64 x.e.mode, .slice x.da x.e.data.length x.dc] 64)) (by go_simp) ⟨fun _ => (Below.refl _ _).alloc (Nat.le_refl _) _, ?_⟩
      simp only [Act.put, List.setIfInBounds_toArray, List.set_cons_zero, List.set_cons_succ]
      refine wpAnyX_tailF [23, 24] (by kernel_rfl) (by rfl) (by rfl) (by rfl) ?_
      simp only [List.filterMap_cons, List.filterMap_nil, List.getElem?_cons_succ, List.getElem?_cons_zero]
      have hge := hEd.size
      refine wpList_append_anyG _ rfl (.tmp 11) (.tmp 33) 27 rfl w.heap.size 64 r0 (.agg #[.slice none 0 0, .int .i64 0, .int .i64 0, .slice none 0 0]) 4 64 Tryz.underlying27 hr0 hw0 hw1 hw2 (by rfl) (by decide) (.slice A3 i c3) i (exsC (l.take i)) rfl (hod.alloc _) (wd.heap.size + 1) (some ⟨wd.heap.size, 0, none⟩) 1 1 [.slice x.pa x.e.path.length x.pc, .int .i64 x.e.kind, .int .i64 x.e.mode, .slice x.da x.e.data.length x.dc] rfl (reads_row4 wd _ _ _ _ _) (four_one _ _ _ _ rfl rfl rfl rfl) (by unfold maxLen; omega) (by omega) (by simp; omega) ?_
      intro v9 w9 ho9 hg9 hb9
      obtain ⟨A9, c9, rfl⟩ := ownForm ho9
      have hE9 : Below w.heap.size w w9 := (below_al hEd _).grown hg9 (by simp; omega) (fun g hg => ownGe hod hg)
      have HO : Sl (w9.ownsRow w.heap.size 64 4 (.slice A9 (i + 1) c9) (i + 1) (exsC (l.take (i + 1)))) := ⟨by rw [HT.out]; exact ho9⟩
      clear ho9 hg9 hb9 hod HSF hEd hge
      go_wp2_with fail
      refine NoPanic.normal ?_
      go_wp2_with fail
      go_roundw
      case rel => exact ⟨i + 1, by omega, by go_num, HO.out, hE9⟩
      case measure => simp [intOf]; omega
    · obtain rfl : i = n := by omega
      have ht : l.take i = l := List.take_of_length_le (by rw [HL.out]; omega)
      rw [ht] at hown
      go_wp2_with fail
      go_ret
      exact ⟨A3, c3, rfl, hown, hB⟩

theorem rds_of_reads {w : World} {B n : Nat} {A : Option Addr} {d : List Nat} (h : Reads w B 1 A n (u8s d)) : RdS w (fun b => b < B) A d := fun j hj => by
  have hl := bytes_n h
  obtain ⟨ad, e, hb, hc⟩ := h.2 (by omega)
  exact ⟨ad, e, hb, hc j _ (by simp [u8s, hj])⟩

def digC (l : List Ex) : List Value := l.flatMap fun x => u8s (shaF x.e.data)
theorem reads_rowN (w : World) (L : List Value) (T : TypeId) {k : Nat} (hk : L.length = 1 * k) : Reads (w.alloc (.cells L.toArray T)) (w.heap.size + 1) k (some ⟨w.heap.size, 0, none⟩) 1 L :=
  ⟨hk, fun _ => ⟨_, rfl, Nat.lt_succ_self _, fun j u hj => by
    rw [addr_add0, (Blk.new w T L.toArray).cell j]
    simpa using hj⟩⟩
theorem fold_put : ∀ (l : List Value) (k : Nat) (cs : Array Value), k + l.length = cs.size → (l.zipIdx k).foldl (fun cs x => cs.setIfInBounds x.snd x.fst) cs = (cs.toList.take k ++ l).toArray
  | [], k, cs, h => by
    have hk : cs.toList.take k = cs.toList := List.take_of_length_le (by simp at h; simp; omega)
    simp only [List.zipIdx_nil, List.foldl_nil, List.append_nil]
    rw [hk]
  | v :: l, k, cs, h => by
    have hlen : (v :: l).length = l.length + 1 := rfl
    rw [List.zipIdx_cons, List.foldl_cons, fold_put l (k + 1) _ (by simp; omega)]
    have h1 : (cs.setIfInBounds k v).toList.take (k + 1) = cs.toList.take k ++ [v] := by
      rw [Array.toList_setIfInBounds, List.take_succ_eq_append_getElem (by simp; omega), List.take_set_of_le (Nat.le_refl _)]
      simp
    rw [h1]; simp
theorem fold32 (L : List Value) (hL : L.length = 32) (cs : Array Value) (h : cs.size = 32) : L.zipIdx.foldl (fun cs x => cs.setIfInBounds x.snd x.fst) cs = L.toArray := by
  rw [fold_put L 0 cs (by rw [hL, h])]; simp
theorem digInfo : (Tryz.prog.info? 89).map (fun i => (i.zero, i.size, i.bytes)) = some (some (.agg #[.int .u8 0, .int .u8 0, .int .u8 0, .int .u8 0, .int .u8 0, .int .u8 0, .int .u8 0, .int .u8 0, .int .u8 0, .int .u8 0, .int .u8 0, .int .u8 0, .int .u8 0, .int .u8 0, .int .u8 0, .int .u8 0, .int .u8 0, .int .u8 0, .int .u8 0, .int .u8 0, .int .u8 0, .int .u8 0, .int .u8 0, .int .u8 0, .int .u8 0, .int .u8 0, .int .u8 0, .int .u8 0, .int .u8 0, .int .u8 0, .int .u8 0, .int .u8 0]), 32, 32) := by kernel_rfl


def filesF (l : List Ex) : Nat := (l.map fun x => if x.e.kind = 0 then 1 else 0).sum
def allF (l : List Ex) : Nat := (l.map fun x => if x.e.kind = 0 then x.e.data.length else 0).sum
theorem files_le (l : List Ex) : filesF l ≤ l.length := by
  induction l with
  | nil => exact Nat.le_refl _
  | cons x l ih => simp only [filesF, List.map_cons, List.sum_cons, List.length_cons] at *; split <;> omega
theorem all_le (l : List Ex) (h : ∀ x ∈ l, x.e.data.length ≤ 100000) : allF l ≤ l.length * 100000 := by
  induction l with
  | nil => exact Nat.le_refl _
  | cons x l ih =>
    have h1 := h x (List.mem_cons_self ..)
    have h2 := ih (fun y hy => h y (List.mem_cons_of_mem _ hy))
    simp only [allF, List.map_cons, List.sum_cons, List.length_cons] at *
    split <;> omega


end Go.Proofs.YticcphppnmoogaaGreatDoor

namespace Go.Proofs.YticcphppnmoogaaGreatDoor
open Go.RowKit
attribute [local go_sem ↓] Go.wp_at_zero Go.wp_at_succ

def len4F (n i : Nat) : Nat := n / 2 ^ (8 * (3 - i)) % 256
def len4 (n : Nat) : List Nat := (List.range 4).map (len4F n)
def frameF (L : List (List Nat)) : List Nat := L.flatMap fun l => len4 l.length ++ l
theorem frameF_snoc (L : List (List Nat)) (l : List Nat) : frameF (L ++ [l]) = frameF L ++ (len4 l.length ++ l) := by simp [frameF]
theorem frameF_le (L : List (List Nat)) (i : Nat) : (frameF (L.take i)).length ≤ (frameF L).length := by
  conv => rhs; rw [← List.take_append_drop i L]
  unfold frameF
  rw [List.flatMap_append, List.length_append]; omega
theorem getD_le_frame {L : List (List Nat)} {i : Nat} (h : i < L.length) : (L.getD i []).length ≤ (frameF L).length := by
  have h1 := frameF_le L (i + 1)
  rw [take_succ_getD (d := []) h, frameF_snoc, List.length_append, List.length_append] at h1
  omega
theorem info4 : (Tryz.prog.info? 122).map (·.size) = some 4 := by kernel_rfl

set_option maxRecDepth 100000 in
set_option maxHeartbeats 4000000 in
theorem framed_any (A : Option Addr) (c : Nat) (L : List (List Nat)) (S : Nat → Prop) (w : World) (hn : (frameF L).length ≤ 10000000000) (hLn : L.length ≤ 10000000000) (hT : Tabs w) (hL : RdSS w S A L) (hS : ∀ b, S b → b < w.heap.size) :
    Calls Tryz.prog 54 #[.slice A L.length c] w fun e w' => e = .returned (.agg (u8s (shaF (frameF L))).toArray) ∧ Below w.heap.size w w' := by
  have hz := zero73
  have hT0 := hT.1
  obtain ⟨m, hm⟩ : ∃ m, L.length = m := ⟨_, rfl⟩
  have HM := hide hm
  have HN := Sl.mk hn
  have HL := Sl.mk hL
  have HS := Sl.mk hS
  rw [hm] at hLn ⊢
  clear hm hn hL hS
  go_enter Tryz.func54, Tryz.ntmps54
  go_wp2_with fail
  go_loopw [12] (fun v12 wr => ∃ i : Nat, i ≤ m ∧ v12 = .int .i64 i ∧ St wr (w.heap.size + 1) (feedS zS (frameF (L.take i))) ∧ Tabs wr ∧ Blk wr w.heap.size 89 (z8 32).toArray ∧ Below w.heap.size w wr) (fun v12 _ => m - (intOf v12).toNat)
  case atStart => exact ⟨0, by omega, rfl, Blk.new' (by simp), hT.below (below_al (below_al (Below.refl _ _) _) _) hT.1, Blk.alloc (Blk.new w _ _) _, below_al (below_al (Below.refl _ _) _) _⟩
  case round =>
    obtain ⟨i, hi, rfl, hSi, hTi, hZi, hBi⟩ := hrel
    clear hT
    obtain ⟨wo, hwo⟩ : ∃ wo, wo = wr := ⟨_, rfl⟩
    subst hwo
    by_cases hlt : i < m
    · obtain ⟨ad, Ai, ci, rfl, hSb, hcell0, hrd⟩ := HL.out i (by rw [HM.out]; exact hlt)
      have hcell : wo.cell? (ad.add i) = _ := (hBi.cell (p := ad.add i) (by rw [block_of_add]; exact HS.out _ hSb)).trans hcell0
      obtain ⟨l, hl⟩ : ∃ l, L.getD i [] = l := ⟨_, rfl⟩
      have hfs : frameF (L.take (i + 1)) = frameF (L.take i) ++ (len4 l.length ++ l) := by rw [take_succ_getD (d := []) (by rw [HM.out]; exact hlt), hl, frameF_snoc]
      have hfle := frameF_le L (i + 1)
      rw [hfs, List.length_append, List.length_append] at hfle
      rw [hl] at hcell hrd
      obtain ⟨k, hk⟩ : ∃ k, l.length = k := ⟨_, rfl⟩
      rw [hk] at hcell
      have hk4 : (len4 l.length).length = 4 := by simp [len4]
      have hkm : k ≤ 10000000000 := by have := HN.out; omega
      have HFS := Sl.mk hfs
      have HFL := Sl.mk hfle
      have HK := hide hk
      have HRD := Sl.mk hrd
      have HK4 := Sl.mk hk4
      clear hl hfs hfle hk hrd hcell0 hk4
      go_wp2_with fail
      obtain ⟨wa, hwa⟩ : ∃ wa, wo.alloc (.cells (z8 4).toArray 122) = wa := ⟨_, rfl⟩
      have hNa : Blk wa wo.heap.size 122 (u8s ((List.range 0).map (len4F k)) ++ z8 (4 - 0)).toArray := by rw [← hwa]; exact Blk.new _ _ _
      have hSa : St wa (w.heap.size + 1) (feedS zS (frameF (L.take i))) := by rw [← hwa]; exact Blk.alloc hSi _
      have hZa := Blk.alloc hZi (.cells (z8 4).toArray 122)
      rw [hwa] at hZa
      have hBa : Below w.heap.size w wa := by rw [← hwa]; exact below_al hBi _
      have hTa : Tabs wa := hTi.below (B := wo.heap.size) (by rw [← hwa]; exact below_al (Below.refl _ _) _) hTi.1
      have hla : w.heap.size + 1 < wo.heap.size := Blk.lt hSi
      have hga : wo.heap.size < wa.heap.size := Blk.lt hNa
      have hwa2 : wo.alloc (.cells #[.int .u8 0, .int .u8 0, .int .u8 0, .int .u8 0] 122) = wa := hwa
      rw [hwa2]
      clear hwa hwa2 hSi hZi hBi hTi hcell
      go_loopw [16] (fun v16 wx => ∃ j : Nat, j ≤ 4 ∧ v16 = .int .i64 j ∧ Blk wx wo.heap.size 122 (u8s ((List.range j).map (len4F k)) ++ z8 (4 - j)).toArray ∧ St wx (w.heap.size + 1) (feedS zS (frameF (L.take i))) ∧ Blk wx w.heap.size 89 (z8 32).toArray ∧
        Below w.heap.size w wx ∧ Tabs wx ∧ wo.heap.size < wx.heap.size) (fun v16 _ => 4 - (intOf v16).toNat)
      case atStart => exact ⟨0, by omega, rfl, hNa, hSa, hZa, hBa, hTa, hga⟩
      case round =>
        obtain ⟨j, hj, rfl, hNj, hSj, hZj, hBj, hTj, hgj⟩ := hrel
        clear hNa hSa hZa hBa hTa hga
        by_cases hjl : j < 4
        · have hd := blk_at hNj (range_get hjl)
          have hf := hNj.frozen j
          have hb : (k : Int) / 2 ^ (8 * (3 - j)) % 256 = ((len4F k j : Nat) : Int) := by unfold len4F; simp
          have HB := Sl.mk hb
          clear hb
          go_wp2_with fail
          go_roundw
          case rel =>
            refine ⟨j + 1, by omega, by go_num, ?_, hSj.far (by show w.heap.size + 1 ≠ wo.heap.size; omega) _, hZj.far (by show w.heap.size ≠ wo.heap.size; omega) _, hBj.setCell (by show w.heap.size ≤ wo.heap.size; omega) _, ?_, by simpa [World.setCell] using hgj⟩
            · rw [HB.out]; exact range_set hNj hjl
            · exact hTj.only (only_setCell (only_refl _ _) _ _) (by omega)
          case measure => simp [intOf]; omega
        · obtain rfl : j = 4 := by omega
          have hN4 : Blk wr wo.heap.size 122 (u8s (len4 k)).toArray := by simpa [z8, len4] using hNj
          clear hNj
          go_wp2_with fail
          obtain ⟨wx, hwx⟩ : ∃ wx, wr.alloc (.cells #[.slice (some ⟨wo.heap.size, 0, none⟩) 4 4, .slice Ai k ci] 22) = wx := ⟨_, rfl⟩
          have hX : Blk wx wr.heap.size 22 #[.slice (some ⟨wo.heap.size, 0, none⟩) 4 4, .slice Ai k ci] := by rw [← hwx]; exact Blk.new _ _ _
          have hNx : Blk wx wo.heap.size 122 (u8s (len4 k)).toArray := by rw [← hwx]; exact hN4.alloc _
          have hSx : St wx (w.heap.size + 1) (feedS zS (frameF (L.take i))) := by rw [← hwx]; exact Blk.alloc hSj _
          have hZx : Blk wx w.heap.size 89 (z8 32).toArray := by rw [← hwx]; exact hZj.alloc _
          have hBx : Below w.heap.size w wx := by rw [← hwx]; exact below_al hBj _
          have hsx : wx.heap.size = wr.heap.size + 1 := by rw [← hwx]; simp
          have hTx : Tabs wx := hTj.below (B := wr.heap.size) (by rw [← hwx]; exact below_al (Below.refl _ _) _) hTj.1
          rw [hwx]
          clear hwx hN4 hSj hZj hBj hTj
          have hRL : RdSS wx (fun b => b < wx.heap.size ∧ b ≠ w.heap.size + 1) (some ⟨wr.heap.size, 0, none⟩) [len4 k, l] := fun q hq => by
            match q, hq with
            | 0, _ => exact ⟨_, some ⟨wo.heap.size, 0, none⟩, 4, rfl, ⟨by show wr.heap.size < _; omega, by show wr.heap.size ≠ _; omega⟩, by rw [add_zero']; exact hX.cell 0, rd_cells ⟨by show wo.heap.size < _; omega, by show wo.heap.size ≠ _; omega⟩ (fun j hj => blk_at hNx (by
                have hj2 : j < (len4 k).length := hj
                show (u8s (len4 k))[j]? = some (.int .u8 (((len4 k).getD j 0 : Nat) : Int))
                simp [u8s, hj2]))⟩
            | 1, _ => exact ⟨_, Ai, ci, rfl, ⟨by show wr.heap.size < _; omega, by show wr.heap.size ≠ _; omega⟩, by
                show wx.cell? _ = some (.slice Ai l.length ci)
                rw [add_zero', HK.out]; exact hX.cell 1, rds_mono (HRD.out.keep (fun p hp => hBx.cell (HS.out _ hp))) (fun b hb => by have := HS.out b hb; exact ⟨by have := hBx.size; omega, by omega⟩)⟩
          have hfeed : feedS (feedS zS (frameF (L.take i))) ([len4 k, l] : List (List Nat)).flatten = feedS zS (frameF (L.take (i + 1))) := by
            rw [HFS.out, feedS_app, HK.out]; simp
          have hcall := write_any (w.heap.size + 1) (feedS zS (frameF (L.take i))) (some ⟨wr.heap.size, 0, none⟩) 2 [len4 k, l] (fun b => b < wx.heap.size ∧ b ≠ w.heap.size + 1) wx (feedS_ok zS_ok _)
            (by
              rw [feedS_n]
              have h1 := HFL.out
              have h2 := HN.out
              have h3 : (([len4 k, l] : List (List Nat)).flatten).length = 4 + l.length := by simp [len4]
              rw [h3]
              show 0 + _ + _ ≤ _
              omega) (by simp) (by omega) hTx hSx hRL (fun b hb => hb)
          rw [hfeed] at hcall
          refine hcall.mono ?_
          clear hcall hfeed hRL
          rintro e w5 ⟨rfl, hS5, hG5⟩
          have hZ5 := blk_only hZx hG5 (by omega)
          have hB5 := below_only hBx hG5 hBx.size (by omega)
          have hT5 := hTx.only hG5 (by omega)
          clear hX hNx hSx hZx hBx hTx hG5
          go_wp2_with fail
          go_roundw
          case rel => exact ⟨i + 1, by omega, by go_num, hS5, hT5, hZ5, hB5⟩
          case measure => simp [intOf]; omega
    · obtain rfl : i = m := by omega
      have hfl : frameF (L.take i) = frameF L := by rw [← HM.out, List.take_length]
      rw [hfl] at hSi
      go_wp2_with fail
      refine (sum_any (w.heap.size + 1) _ _ (feedS_ok zS_ok _) (by rw [feedS_n]; have := HN.out; show 0 + _ ≤ _; omega) hTi hSi).mono ?_
      rintro e w5 ⟨rfl, hB5⟩
      have hZ5 := hZi.be hB5
      have hE5 := below_tr hBi hB5
      have hlen : (u8s (shaF (frameF L))).length = 32 := by rw [u8s_len, shaF_len]
      have HLE := Sl.mk hlen
      have hfold : sumF (feedS zS (frameF L)) = shaF (frameF L) := rfl
      rw [hfold]
      clear hlen hB5 hfold hfl hz
      go_wp2_with ((refine wpList_store_blk rfl 89 (.tmp 2) (.tmp 36) rfl w.heap.size 0 89 (z8 32) (u8s (shaF (frameF L))) hZ5 rfl rfl (by rw [HLE.out]; simp [z8]) (by rw [info32, HLE.out]) (u8s_one _) ?_))
      intro w6 hB6 hG6 hs6
      have hB7 : Blk w6 w.heap.size 89 (u8s (shaF (frameF L))).toArray := by
        have e : u8s (shaF (frameF L)) ++ (z8 32).drop (u8s (shaF (frameF L))).length = u8s (shaF (frameF L)) := by rw [HLE.out]; simp [z8]
        first
          | rwa [e] at hB6
          | (rw [HLE.out] at e; rwa [e] at hB6)
      have hE : Below w.heap.size w w6 := below_only hE5 hG6 hE5.size (Nat.le_refl _)
      clear hB6 hG6 hs6
      go_wp2_with fail
      refine bodyPost_ret (v := .agg (u8s (shaF (frameF L))).toArray) (results_cell_row Tryz.results54 _ _ w.heap.size 89 (u8s (shaF (frameF L))).toArray (0, 0) _ rfl hB7 Tryz.underlying89 rfl (by rw [info32]; simp [HLE.out])) rfl ?_
      exact ⟨rfl, hE⟩


end Go.Proofs.YticcphppnmoogaaGreatDoor
