/-
  The contract of archive.Check.
-/
import Derived.Test.YticcphppnmoogaaDoorArcF
namespace Go.Proofs.YticcphppnmoogaaDoor
open Go.RowKit
attribute [local go_sem ↓] Go.wp_at_zero Go.wp_at_succ

/-- What Check tells: the first entry that is refused, and why. -/
def CheckR (l : List Ex) (N : Nat) (E : Int) : Prop :=
  (40 < l.length ∧ N = 40 ∧ E = 2) ∨ (l.length ≤ 40 ∧ N ≤ l.length ∧ (∀ j x, j < N → l[j]? = some x → refusedE x.e (l.take j) = 0) ∧ ((N = l.length ∧ E = 0) ∨ (∃ x, l[N]? = some x ∧ E = refusedE x.e (l.take N) ∧ E ≠ 0)))
def CheckPost (w : World) (l : List Ex) (e : Ending) (w' : World) : Prop := ∃ (N : Nat) (E : Int), e = .returned (.tuple #[.int .i64 N, .int .i64 E]) ∧ CheckR l N E ∧ Below w.heap.size w w'

theorem ld_exl {ops : Array Oper} {rest : List Oper} {op : Oper} {a : Act} {w : World} {Q : Exit → Act → World → Prop} {ad : Addr} {x : Ex} (hc : ∀ j v, (exC x)[j]? = some v → w.cell? (ad.add j) = some v) (hgd : op.guard = none) (y : Operand) (ho : op.op = .load 34 y) (hy : a.eval y = .pointer (some ad))
    (h : wpList Tryd.prog ops Q rest (a.put op.dst (.agg #[.slice x.pa x.e.path.length x.pc, .int .i64 x.e.kind, .int .i64 x.e.mode, .slice x.da x.e.data.length x.dc])) w) : wpList Tryd.prog ops Q (op :: rest) a w :=
  ld_ex hc hgd y ho hy h

set_option maxRecDepth 100000 in
set_option maxHeartbeats 4000000 in
theorem acheck_any (A : Option Addr) (n c : Nat) (l : List Ex) (w : World) (hn : n ≤ 1000000) (hnc : n ≤ c ∧ c ≤ 9223372036854775807) (hL : Exs w A n l) (hM : Mx w) :
    Calls Tryd.prog 8 #[.slice A n c] w (CheckPost w l) := by
  have HN := Sl.mk hL.n_
  have HL := Sl.mk hL
  have HM := Sl.mk hM
  clear hL hM
  by_cases h40 : 40 < n
  · have h40' : (40 : Int) < (n : Int) := by omega
    go_enter Tryd.func8, Tryd.ntmps8
    go_wp2_with fail
    go_ret2
    exact ⟨40, 2, rfl, .inl ⟨by rw [HN.out]; exact h40, rfl, rfl⟩, Below.refl _ _⟩
  · have h40' : ¬ (40 : Int) < (n : Int) := by omega
    go_enter Tryd.func8, Tryd.ntmps8
    go_wp2_with fail
    go_loopw [4, 5, 6, 12] (fun _ _ _ v12 wr => ∃ i : Nat, i ≤ n ∧ v12 = .int .i64 i ∧ Sl (∀ j x, j < i → l[j]? = some x → refusedE x.e (l.take j) = 0) ∧ Below w.heap.size w wr) (fun _ _ _ v12 _ => n - (intOf v12).toNat)
    case atStart => exact ⟨0, Nat.zero_le _, rfl, ⟨fun j x hj => absurd hj (by omega)⟩, Below.refl _ _⟩
    case round =>
      obtain ⟨i, hi, rfl, HZ, hB⟩ := hrel
      by_cases hil : i < n
      · obtain ⟨x, hx⟩ : ∃ x, l[i]? = some x := ⟨_, List.getElem?_eq_getElem (by rw [HN.out]; exact hil)⟩
        obtain ⟨ad, rfl, hbl, hld, hok⟩ := (HL.out.be hB).at_ hx
        have hd0 : wr.cell? (ad.add (i * 4)) = some (.slice x.pa x.e.path.length x.pc) := by have := hld 0 _ rfl; simpa [Addr.add] using this
        have HXI := Sl.mk hx
        have HR := Sl.mk (show ∀ W, Below wr.heap.size wr W → Calls Tryd.prog 21 #[.agg #[.slice x.pa x.e.path.length x.pc, .int .i64 x.e.kind, .int .i64 x.e.mode, .slice x.da x.e.data.length x.dc], .slice (some ad) i c] W fun e w' => e = .returned (.int .i64 (refusedE x.e (l.take i))) ∧ Below W.heap.size W w' from fun W hW =>
          refused_any x (some ad) i c (l.take i) W (hok.be hW) (by omega) (((HL.out.be hB).be hW).take_ hi) ((HM.out.be hB).be hW))
        have hwa := below_al (Below.refl wr.heap.size wr) (.cells #[.slice x.pa x.e.path.length x.pc, .int .i64 x.e.kind, .int .i64 x.e.mode, .slice x.da x.e.data.length x.dc] 34)
        clear hx hok
        go_wp2_with (refine ld_exl hld rfl (.tmp 15) rfl rfl ?_)
        refine wp_region_quiet_tail 4 (by kernel_rfl) (by kernel_rfl) ?_
        simp only [List.take_succ_cons, List.take_zero, List.drop_succ_cons, List.drop_zero]
        repeat (any_goals (first | go_big_quiet_step (fail) | quiet_step (fail)))
        refine wpQuiet_nil ?_
        intro _ hw'
        obtain ⟨nq, hw''⟩ := hw'
        subst hw''
        go_wp2_with fail
        refine (HR.out _ (below_drN hwa nq)).mono ?_
        rintro e w2 ⟨rfl, hB2⟩
        have hE2 := below_tr hB (below_tr (below_drN hwa nq) hB2)
        clear hB hld hd0 hwa hB2
        by_cases hz : refusedE x.e (l.take i) = 0
        · have HZ2 := Sl.mk (show ∀ j x, j < i + 1 → l[j]? = some x → refusedE x.e (l.take j) = 0 from fun j y hj hy => by
            rcases Nat.lt_or_ge j i with h | h
            · exact HZ.out j y h hy
            · obtain rfl : j = i := by omega
              rw [HXI.out] at hy
              injection hy with hy
              subst hy
              exact hz)
          rw [hz]
          clear hz HZ
          go_wp2_with fail
          go_roundw
          case rel => exact ⟨i + 1, by omega, by go_num, HZ2, hE2⟩
          case measure => simp [intOf]; omega
        · have HB := Sl.mk hz
          obtain ⟨E, hEE⟩ : ∃ E, refusedE x.e (l.take i) = E := ⟨_, rfl⟩
          have HEE := Sl.mk hEE
          rw [hEE] at hz ⊢
          have hne : (E != 0) = true := by simpa using hz
          clear hz hEE
          go_wp2_with fail
          go_ret2
          exact ⟨i, E, rfl, .inr ⟨by rw [HN.out]; omega, by rw [HN.out]; exact hi, HZ.out, .inr ⟨x, HXI.out, HEE.out.symm, by rw [← HEE.out]; exact HB.out⟩⟩, hE2⟩
      · obtain rfl : i = n := by omega
        go_wp2_with fail
        go_ret2
        exact ⟨i, 0, rfl, .inr ⟨by rw [HN.out]; omega, by rw [HN.out]; exact hi, HZ.out, .inl ⟨HN.out.symm, rfl⟩⟩, hB⟩

end Go.Proofs.YticcphppnmoogaaDoor
