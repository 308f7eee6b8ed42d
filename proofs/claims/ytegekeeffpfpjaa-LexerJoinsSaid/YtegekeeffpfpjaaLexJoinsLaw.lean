/-
  The walk of the law LexerJoins.
-/
import Derived.Test.YtegekeeffpfpjaaLexJoinP
import Derived.Test.YtegekeeffpfpjaaWordsF
namespace Go.Proofs.Ytegekeeffpfpjaa
open Go.RowKit

theorem toks_one : ∀ (l : List Tok) (u : Value), u ∈ cellsT l → u.oneCell' = true := by
  intro l
  induction l with
  | nil => intro u h; cases h
  | cons t l ih =>
    intro u h
    have e : cellsT (t :: l) = [.int .i64 t.1, .string ⟨t.2.1.toArray⟩, .int .i64 t.2.2] ++ cellsT l := rfl
    rw [e, List.mem_append] at h
    rcases h with h | h
    · simp at h; rcases h with rfl | rfl | rfl <;> rfl
    · exact ih u h

set_option maxRecDepth 100000 in
set_option maxHeartbeats 4000000 in
theorem joins_walk (a0 b0 : ByteArray) (w : World) (ha0 : a0.size ≤ 9223372036854775807) (hb0 : b0.size ≤ 9223372036854775807) :
    Calls Try.prog 4 #[.string a0, .string b0] w fun e w' => e = .returned (.bool true) ∧ Below w.heap.size w w' := by
  go_enter Try.func4, Try.ntmps4
  go_upto_region 1 with fail
  go_cut [0, 1] (fun v0 v1 wx => (∃ s : ByteArray, s.size ≤ 2000 ∧ v0 = .string s) ∧ (∃ s : ByteArray, s.size ≤ 2000 ∧ v1 = .string s) ∧ Below w.heap.size w wx)
  case first =>
    by_cases h : a0.size ≤ 2000 <;> by_cases h2 : b0.size ≤ 2000
    · go_quiet (fail)
      go_wp2_with fail
      go_meet
      exact ⟨⟨_, by simp; omega, rfl⟩, ⟨_, by simp; omega, rfl⟩, below_drN (Below.refl _ _) _⟩
    · have h2' : ¬ (b0.size : Int) ≤ 2000 := by omega
      go_quiet (fail)
      go_wp2_with fail
      go_meet
      exact ⟨⟨_, by simp; omega, rfl⟩, ⟨_, by simp; omega, rfl⟩, below_drN (Below.refl _ _) _⟩
    · have h' : ¬ (a0.size : Int) ≤ 2000 := by omega
      go_quiet (fail)
      go_wp2_with fail
      go_meet
      exact ⟨⟨_, by simp; omega, rfl⟩, ⟨_, by simp; omega, rfl⟩, below_drN (Below.refl _ _) _⟩
    · have h' : ¬ (a0.size : Int) ≤ 2000 := by omega
      have h2' : ¬ (b0.size : Int) ≤ 2000 := by omega
      go_quiet (fail)
      go_wp2_with fail
      go_meet
      exact ⟨⟨_, by simp; omega, rfl⟩, ⟨_, by simp; omega, rfl⟩, below_drN (Below.refl _ _) _⟩
  case rest =>
    obtain ⟨⟨a, ha, rfl⟩, ⟨b, hb, rfl⟩, hB0⟩ := hcut
    clear ha0 hb0
    go_wp2_with fail
    refine (Tokens_v a _ (by omega)).mono ?_
    rintro e w1 ⟨A1, c1, n1, E1, x, rfl, hB1, hV1, hx8, hown1⟩
    go_wp2_with fail
    refine (Tokens_v b _ (by omega)).mono ?_
    rintro e w2 ⟨A2, c2, n2, E2, y, rfl, hB2, hV2, hy8, hown2⟩
    go_wp2_with fail
    have hZ : (a ++ ⟨#[10]⟩ ++ b : ByteArray).data.toList = a.data.toList ++ 10 :: b.data.toList := by simp
    have hZs : (a ++ ⟨#[10]⟩ ++ b : ByteArray).size ≤ 8192 := by
      have := congrArg List.length hZ
      simp at this
      have h3 : (⟨#[10]⟩ : ByteArray).size = 1 := rfl
      simp; omega
    obtain ⟨z, hz⟩ : ∃ z, (a ++ ⟨#[10]⟩ ++ b : ByteArray) = z := ⟨_, rfl⟩
    rw [hz] at hZ hZs ⊢
    clear hz
    refine (Tokens_v z _ hZs).mono ?_
    rintro e w3 ⟨A3, c3, n3, E3, l, rfl, hB3, hV3, hl8, hown3⟩
    obtain ⟨hyes, hno⟩ := join_plain hZ hV1 hV2 hV3
    clear hZ hZs hV1 hV2 hV3
    by_cases hok : E1 = 0 ∧ E2 = 0 ∧ x.length + y.length ≤ 800
    · obtain ⟨rfl, rfl, hle⟩ := hok
      obtain ⟨rfl, hlen, hsame⟩ := hyes rfl rfl hle
      clear hyes hno
      have HL := hide hlen
      have HS := hide hsame
      clear hlen hsame
      go_wp2_with fail
      refine (known_any _).mono ?_
      rintro e w4 ⟨rfl, hB4⟩
      have hlt4 : w3.heap.size ≤ w4.heap.size := hB4.size
      obtain ⟨i0, hi0, hz0, hz1, hz2⟩ := info_parts tokInfo
      have R1 : Reads w4 w4.heap.size 3 A1 x.length (cellsT x) := ((Reads.of_own hown1).below hB2 |>.more hB2.size |>.below hB3 |>.more hB3.size |>.below hB4).more hB4.size
      have R2 : Reads w4 w4.heap.size 3 A2 y.length (cellsT y) := ((Reads.of_own hown2).below hB3 |>.more hB3.size |>.below hB4).more hB4.size
      obtain ⟨T3, -⟩ := toks_of_own hown3
      have T4 := T3.below hB4
      clear hown1 hown2 hown3 T3
      go_wp2_with (at_builtin; refine wpList_append_anyG _ rfl (.tmp 71) (.tmp 72) 22 rfl w4.heap.size 28 i0 zeroTok 3 32 Try.underlying22 hi0 hz0 hz1 hz2 rfl (by decide) _ _ _ rfl (own_empty w4 _ 3) w4.heap.size _ _ _ _ rfl (R1.alloc (Nat.le_refl _) _) (toks_one x) (by unfold maxLen; omega) (by omega) (by simp) ?_)
      intro v5 w5 own5 gr5 _
      have hB5 : Below w4.heap.size w4 w5 := (below_al (Below.refl w4.heap.size w4) _).grown gr5 (by simp) (fun q hq => by simp [Value.ownBlock] at hq; omega)
      have hge5 := fun q hq => own_ge own5 (g := q) hq
      have R5 := R2.below hB5
      clear R1 R2 gr5
      go_wp2_with (at_builtin; refine wpList_append_anyG _ rfl (.tmp 73) (.tmp 74) 22 rfl w4.heap.size 28 i0 zeroTok 3 32 Try.underlying22 hi0 hz0 hz1 hz2 rfl (by decide) _ _ _ rfl own5 w4.heap.size _ _ _ _ rfl R5 (toks_one y) (by unfold maxLen; omega) (by omega) hB5.size ?_)
      intro v6 w6 own6 gr6 _
      have hB6 : Below w4.heap.size w4 w6 := hB5.grown gr6 hB5.size hge5
      have T6 := T4.below hB6
      have own7 : w6.ownsRow w4.heap.size 28 3 v6 l.length (cellsT (x ++ y)) := by
        have e : cellsT (x ++ y) = cellsT x ++ cellsT y := by simp [cellsT]
        have hlen := HL.out
        rw [List.length_append] at hlen
        rw [e, hlen]; exact own6
      obtain ⟨A6, c6, rfl⟩ := own_form own7
      obtain ⟨T7, -⟩ := toks_of_own own7
      clear own5 own6 own7 gr6 hge5 R5 T4
      go_wp2_with fail
      refine (Same_any A3 A6 c3 c6 l (x ++ y) _ T6 T7 (by omega) HL.out).mono ?_
      rintro e w7 ⟨rfl, hB7⟩
      rw [HS.out]
      go_wp2_with fail
      go_ret
      exact ⟨rfl, below_tr (below_tr (below_tr (below_tr (below_tr hB0 hB1) hB2) hB3) hB4) (hB6.trans (hB7.mono hB6.size))⟩
    · have hE3 := hno (by omega)
      have hE3' : ((E3 : Int) != 0) = true := by simp; omega
      clear hyes hno
      by_cases hE1 : E1 = 0
      · subst hE1
        by_cases hE2 : E2 = 0
        · subst hE2
          have h8 : (800 : Int) < (x.length : Int) + (y.length : Int) := by omega
          clear hok
          go_wp2_with fail
          refine (known_any _).mono ?_
          rintro e w4 ⟨rfl, hB4⟩
          go_wp2_with fail
          go_ret
          exact ⟨rfl, below_tr (below_tr (below_tr (below_tr hB0 hB1) hB2) hB3) hB4⟩
        · have hE2' : ((E2 : Int) != 0) = true := by simp; omega
          clear hok
          go_wp2_with fail
          refine (known_any _).mono ?_
          rintro e w4 ⟨rfl, hB4⟩
          go_wp2_with fail
          go_ret
          exact ⟨rfl, below_tr (below_tr (below_tr (below_tr hB0 hB1) hB2) hB3) hB4⟩
      · have hE1' : ((E1 : Int) != 0) = true := by simp; omega
        clear hok
        go_wp2_with fail
        refine (known_any _).mono ?_
        rintro e w4 ⟨rfl, hB4⟩
        go_wp2_with fail
        go_ret
        exact ⟨rfl, below_tr (below_tr (below_tr (below_tr hB0 hB1) hB2) hB3) hB4⟩

end Go.Proofs.Ytegekeeffpfpjaa
