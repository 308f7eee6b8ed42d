/-
  The contract of Tokens.
-/
import Derived.Test.YtegekeeffpfpjaaLexTokP
namespace Go.Proofs.Ytegekeeffpfpjaa
open Go.RowKit

theorem tokInfo : (Try.prog.info? 28).map (fun i => (i.zero, i.size, i.bytes)) = some (some zeroTok, 3, 32) := by kernel_rfl

/-- What Tokens comes to. -/
def TokensPost (w : World) (s : ByteArray) (e : Ending) (w' : World) : Prop :=
  Below w.heap.size w w' ∧
    (((tokF (s.size + 1) s.data.toList 1).2.1 = 4 ∧ (tokF (s.size + 1) s.data.toList 1).1.length ≤ 800 ∧
        ∃ v, e = .returned (.tuple #[v, .int .i64 0, .int .i64 0]) ∧ w'.ownsRow (w.heap.size + 1) 28 3 v (tokF (s.size + 1) s.data.toList 1).1.length (cellsT (tokF (s.size + 1) s.data.toList 1).1)) ∨
     ((tokF (s.size + 1) s.data.toList 1).2.1 ≠ 4 ∧ (tokF (s.size + 1) s.data.toList 1).1.length ≤ 800 ∧
        e = .returned (.tuple #[.slice none 0 0, .int .i64 (tokF (s.size + 1) s.data.toList 1).2.2, .int .i64 (tokF (s.size + 1) s.data.toList 1).2.1])) ∨
     (∃ t : Tok, (tokF (s.size + 1) s.data.toList 1).1[800]? = some t ∧ e = .returned (.tuple #[.slice none 0 0, .int .i64 t.2.2, .int .i64 6])))

theorem own_form {w : World} {base : Nat} {e : TypeId} {size n : Nat} {v : Value} {xs : List Value} (h : w.ownsRow base e size v n xs) : ∃ A c, v = .slice A n c := by
  rcases h.2 with ⟨rfl, rfl⟩ | ⟨g', cap, cur, rfl, _⟩
  · exact ⟨none, 0, rfl⟩
  · exact ⟨_, cap, rfl⟩

set_option maxHeartbeats 4000000 in
theorem Tokens_any (s : ByteArray) (w : World) (hm : s.size ≤ 8192) :
    Calls Try.prog 6 #[.string s] w (TokensPost w s) := by
  obtain ⟨i0, hi0, hz0, hz1, hz2⟩ := info_parts tokInfo
  go_enter Try.func6, Try.ntmps6
  go_wp2_with fail
  have hRd : Rd (w.alloc (.cells #[.string s, .int .i64 (0 : Nat), .int .i64 (1 : Nat)] 47)) w.heap.size s 0 1 := Blk.new w _ _
  go_loopw [6] (fun v6 wr => ∃ (A : Option Addr) (c : Nat) (done : List Tok) (f a ln : Nat), a ≤ s.size ∧ ln ≤ 1 + a ∧ s.size < a + f ∧ done.length ≤ 800 ∧
      v6 = .slice A done.length c ∧ Hid (tokF (s.size + 1) s.data.toList 1 = (done ++ (tokF f (s.data.toList.drop a) ln).1, (tokF f (s.data.toList.drop a) ln).2)) ∧
      Rd wr w.heap.size s a ln ∧ wr.ownsRow (w.heap.size + 1) 28 3 (.slice A done.length c) done.length (cellsT done) ∧ Below w.heap.size w wr) (fun _ wr => s.size - posOf wr w.heap.size)
  case atStart => exact ⟨none, 0, [], s.size + 1, 0, 1, by omega, by omega, by omega, by simp, rfl, rfl, hRd, World.ownsRow_nil _ _ _ _, below_al (Below.refl _ _) _⟩
  case round =>
    obtain ⟨A, c, done, f, a, ln, h1, h2, h3, h4, rfl, HT, hR, hown, hB⟩ := hrel
    clear hRd
    obtain ⟨f, rfl⟩ : ∃ f', f = f' + 1 := ⟨f - 1, by omega⟩
    go_wp2_with fail
    refine (next_nx w.heap.size s a ln _ hR h1 (by omega) (by omega)).mono ?_
    rintro e w1 ⟨K, T, L, err, a2, l2, hN, rfl, hR1, hG⟩
    have hle := hN.le
    have hown1 := hown.kept hG (own_ne hown (by omega))
    have hB1 := below_only hB hG hB.size (Nat.le_refl _)
    clear hown hG hB
    rcases tok_step hN f with ⟨q1, q2, q3⟩ | ⟨rfl, qlt, k, t, rfl, rfl, rfl, q2⟩
    · have hR : tokF (s.size + 1) s.data.toList 1 = (done, err.toNat, l2) := by rw [HT.out, q2]; simp
      have HR := hide hR
      clear q2 hR hN
      obtain ⟨c0, c1, c2⟩ := Blk.c3 hR1
      have hlt1 : w.heap.size < w1.heap.size := Blk.lt hR1
      rcases q3 with rfl | rfl | rfl
      · go_wp2_with fail
        go_quiet (fail)
        go_wp2_with fail
        go_ret3
        refine ⟨below_drN (below_al hB1 _) _, .inr (.inl ?_)⟩
        rw [HR.out]
        exact ⟨by simp, h4, rfl⟩
      · go_wp2_with fail
        go_quiet (fail)
        go_wp2_with fail
        go_ret3
        refine ⟨below_drN (below_al hB1 _) _, .inr (.inl ?_)⟩
        rw [HR.out]
        exact ⟨by simp, h4, rfl⟩
      · go_wp2_with fail
        go_ret3
        refine ⟨below_al hB1 _, .inl ?_⟩
        rw [HR.out]
        exact ⟨rfl, h4, _, rfl, hown1.alloc _⟩
    · have HR := hide (HT.out.trans (by rw [q2]))
      clear q2 hN HT
      by_cases h800 : done.length = 800
      · have hL : ((done.length : Int) == 800) = true := by rw [h800]; rfl
        have H8 := hide h800
        clear h800
        go_wp2_with fail
        go_quiet (fail)
        go_wp2_with fail
        go_ret3
        refine ⟨below_drN (below_al hB1 _) _, .inr (.inr ⟨(k, t, l2), ?_, rfl⟩)⟩
        rw [HR.out]
        exact at_len _ _ _ _ H8.out
      · have hL : ((done.length : Int) == 800) = false := by simp; omega
        have hlt1 : w.heap.size < w1.heap.size := Blk.lt hR1
        have h5 : done.length < 800 := by omega
        clear h800 h4
        go_wp2_with (at_builtin; refine wpList_append_own _ rfl _ _ 22 rfl (w.heap.size + 1) 28 i0 zeroTok 3 32 Try.underlying22 hi0 hz0 hz1 hz2 rfl (by decide) _ _ _ rfl ((hown1.alloc _).alloc _) ⟨w1.heap.size + 1, 0, none⟩ 1 1 [.int .i64 k, .string ⟨t.toArray⟩, .int .i64 l2] rfl rfl ?c1 ?c2 ?c3 ?c4 ?c5 ?_)
        case c1 =>
          intro j u hj
          match j, hj with
          | 0, hj => simp at hj; subst hj; go_simp
          | 1, hj => simp at hj; subst hj; go_simp
          | 2, hj => simp at hj; subst hj; go_simp
        case c2 => intro u hu; simp at hu; rcases hu with rfl | rfl | rfl <;> rfl
        case c3 => unfold maxLen; omega
        case c4 => omega
        case c5 => simp; omega
        intro v' w2 hown2 hgrow _
        obtain ⟨A2, c2, rfl⟩ := own_form hown2
        have hne := own_ne (g := w.heap.size) hown2 (by omega)
        have hl : (done ++ [(k, t, l2)]).length = done.length + 1 := by simp
        have hR2 : Rd w2 w.heap.size s a2 l2 := (Blk.alloc (Blk.alloc hR1 _) _).grown hgrow (by rcases own_ne hown1 (g := w.heap.size) (by omega) with h | h <;> simp [h]; exact fun e => h e.symm)
        have hB2 : Below w.heap.size w w2 := (below_al (below_al hB1 _) _).grown hgrow (by simp; omega) (fun x hx => by have := own_ge hown1 hx; omega)
        go_wp2_with fail
        go_roundw
        case rel => exact ⟨A2, c2, done ++ [(k, t, l2)], f, a2, l2, by omega, by omega, by omega, by rw [hl]; omega, by rw [hl], by rw [HR.out]; simp [Hid], hR2, by rw [hl, cellsT_snoc]; exact hown2, hB2⟩
        case measure => exact meas hR hR2 qlt (by omega)

end Go.Proofs.Ytegekeeffpfpjaa
