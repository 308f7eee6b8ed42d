/-
  The walk of the law LexerLines.
-/
import Derived.Test.YtegekeeffpfpjaaLexLinesQ
import Derived.Test.YtegekeeffpfpjaaLexKnown
namespace Go.Proofs.Ytegekeeffpfpjaa
open Go.RowKit

theorem tok_err : ∀ (f : Nat) (l : List UInt8) (ln : Nat), l.length < f → ((tokF f l ln).2.1 = 2 ∨ (tokF f l ln).2.1 = 3 ∨ (tokF f l ln).2.1 = 4) := by
  intro f
  induction f with
  | zero => intro l ln h; omega
  | succ f ih =>
    intro l ln hf
    obtain ⟨pre, h1, h2⟩ := skip_split l false ln
    unfold tokF
    split
    · simp
    split
    · simp
    split
    · simp
    · rename_i q0 q1 q2
      have hlen := congrArg List.length h1
      have hr : 0 < (skipL false l ln).1.length := List.length_pos_iff.2 q0
      rw [List.length_append] at hlen
      exact ih ((skipL false l ln).1.drop (sizeL (skipL false l ln).1).1) (skipL false l ln).2 (by rw [List.length_drop]; omega)

theorem cellsT_at {l : List Tok} {i : Nat} {t : Tok} (h : l[i]? = some t) : (cellsT l)[3 * i]? = some (.int .i64 t.1) ∧ (cellsT l)[3 * i + 1]? = some (.string ⟨t.2.1.toArray⟩) ∧ (cellsT l)[3 * i + 2]? = some (.int .i64 t.2.2) := by
  induction l generalizing i with
  | nil => simp at h
  | cons x l ih =>
    cases i with
    | zero => simp at h; subst h; exact ⟨rfl, rfl, rfl⟩
    | succ i =>
      simp at h
      obtain ⟨h1, h2, h3⟩ := ih h
      have e : cellsT (x :: l) = [.int .i64 x.1, .string ⟨x.2.1.toArray⟩, .int .i64 x.2.2] ++ cellsT l := rfl
      rw [e, List.getElem?_append_right (by simp; omega), List.getElem?_append_right (by simp; omega), List.getElem?_append_right (by simp; omega)]
      refine ⟨?_, ?_, ?_⟩
      · rw [← h1]; congr 1
      · rw [← h2]; congr 1
      · rw [← h3]; congr 1

theorem nl_step {s : ByteArray} {i : Nat} (h : i < s.size) : nlc (s.data.toList.take (i + 1)) = nlc (s.data.toList.take i) + if (((s[i].toNat : Nat) : Int) == 10) = true then 1 else 0 := by
  rw [nl_take_add, drop_at s i h, List.take_succ_cons, List.take_zero, nlc_cons]; simp [nlc]

theorem slice_sub (s : ByteArray) (a b n : Nat) (T : ByteArray) (hn : n ≤ b) (h : a + b ≤ s.size) (hT : s.extract (a + b - n) (a + b) = T) (w : World) :
    (Instr.slice 9 (.string s) (some (.int .i64 ((a : Int) + (b : Int) - (n : Int)))) (some (.int .i64 ((a : Int) + (b : Int)))) none).run Try.prog w = .ok (.string T) w := by
  rw [run_slice_string_if w 9 s .i64 .i64 ((a : Int) + (b : Int) - (n : Int)) ((a : Int) + (b : Int)) Try.underlying9, if_pos ⟨by omega, by omega⟩, if_pos ⟨by omega, by omega⟩]
  have e : ((a : Int) + (b : Int)).toNat = a + b := by omega
  have e2 : ((a : Int) + (b : Int) - (n : Int)).toNat = a + b - n := by omega
  rw [e, e2, hT]

set_option maxRecDepth 100000 in
set_option maxHeartbeats 8000000 in
theorem lines_walk (s0 : ByteArray) (w : World) (hs0 : s0.size ≤ 9223372036854775807) :
    Calls Try.prog 3 #[.string s0] w fun e w' => e = .returned (.bool true) ∧ Below w.heap.size w w' := by
  go_enter Try.func3, Try.ntmps3
  go_upto_region 1 with fail
  go_cut [0] (fun v0 wx => (∃ s : ByteArray, s.size ≤ 2000 ∧ v0 = .string s) ∧ wx = w)
  case first =>
    by_cases h : s0.size ≤ 2000
    · go_wp2
      go_meet
      exact ⟨⟨_, by simp; omega, rfl⟩, rfl⟩
    · have h' : ¬ (s0.size : Int) ≤ 2000 := by omega
      go_wp2
      go_meet
      exact ⟨⟨_, by simp; omega, rfl⟩, rfl⟩
  case rest =>
    obtain ⟨⟨s, hs, rfl⟩, rfl⟩ := hcut
    clear hs0
    go_wp2_with fail
    refine (Tokens_any s _ (by omega)).mono ?_
    rintro e w1 ⟨hB, hc⟩
    obtain ⟨R, hR⟩ : ∃ R, tokF (s.size + 1) s.data.toList 1 = R := ⟨_, rfl⟩
    rw [hR] at hc
    have hl := tok_lines (s.size + 1) s.data.toList 1 (by simp)
    have he := tok_err (s.size + 1) s.data.toList 1 (by simp)
    rw [hR] at hl he
    have HRR := hide hR
    clear hR
    rcases hc with ⟨q1, q2, v, rfl, hown⟩ | ⟨q1, q2, rfl⟩ | ⟨t, q1, rfl⟩
    · obtain ⟨A, c, rfl⟩ := own_form hown
      obtain ⟨x, hx⟩ : ∃ x, R.2.2 = x := ⟨_, rfl⟩
      have hT0 : tokF (s.size + 1) (s.data.toList.drop 0) (1 + nlc (s.data.toList.take 0)) = (R.1, 4, x) := by
        rw [List.drop_zero, List.take_zero, nlc_nil, HRR.out, ← hx, ← q1]
      have HT0 := hide hT0
      obtain ⟨Ts, hTs⟩ : ∃ Ts, R.1 = Ts := ⟨_, rfl⟩
      rw [hTs] at hown q2 HT0 ⊢
      clear HRR hl he q1 hx hTs hT0
      go_wp2_with fail
      go_loop [6, 7] (fun v6 v7 => ∃ (i l : Nat), i ≤ s.size ∧ v7 = .int .i64 i ∧ v6 = .int .i64 l ∧ l ≤ 1 + i) (fun _ v7 => s.size - (intOf v7).toNat)
      case atStart => exact ⟨0, 1, by omega, rfl, rfl, by omega⟩
      case round =>
        obtain ⟨i, l, h1, rfl, rfl, h2⟩ := hrel
        by_cases hlt : i < s.size
        · cases e10 : (((s[i].toNat : Nat) : Int) == 10)
          · go_wp2_with fail
            go_round
            case rel => exact ⟨i + 1, l, by omega, by go_num, rfl, by omega⟩
            case measure => simp [intOf]; omega
          · go_wp2_with fail
            go_round
            case rel => exact ⟨i + 1, l + 1, by omega, by go_num, by go_num, by omega⟩
            case measure => simp [intOf]; omega
        · go_wp2_with fail
          go_loopw [8, 9] (fun v8 v9 wr => ∃ (i a f : Nat) (rest : List Tok), a ≤ s.size ∧ s.size < a + (f + 1) ∧ Ts.length = i + rest.length ∧ Hid (Ts.drop i = rest) ∧
              Hid (tokF (f + 1) (s.data.toList.drop a) (1 + nlc (s.data.toList.take a)) = (rest, 4, x)) ∧ v8 = .int .i64 a ∧ v9 = .int .i64 i ∧ Below w1.heap.size w1 wr) (fun _ v9 _ => Ts.length - (intOf v9).toNat)
          case atStart => exact ⟨0, 0, s.size, Ts, by omega, by omega, by omega, rfl, HT0, rfl, rfl, Below.refl _ _⟩
          case round =>
            obtain ⟨i, a, f, rest, g1, g2, g3, HD, HT, rfl, rfl, hBr⟩ := hrel
            cases rest with
            | nil =>
              have hi : ¬ i < Ts.length := by rw [g3]; simp
              have hi2 : ¬ (i : Int) < (Ts.length : Int) := by omega
              go_wp2_with fail
              refine (Next_any (s.extract a s.size) _ (by simp; omega)).mono ?_
              rintro e w2 ⟨K, T, L, err, a2, l2, hN, rfl, hB2⟩
              obtain rfl := lines_end HT.out hN
              go_wp2_with fail
              refine (known_any _).mono ?_
              rintro e w3 ⟨rfl, hk⟩
              go_wp2_with fail
              go_ret
              exact ⟨rfl, below_tr (below_al (below_tr (below_tr hB hBr) hB2) _) hk⟩
            | cons t rest =>
              have hti : Ts[i]? = some t := by
                have := congrArg (fun l => l[0]?) HD.out
                rw [List.getElem?_drop] at this
                exact this
              have hi : i < Ts.length := by rw [g3]; simp
              have hownr := hown.kept (only_below (only_refl w1 none) hBr) (Classical.em _)
              obtain ⟨gb, cb, hA, hgb, hgl, hcell⟩ := own_cells hownr (by omega)
              injection hA with hA hn hc
              subst hA hc
              clear hn
              clear hownr
              have G3 := hide g3
              clear g3
              obtain ⟨k0, k1, k2⟩ := cellsT_at hti
              rw [Nat.mul_comm] at k0 k1 k2
              have c0 := hcell _ _ k0
              have c1 := hcell _ _ k1
              have c2 := hcell _ _ k2
              clear hcell k0 k1 k2 hti
              go_wp2_with fail
              refine (Next_any (s.extract a s.size) _ (by simp; omega)).mono ?_
              rintro e w2 ⟨K, T, L, err, a2, l2, hN, rfl, hB2⟩
              obtain ⟨rfl, rfl, rfl, e4, e5, e6, e7, e8, e9⟩ := lines_step g1 HT.out hN
              have hltw : gb < w2.heap.size := Nat.lt_of_lt_of_le hgl hB2.size
              have d0 := (hB2.cell (p := ⟨gb, i * 3, none⟩) hgl).trans c0
              have d1 := (hB2.cell (p := ⟨gb, i * 3 + 1, none⟩) hgl).trans c1
              have d2 := (hB2.cell (p := ⟨gb, i * 3 + 2, none⟩) hgl).trans c2
              obtain ⟨f, rfl⟩ : ∃ f', f = f' + 1 := ⟨f - 1, by omega⟩
              have E4 : t.2.2 = 1 + nlc (s.data.toList.take (a + a2)) := by rw [nl_take_add]; omega
              have HD2 : Hid (Ts.drop (i + 1) = rest) := by
                have := congrArg (List.drop 1) HD.out
                rw [List.drop_drop] at this
                exact hide this
              have HT2 : Hid (tokF (f + 1) (s.data.toList.drop (a + a2)) (1 + nlc (s.data.toList.take (a + a2))) = (rest, 4, x)) := by
                rw [← E4]
                exact hide e9
              have HE4 := hide E4
              clear c0 c1 c2 HT HD e4 e9 hN E4
              have hlt2 : decide ((a2 : Int) < (t.2.1.length : Int)) = false := by rw [decide_eq_false_iff_not]; omega
              have hw1 : IntKind.i64.wrap ((a : Int) + (a2 : Int)) = (a : Int) + (a2 : Int) := IntWalk.i64_in _ (by omega)
              have hw2 : IntKind.i64.wrap ((a : Int) + (a2 : Int) - (t.2.1.length : Int)) = (a : Int) + (a2 : Int) - (t.2.1.length : Int) := IntWalk.i64_in _ (by omega)
              have hsl := slice_sub s a a2 t.2.1.length ⟨t.2.1.toArray⟩ e5 e7 e8
              go_wp2_with fail
              go_quiet (fail)
              clear hw2 hsl hlt2 d0 d1 e8
              go_wp2_with fail
              go_loop [13, 14] (fun v13 v14 => ∃ (k l : Nat), k ≤ a + a2 ∧ v14 = .int .i64 k ∧ v13 = .int .i64 l ∧ l ≤ 1 + k ∧ Hid (l = 1 + nlc (s.data.toList.take k))) (fun _ v14 => a + a2 - (intOf v14).toNat)
              case atStart => exact ⟨0, 1, by omega, rfl, rfl, by omega, rfl⟩
              case round =>
                obtain ⟨k, l, p1, rfl, rfl, p2, HL⟩ := hrel
                by_cases hk : k < a + a2
                · have hks : k < s.size := by omega
                  have hki : (k : Int) < (a : Int) + (a2 : Int) := by omega
                  have HS := hide (nl_step hks)
                  cases e10 : (((s[k].toNat : Nat) : Int) == 10)
                  · go_wp2_with fail
                    go_round
                    case rel => exact ⟨k + 1, l, by omega, by go_num, rfl, by omega, by rw [Hid, HS.out, e10, HL.out]; rfl⟩
                    case measure => simp [intOf]; omega
                  · go_wp2_with fail
                    go_round
                    case rel => exact ⟨k + 1, l + 1, by omega, by go_num, by go_num, by omega, by rw [Hid, HS.out, e10, HL.out]; rfl⟩
                    case measure => simp [intOf]; omega
                · have hki : ¬ (k : Int) < (a : Int) + (a2 : Int) := by omega
                  obtain rfl : l = t.2.2 := by rw [HL.out, HE4.out, show k = a + a2 from by omega]
                  go_wp2_with fail
                  go_roundw
                  case rel => exact ⟨i + 1, a + a2, f, rest, by omega, by omega, by have := G3.out; simp at this; omega, HD2, HT2, by go_num, by go_num, below_drN (below_al (below_tr hBr hB2) _) _⟩
                  case measure => simp [intOf]; omega
    · obtain ⟨E, hE⟩ : ∃ E, R.2.1 = E := ⟨_, rfl⟩
      obtain ⟨X, hX⟩ : ∃ X, R.2.2 = X := ⟨_, rfl⟩
      rw [hE] at he q1 ⊢
      rw [hX] at hl ⊢
      have hE0 : ((E : Int) != 0) = true := by rcases he with rfl | rfl | rfl <;> rfl
      have hX1 : (1 : Int) ≤ (X : Int) := by omega
      obtain ⟨NL, hNL⟩ : ∃ NL, nlc s.data.toList = NL := ⟨_, rfl⟩
      rw [hNL] at hl
      have hXl : X ≤ 1 + NL := hl.1.1
      have HN := hide hNL
      clear hl he q1 hE hX hNL
      go_wp2_with fail
      go_loop [6, 7] (fun v6 v7 => ∃ (i l : Nat), i ≤ s.size ∧ v7 = .int .i64 i ∧ v6 = .int .i64 l ∧ l ≤ 1 + i ∧ Hid (l = 1 + nlc (s.data.toList.take i))) (fun _ v7 => s.size - (intOf v7).toNat)
      case atStart => exact ⟨0, 1, by omega, rfl, rfl, by omega, rfl⟩
      case round =>
        obtain ⟨i, l, h1, rfl, rfl, h2, HL⟩ := hrel
        by_cases hlt : i < s.size
        · have HS := hide (nl_step hlt)
          cases e10 : (((s[i].toNat : Nat) : Int) == 10)
          · go_wp2_with fail
            go_round
            case rel => exact ⟨i + 1, l, by omega, by go_num, rfl, by omega, by rw [Hid, HS.out, e10, HL.out]; rfl⟩
            case measure => simp [intOf]; omega
          · go_wp2_with fail
            go_round
            case rel => exact ⟨i + 1, l + 1, by omega, by go_num, by go_num, by omega, by rw [Hid, HS.out, e10, HL.out]; rfl⟩
            case measure => simp [intOf]; omega
        · have hll : l = 1 + NL := by rw [HL.out, List.take_of_length_le (by simp; omega), HN.out]
          have hXle : (X : Int) ≤ (l : Int) := by omega
          clear hll
          go_wp2_with fail
          refine (known_any _).mono ?_
          rintro e w2 ⟨rfl, hk⟩
          go_wp2_with fail
          go_ret
          exact ⟨rfl, below_tr hB hk⟩
    · obtain ⟨X, hX⟩ : ∃ X, t.2.2 = X := ⟨_, rfl⟩
      have hl2 := hl.2 t (List.mem_of_getElem? q1)
      rw [hX] at hl2 ⊢
      have hE0 : ((6 : Int) != 0) = true := rfl
      have hX1 : (1 : Int) ≤ (X : Int) := by omega
      obtain ⟨NL, hNL⟩ : ∃ NL, nlc s.data.toList = NL := ⟨_, rfl⟩
      rw [hNL] at hl2
      have hXl : X ≤ 1 + NL := hl2.2
      have HN := hide hNL
      clear hl hl2 he q1 hX hNL
      go_wp2_with fail
      go_loop [6, 7] (fun v6 v7 => ∃ (i l : Nat), i ≤ s.size ∧ v7 = .int .i64 i ∧ v6 = .int .i64 l ∧ l ≤ 1 + i ∧ Hid (l = 1 + nlc (s.data.toList.take i))) (fun _ v7 => s.size - (intOf v7).toNat)
      case atStart => exact ⟨0, 1, by omega, rfl, rfl, by omega, rfl⟩
      case round =>
        obtain ⟨i, l, h1, rfl, rfl, h2, HL⟩ := hrel
        by_cases hlt : i < s.size
        · have HS := hide (nl_step hlt)
          cases e10 : (((s[i].toNat : Nat) : Int) == 10)
          · go_wp2_with fail
            go_round
            case rel => exact ⟨i + 1, l, by omega, by go_num, rfl, by omega, by rw [Hid, HS.out, e10, HL.out]; rfl⟩
            case measure => simp [intOf]; omega
          · go_wp2_with fail
            go_round
            case rel => exact ⟨i + 1, l + 1, by omega, by go_num, by go_num, by omega, by rw [Hid, HS.out, e10, HL.out]; rfl⟩
            case measure => simp [intOf]; omega
        · have hll : l = 1 + NL := by rw [HL.out, List.take_of_length_le (by simp; omega), HN.out]
          have hXle : (X : Int) ≤ (l : Int) := by omega
          clear hll
          go_wp2_with fail
          refine (known_any _).mono ?_
          rintro e w2 ⟨rfl, hk⟩
          go_wp2_with fail
          go_ret
          exact ⟨rfl, below_tr hB hk⟩

end Go.Proofs.Ytegekeeffpfpjaa
