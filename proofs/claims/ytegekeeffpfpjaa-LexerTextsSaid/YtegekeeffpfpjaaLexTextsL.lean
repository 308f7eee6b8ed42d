/-
  The walk of the law LexerTexts.
-/
import Derived.Test.YtegekeeffpfpjaaLexOf
namespace Go.Proofs.Ytegekeeffpfpjaa
open Go.RowKit

theorem Tokens_w (s : ByteArray) (w : World) (hm : s.size ≤ 1000000) :
    Calls Try.prog 6 #[.string s] w fun e w' => ∃ (A : Option Addr) (c n E : Nat) (l : List Tok), e = .returned (.tuple #[.slice A l.length c, .int .i64 n, .int .i64 E]) ∧ Below w.heap.size w w' ∧ (s.size ≤ 8192 → TokV s E l) ∧
      w'.ownsRow (w.heap.size + 1) 28 3 (.slice A l.length c) l.length (cellsT l) := by
  by_cases h : s.size ≤ 8192
  · refine (Tokens_v s w h).mono ?_
    rintro e w' ⟨A, c, n, E, l, rfl, hB, hV, -, hown⟩
    exact ⟨A, c, n, E, l, rfl, hB, fun _ => hV, hown⟩
  · have h2 : (8192 : Int) < (s.size : Int) := by omega
    go_enter Try.func6, Try.ntmps6
    go_wp2_with fail
    go_ret3
    exact ⟨none, 0, 0, 2, [], rfl, Below.refl _ _, fun h3 => absurd h3 h, World.ownsRow_nil _ _ _ _⟩

theorem gap_ix0 (w : World) : (Instr.index 40 (.agg #[.string ⟨#[32]⟩, .string ⟨#[10]⟩, .string ⟨#[32, 35, 32, 97, 108, 108, 111, 119, 32, 100, 101, 110, 121, 32, 59, 10]⟩, .string ⟨#[9, 32, 10, 10]⟩]) (.int .u64 0)).run Try.prog w = .ok (.string ⟨(gapL 0).toArray⟩) w := by kernel_rfl
theorem gap_ix1 (w : World) : (Instr.index 40 (.agg #[.string ⟨#[32]⟩, .string ⟨#[10]⟩, .string ⟨#[32, 35, 32, 97, 108, 108, 111, 119, 32, 100, 101, 110, 121, 32, 59, 10]⟩, .string ⟨#[9, 32, 10, 10]⟩]) (.int .u64 1)).run Try.prog w = .ok (.string ⟨(gapL 1).toArray⟩) w := by kernel_rfl
theorem gap_ix2 (w : World) : (Instr.index 40 (.agg #[.string ⟨#[32]⟩, .string ⟨#[10]⟩, .string ⟨#[32, 35, 32, 97, 108, 108, 111, 119, 32, 100, 101, 110, 121, 32, 59, 10]⟩, .string ⟨#[9, 32, 10, 10]⟩]) (.int .u64 2)).run Try.prog w = .ok (.string ⟨(gapL 2).toArray⟩) w := by kernel_rfl
theorem gap_ix3 (w : World) : (Instr.index 40 (.agg #[.string ⟨#[32]⟩, .string ⟨#[10]⟩, .string ⟨#[32, 35, 32, 97, 108, 108, 111, 119, 32, 100, 101, 110, 121, 32, 59, 10]⟩, .string ⟨#[9, 32, 10, 10]⟩]) (.int .u64 3)).run Try.prog w = .ok (.string ⟨(gapL 3).toArray⟩) w := by kernel_rfl
theorem gap_index (k : Nat) (hk : k < 4) (w : World) : (Instr.index 40 (.agg #[.string ⟨#[32]⟩, .string ⟨#[10]⟩, .string ⟨#[32, 35, 32, 97, 108, 108, 111, 119, 32, 100, 101, 110, 121, 32, 59, 10]⟩, .string ⟨#[9, 32, 10, 10]⟩]) (.int .u64 (k : Int))).run Try.prog w = .ok (.string ⟨(gapL k).toArray⟩) w := by
  match k, hk with
  | 0, _ => exact gap_ix0 w
  | 1, _ => exact gap_ix1 w
  | 2, _ => exact gap_ix2 w
  | 3, _ => exact gap_ix3 w

set_option maxRecDepth 100000 in
set_option maxHeartbeats 4000000 in
theorem texts_walk (s0 : ByteArray) (gap : Int) (w : World) (hs0 : s0.size ≤ 9223372036854775807) :
    Calls Try.prog 5 #[.string s0, .int .i64 gap] w fun e w' => e = .returned (.bool true) ∧ Below w.heap.size w w' := by
  go_enter Try.func5, Try.ntmps5
  go_upto_region 1 with fail
  go_cut [0] (fun v0 wx => (∃ s : ByteArray, s.size ≤ 2000 ∧ v0 = .string s) ∧ wx = w)
  case first =>
    by_cases h : s0.size ≤ 2000
    · go_wp2_with fail
      go_meet
      exact ⟨⟨_, by simp; omega, rfl⟩, rfl⟩
    · have h' : ¬ (s0.size : Int) ≤ 2000 := by omega
      go_wp2_with fail
      go_meet
      exact ⟨⟨_, by simp; omega, rfl⟩, rfl⟩
  case rest =>
    obtain ⟨⟨s, hs, rfl⟩, rfl⟩ := hcut
    clear hs0
    go_wp2_with fail
    refine (Tokens_v s _ (by omega)).mono ?_
    rintro e w1 ⟨A1, c1, n1, E1, x, rfl, hB1, hV1, hx8, hown1⟩
    by_cases hE : E1 = 0
    · subst hE
      obtain ⟨-, hsum, -⟩ := tok_valid hV1
      obtain ⟨T1, -⟩ := toks_of_own hown1
      obtain ⟨m, hm⟩ : ∃ m, x.length = m := ⟨_, rfl⟩
      rw [hm] at hx8 ⊢
      have HM := hide hm
      have HV := hide hV1
      have HS := hide hsum
      clear hm hown1 hV1 hsum
      go_wp2_with fail
      refine (Text_any A1 c1 m x _ HM.out T1 (by omega) (by have := HS.out; omega)).mono ?_
      rintro e w2 ⟨rfl, hB2⟩
      have hE2 := below_tr hB1 hB2
      have T2 := T1.below hB2
      obtain ⟨tt, htt⟩ : ∃ tt : ByteArray, (⟨(textG (txtT x)).toArray⟩ : ByteArray) = tt := ⟨_, rfl⟩
      have htl : tt.data.toList = textG (txtT x) := by rw [← htt]
      have hts : tt.size ≤ 4000 := by
        have h1 := textG_len (txtT x)
        rw [txtT_len, HM.out] at h1
        have h2 := HS.out
        have h3 : tt.size = (textG (txtT x)).length := by rw [← htl]; simp
        omega
      rw [htt]
      have HTT := hide htt
      have HTL := hide htl
      clear htt htl T1 hB1
      go_wp2_with fail
      refine (Tokens_v tt _ (by omega)).mono ?_
      rintro e w3 ⟨A2, c2, n2, E2, y, rfl, hB3, hV2, hy8, hown2⟩
      obtain ⟨rfl, hyl, hsame, -, hyt⟩ := text_again HV.out HTL.out hV2
      obtain ⟨U3, -⟩ := toks_of_own hown2
      rw [HM.out] at hyl
      rw [hyl]
      have HYL := hide hyl
      have HSA := hide hsame
      have HYT := hide hyt
      have hE3 := below_tr hE2 hB3
      have T3 := T2.below hB3
      clear hV2 hy8 hown2 hyl hsame hyt T2 hE2 hB2
      go_wp2_with fail
      refine (Words_any A1 c1 m x _ HM.out T3 (by omega)).mono ?_
      rintro e w4 ⟨v4, rfl, hown4, hB4⟩
      obtain ⟨A4, c4, rfl⟩ := own_form hown4
      have hE4 := below_tr hE3 hB4
      have T4 := T3.below hB4
      have U4 := U3.below hB4
      clear T3 U3 hE3 hB3
      go_wp2_with fail
      have hcall := Same_any A1 A2 c1 c2 x y w4 T4 U4 (by rw [HM.out]; omega) (by rw [HM.out, HYL.out])
      rw [HM.out, HSA.out] at hcall
      refine hcall.mono ?_
      clear hcall
      rintro e w5 ⟨rfl, hB5⟩
      have hE5 := below_tr hE4 hB5
      have T5 := T4.below hB5
      have U5 := U4.below hB5
      clear T4 U4 hB4
      go_wp2_with fail
      have hcall := Text_any A2 c2 m y w5 HYL.out U5 (by omega) (by rw [HYT.out]; have := HS.out; omega)
      rw [HYT.out, HTT.out] at hcall
      refine hcall.mono ?_
      clear hcall
      rintro e w6 ⟨rfl, hB6⟩
      have hE6 := below_tr hE5 hB6
      have T6 := T5.below hB6
      clear T5 U5
      go_wp2_with fail
      refine (Of_any A1 c1 m x _ HM.out T6 (by omega)).mono ?_
      rintro e w7 ⟨v7, rfl, hown7, hB7⟩
      obtain ⟨A7, c7, rfl⟩ := own_form hown7
      obtain ⟨R7, -⟩ := toks_of_own hown7
      have hE7 := below_tr hE6 hB7
      have T7 := T6.below hB7
      clear T6 hown7
      go_wp2_with fail
      have hcall := RText_any A7 c7 m x w7 HM.out R7 (by omega) (by have := HS.out; omega)
      rw [HTT.out] at hcall
      refine hcall.mono ?_
      clear hcall
      rintro e w8 ⟨rfl, hB8⟩
      have hE8 := below_tr hE7 hB8
      have T8 := T7.below hB8
      have hown8 := own_below (own_below (own_below (own_below hown4 hB5) hB6) hB7) hB8
      clear T7 R7 hown4 hB5 hB6 hB7 hB8 hE4 hE5 hE6 hE7
      obtain ⟨k, hk, hk4⟩ : ∃ k : Nat, (IntKind.u64.wrap gap).tmod 4 = (k : Int) ∧ k < 4 := by
        have h0 : 0 ≤ IntKind.u64.wrap gap := by rw [IntKind.wrap_u64]; omega
        have h1 : (IntKind.u64.wrap gap).tmod 4 = (IntKind.u64.wrap gap) % 4 := by rw [Int.tmod_eq_emod_of_nonneg h0]
        exact ⟨((IntKind.u64.wrap gap) % 4).toNat, by rw [h1]; omega, by omega⟩
      go_upto_region 10 with fail
      go_cut [13] (fun v13 wx => v13 = .string ⟨(gapL k).toArray⟩ ∧ wx = w8)
      case first =>
        have hix := gap_index k hk4
        go_wp2_with fail
        go_meet
        exact ⟨rfl, rfl⟩
      case rest =>
        obtain ⟨rfl, rfl⟩ := hcut
        have hgb := gap_blank k
        have hgs := gap_starts k
        have hgl := gap_len k
        obtain ⟨g, hg⟩ : ∃ g, gapL k = g := ⟨_, rfl⟩
        rw [hg] at hgb hgs hgl ⊢
        have HGB := hide hgb
        have HGS := hide hgs
        clear hg hk hk4 hgb hgs
        have hz : ∀ x : List UInt8, (⟨x.toArray⟩ : ByteArray).size = x.length := fun x => by show x.toArray.size = _; simp
        have hwl : ∀ l : List (List UInt8), (wideG g l).length ≤ l.flatten.length + l.length * 16 := by
          intro l
          induction l with
          | nil => simp [wideG]
          | cons a l ih =>
            have e : wideG g (a :: l) = g ++ a ++ wideG g l := by simp [wideG]
            rw [e, List.length_append, List.length_append, List.flatten_cons, List.length_append, List.length_cons]
            omega
        have hwi : ∀ i, (wideG g ((txtT x).take i)).length ≤ 20000 := fun i => by
          have h1 := hwl ((txtT x).take i)
          have h2 := flat_take_le (txtT x) i
          have h3 : ((txtT x).take i).length ≤ m := by rw [List.length_take, txtT_len, HM.out]; omega
          have h4 := HS.out
          omega
        have HZ := hide hz
        have HWI := hide hwi
        have hs8 : ∀ t ∈ txtT x, t.length ≤ 2000 := fun t ht => by
          have : t.length ≤ (txtT x).flatten.length := by
            obtain ⟨a, b, e⟩ := List.append_of_mem ht
            rw [e]; simp; omega
          have h4 := HS.out
          omega
        have HS8 := hide hs8
        clear hz hwl hwi hs8
        obtain ⟨W, hW⟩ : ∃ W, W = wc := ⟨_, rfl⟩
        subst hW
        go_wp2_with fail
        go_loopw [14, 15] (fun v14 v15 wr => ∃ i : Nat, i ≤ m ∧ v15 = .int .i64 i ∧ v14 = .string ⟨(wideG g ((txtT x).take i)).toArray⟩ ∧ Below W.heap.size W wr) (fun _ v15 _ => m - (intOf v15).toNat)
        case atStart => exact ⟨0, by omega, rfl, rfl, Below.refl _ _⟩
        case round =>
          obtain ⟨i, hi, rfl, rfl, hBi⟩ := hrel
          by_cases hlt : i < m
          · obtain ⟨t, ht, -, htx⟩ := tok_get HM.out hlt
            obtain ⟨g1, hA1, hg1, hc1⟩ := T8 (by intro e; rw [e] at ht; simp at ht)
            subst hA1
            obtain ⟨-, x1, -⟩ := cellsT_at ht
            have q1 := (hBi.cell (p := ⟨g1, i * 3 + 1, none⟩) hg1).trans (hc1 _ _ x1)
            obtain ⟨g4, c4', hA4, -, hg4, hc4⟩ := own_cells hown8 (by omega)
            injection hA4 with hA4 _ hc4e
            subst hA4
            have q4 : wr.cell? ⟨g4, i, none⟩ = some (.string ⟨t.2.1.toArray⟩) := (hBi.cell (p := ⟨g4, i, none⟩) hg4).trans (hc4 i _ (by simp [strL, htx]))
            have hwn : wideG g ((txtT x).take (i + 1)) = wideG g ((txtT x).take i) ++ (g ++ t.2.1) := by
              have e : (txtT x).take (i + 1) = (txtT x).take i ++ [t.2.1] := by
                obtain ⟨hlt2, e2⟩ := List.getElem?_eq_some_iff.1 htx
                rw [List.take_succ_eq_append_getElem hlt2, e2]
              rw [e, wideG_snoc]
            have hl8 := HS8.out t.2.1 (List.mem_of_getElem? htx)
            have hX8 := HWI.out i
            have HWN := hide hwn
            obtain ⟨tk, ttx, tl⟩ := t
            dsimp only at q1 q4 HWN hl8
            obtain ⟨X, hX⟩ : ∃ X, wideG g ((txtT x).take i) = X := ⟨_, rfl⟩
            rw [hX] at hX8 HWN ⊢
            have hy1 := HZ.out X
            have hy2 := HZ.out ttx
            have hy3 := HZ.out g
            clear ht htx hc1 x1 hc4 hwn hX hc4e
            go_wp2_with fail
            go_quiet (fail)
            go_wp2_with fail
            go_roundw
            case rel => exact ⟨i + 1, by omega, by go_num, by rw [HWN.out, ← List.append_assoc, ← mk_app, ← mk_app], below_drN hBi _⟩
            case measure => simp [intOf]; omega
          · have him : i = m := by omega
            have hft : (txtT x).take i = txtT x := by rw [him, ← HM.out, ← txtT_len, List.take_length]
            have hX8 := HWI.out i
            rw [hft] at hX8 ⊢
            clear him hft
            obtain ⟨X, hX⟩ : ∃ X, wideG g (txtT x) = X := ⟨_, rfl⟩
            rw [hX] at hX8 ⊢
            have hy1 := HZ.out X
            have hy3 := HZ.out g
            have hzl : ((⟨X.toArray⟩ : ByteArray) ++ ⟨g.toArray⟩).data.toList = wideG g (txtT x) ++ g := by rw [mk_app, hX]
            have hzs : ((⟨X.toArray⟩ : ByteArray) ++ ⟨g.toArray⟩).size = X.length + g.length := by rw [mk_app, HZ.out, List.length_append]
            have HZL := hide hzl
            have HZS := hide hzs
            have hEi := below_tr hE8 hBi
            have T9 := T8.below hBi
            clear hzl hzs hX hown8 T8 hE8 hBi
            go_wp2_with fail
            refine (Tokens_w _ _ (by have := HZS.out; omega)).mono ?_
            rintro e w9 ⟨A3, c3, n3, E3, y3, rfl, hB9, hV9, hown9⟩
            have hE9 := below_tr hEi hB9
            have T10 := T9.below hB9
            clear T9 hEi
            by_cases hlong : X.length ≤ 8000
            · obtain ⟨rfl, hyl, -, hsame, -⟩ := wide_again g HGB.out HGS.out HV.out HZL.out (hV9 (by rw [HZS.out]; omega))
              obtain ⟨U9, -⟩ := toks_of_own hown9
              rw [HM.out] at hyl
              rw [hyl]
              have HYL3 := hide hyl
              have HSA3 := hide hsame
              clear hyl hsame hown9 hV9
              have hl2 : ¬ (8000 : Int) < (X.length : Int) := by omega
              go_wp2_with fail
              refine (known_any _).mono ?_
              rintro e w11 ⟨rfl, hB11⟩
              have hE11 := below_tr hE9 hB11
              have T11 := T10.below hB11
              have U11 := U9.below hB11
              go_wp2_with fail
              have hcall := Same_any A3 A1 c3 c1 y3 x w11 U11 T11 (by rw [HYL3.out]; omega) (by rw [HM.out, HYL3.out])
              rw [HYL3.out, HSA3.out] at hcall
              refine hcall.mono ?_
              clear hcall
              rintro e w12 ⟨rfl, hB12⟩
              have hE12 := below_tr hE11 hB12
              go_wp2_with fail
              go_ret
              exact ⟨rfl, hE12⟩
            · have hl2 : (8000 : Int) < (X.length : Int) := by omega
              clear hV9 hown9
              go_wp2_with fail
              refine (known_any _).mono ?_
              rintro e w11 ⟨rfl, hB11⟩
              have hE11 := below_tr hE9 hB11
              go_wp2_with fail
              go_ret
              exact ⟨rfl, hE11⟩
    · obtain ⟨rfl⟩ : x = [] := by
        rcases hV1 with ⟨h, _⟩ | ⟨_, h, _⟩
        · exact absurd h hE
        · exact h
      have hE' : ((E1 : Int) != 0) = true := by simp; omega
      clear hV1 hx8 hown1
      go_wp2_with fail
      refine (known_any _).mono ?_
      rintro e w2 ⟨rfl, hB2⟩
      go_wp2_with fail
      go_ret
      exact ⟨rfl, below_tr hB1 hB2⟩

end Go.Proofs.Ytegekeeffpfpjaa
