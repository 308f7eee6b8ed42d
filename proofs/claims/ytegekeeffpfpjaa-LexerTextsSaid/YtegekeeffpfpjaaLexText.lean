/-
  The contract of Text.
-/
import Derived.Test.YtegekeeffpfpjaaLexWords
import Derived.Test.YtegekeeffpfpjaaLexBuild
namespace Go.Proofs.Ytegekeeffpfpjaa
open Go.RowKit

theorem builder_alloc {B b : Nat} {bs : List Value} {w : World} (h : Lib.IsBuilder 55 5 B b bs w) (o : Obj) : Lib.IsBuilder 55 5 B b bs (w.alloc o) := by
  rcases h with ⟨hB, v, hb, hown, hne⟩ | ⟨hB, v, hb, hown, hne⟩
  · exact .inl ⟨hB, v, (Lib.alloc_old w o b (block_in hb)).trans hb, hown.alloc _, hne⟩
  · exact .inr ⟨hB, v, (Lib.alloc_old w o b (block_in hb)).trans hb, hown.alloc _, hne⟩
theorem builder_new (w : World) : Lib.IsBuilder 55 5 w.heap.size w.heap.size [] (w.alloc (.cells #[.pointer none, .slice none 0 0] 55)) :=
  .inl ⟨Nat.le_refl _, .slice none 0 0, heap_alloc_new w _, World.ownsRow_nil _ _ _ _, by simp [Value.ownBlock]⟩
theorem blk_others {w w' : World} {b g : Nat} {t : TypeId} {cs : Array Value} (h : Lib.OthersKept 5 (some b) w w') (hB : Blk w g t cs) (hg : g ≠ b) (ht : t ≠ 5) : Blk w' g t cs :=
  h g _ hB (fun e => hg (Option.some.inj e)) (fun c fz e => ht (by injection e))
def spB (l : List (List UInt8)) : Bool := decide (sepT l ≠ [])
theorem sepT_eq (l : List (List UInt8)) : sepT l = if spB l = true then [32] else [] := by
  unfold spB sepT
  split
  · simp
  · rename_i p h
    by_cases q : p = [59] <;> simp [q]
theorem spB_last {l : List (List UInt8)} (x : List UInt8) : spB (l ++ [x]) = !(x == [59]) := by
  have e : (l ++ [x]).getLast? = some x := by simp
  unfold spB sepT
  rw [e]
  by_cases q : x = [59] <;> simp [q]
theorem text_step (l : List Tok) (t : Tok) : textG (txtT (l ++ [t])) = textG (txtT l) ++ (sepT (txtT l) ++ (t.2.1 ++ endT t.2.1)) := by
  have e : txtT (l ++ [t]) = txtT l ++ [t.2.1] := by simp [txtT]
  rw [e, textG_snoc]
theorem flat_take_le (l : List (List UInt8)) (i : Nat) : (l.take i).flatten.length ≤ l.flatten.length := by
  conv => rhs; rw [← List.take_append_drop i l]
  rw [List.flatten_append, List.length_append]; omega

set_option maxRecDepth 100000 in
set_option maxHeartbeats 2000000 in
theorem Text_any (A : Option Addr) (c n : Nat) (l : List Tok) (w : World) (hn : l.length = n) (h1 : Toks w A l) (hm : n ≤ 1000) (hsum : (txtT l).flatten.length ≤ 100000) :
    Calls Try.prog 10 #[.slice A n c] w fun e w' => e = .returned (.string ⟨(textG (txtT l)).toArray⟩) ∧ Below w.heap.size w w' := by
  have HN := hide hn
  have HT := hide h1
  have hlen : ∀ i, (Lib.byteCells (textG (txtT (l.take i)))).length ≤ 110000 := fun i => by
    have h2 := textG_len (txtT (l.take i))
    have h3 := flat_take_le (txtT l) i
    have e : txtT (l.take i) = (txtT l).take i := by simp [txtT, List.map_take]
    have h4 : (txtT (l.take i)).length ≤ n := by rw [txtT_len, List.length_take]; omega
    rw [Lib.byteCells_length]
    rw [e] at h2 h4 ⊢
    omega
  have HLEN := hide hlen
  have hsum2 : ∀ t ∈ l, t.2.1.length ≤ 100000 := fun t ht => by
    have : t.2.1.length ≤ (txtT l).flatten.length := by
      obtain ⟨a, b, rfl⟩ := List.append_of_mem ht
      simp [txtT]; omega
    omega
  have HSUM := hide hsum2
  clear hn h1 hlen hsum hsum2
  go_enter Try.func10, Try.ntmps10
  go_wp2_with fail
  go_loopw [8] (fun v8 wr => ∃ i : Nat, i ≤ n ∧ v8 = .int .i64 i ∧ Lib.IsBuilder 55 5 w.heap.size w.heap.size (Lib.byteCells (textG (txtT (l.take i)))) wr ∧ Below w.heap.size w wr) (fun v8 _ => n - (intOf v8).toNat)
  case atStart => exact ⟨0, by omega, rfl, builder_new w, below_al (Below.refl _ _) _⟩
  case round =>
    obtain ⟨i, hi, rfl, hbu, hB⟩ := hrel
    by_cases hlt : i < n
    · obtain ⟨t, ht, htk, htx⟩ := tok_get HN.out hlt
      obtain ⟨g1, rfl, hg1, hc1⟩ := HT.out (by intro e; rw [e] at ht; simp at ht)
      obtain ⟨x0, x1, x2⟩ := cellsT_at ht
      have q0 := (hB.cell (p := ⟨g1, i * 3, none⟩) hg1).trans (hc1 _ _ x0)
      have q1 := (hB.cell (p := ⟨g1, i * 3 + 1, none⟩) hg1).trans (hc1 _ _ x1)
      have q2 := (hB.cell (p := ⟨g1, i * 3 + 2, none⟩) hg1).trans (hc1 _ _ x2)
      have hts := text_step (l.take i) t
      rw [← htk] at hts
      have HTS := hide hts
      have HTL := hide (HSUM.out t (List.mem_of_getElem? ht))
      obtain ⟨tk, ttx, tl⟩ := t
      dsimp only at q0 q1 q2 HTS HTL
      clear ht htk htx x0 x1 x2 hts
      go_upto_region 5 with fail
      obtain ⟨W, hW⟩ : ∃ W, wr.alloc (.cells #[.int .i64 tk, .string ⟨ttx.toArray⟩, .int .i64 tl] 28) = W := ⟨_, rfl⟩
      have hbuW := builder_alloc hbu (.cells #[.int .i64 tk, .string ⟨ttx.toArray⟩, .int .i64 tl] 28)
      have hBW := below_al hB (.cells #[.int .i64 tk, .string ⟨ttx.toArray⟩, .int .i64 tl] 28)
      have hbt := Blk.new wr 28 #[.int .i64 tk, .string ⟨ttx.toArray⟩, .int .i64 tl]
      have hbb : w.heap.size < wr.heap.size := by
        rcases hbu with ⟨_, v, hb, _⟩ | ⟨_, v, hb, _⟩
        · exact block_in hb
        · exact block_in hb
      rw [hW] at hbuW hBW hbt ⊢
      clear hW hbu q0 q1 q2
      go_cut [23] (fun v23 wx => v23 = .bool (spB (txtT (l.take i))) ∧ wx = W)
      case first =>
        by_cases hi0 : i = 0
        · subst hi0
          go_wp2_with fail
          go_meet
          exact ⟨rfl, rfl⟩
        · obtain ⟨j, rfl⟩ : ∃ j, i = j + 1 := ⟨i - 1, by omega⟩
          obtain ⟨p, hp, hpk, -⟩ := tok_get HN.out (show j < n by omega)
          obtain ⟨-, y1, -⟩ := cellsT_at hp
          have r1W : W.cell? ⟨g1, j * 3 + 1, none⟩ = some (.string ⟨p.2.1.toArray⟩) := (hBW.cell (p := ⟨g1, j * 3 + 1, none⟩) hg1).trans (hc1 _ _ y1)
          have hsp : spB (txtT (l.take (j + 1))) = !(p.2.1 == [59]) := by
            rw [hpk]
            have e : txtT (l.take j ++ [p]) = txtT (l.take j) ++ [p.2.1] := by simp [txtT]
            rw [e]; exact spB_last _
          have HSP := hide hsp
          clear hp hpk y1 hsp hc1
          obtain ⟨pk, ptx, pl⟩ := p
          dsimp only at r1W HSP
          go_wp2_with fail
          go_meet
          exact ⟨by rw [HSP.out], rfl⟩
      case rest =>
        obtain ⟨rfl, rfl⟩ := hcut
        clear hc1 hg1
        have hL := HLEN.out i
        obtain ⟨X, hX⟩ : ∃ X, textG (txtT (l.take i)) = X := ⟨_, rfl⟩
        rw [hX] at hbuW hL
        have HX := hide hX
        clear hX
        have hse := sepT_eq (txtT (l.take i))
        obtain ⟨b, hb⟩ : ∃ b, spB (txtT (l.take i)) = b := ⟨_, rfl⟩
        rw [hb] at hse ⊢
        have HSE := hide hse
        clear hb hse
        go_upto_if 23 with fail
        go_cut [8] (fun v8 wx => v8 = .int .i64 i ∧ Lib.IsBuilder 55 5 w.heap.size w.heap.size (Lib.byteCells (X ++ sepT (txtT (l.take i)))) wx ∧ Below w.heap.size w wx ∧ Blk wx wr.heap.size 28 #[.int .i64 tk, .string ⟨ttx.toArray⟩, .int .i64 tl])
        case first =>
          cases b
          · go_wp2_with fail
            go_meet
            exact ⟨rfl, by rw [HSE.out]; simpa using hbuW, hBW, hbt⟩
          · go_wp2_with fail
            refine (wbyte_any w.heap.size w.heap.size _ 32 _ hbuW (by omega) hBW.size).mono ?_
            rintro e w2 ⟨rfl, hb2, hB2, hK2⟩
            have hbt2 := blk_others hK2 hbt (by omega) (by decide)
            have hE2 := hBW.trans hB2
            go_wp2_with fail
            go_meet
            exact ⟨rfl, by rw [HSE.out]; exact .inr (by rw [Lib.byteCells_append]; exact hb2), hE2, hbt2⟩
        case rest =>
          obtain ⟨rfl, hbu3, hB3, hbt3⟩ := hcut
          clear hbuW hBW hbt
          have q1 : wc.cell? ⟨wr.heap.size, 1, none⟩ = some (.string ⟨ttx.toArray⟩) := hbt3.cell 1
          have hsl : (sepT (txtT (l.take i))).length ≤ 1 := by rw [HSE.out]; split <;> simp
          rw [Lib.byteCells_length] at hL
          have htl := HTL.out
          have hz : (⟨ttx.toArray⟩ : ByteArray).size = ttx.length := by show ttx.toArray.size = _; simp
          go_wp2_with fail
          refine (wstring_any w.heap.size w.heap.size _ ⟨ttx.toArray⟩ _ hbu3 (by rw [Lib.byteCells_length, List.length_append, hz]; omega) hB3.size).mono ?_
          rintro e w4 ⟨rfl, hb4, hB4, hK4⟩
          have hbt4 := blk_others hK4 hbt3 (by omega) (by decide)
          have hE4 := hB3.trans hB4
          have q14 : w4.cell? ⟨wr.heap.size, 1, none⟩ = some (.string ⟨ttx.toArray⟩) := hbt4.cell 1
          have hb4' : Lib.IsBuilder 55 5 w.heap.size w.heap.size (Lib.byteCells (X ++ (sepT (txtT (l.take i)) ++ ttx))) w4 := .inr (by
            rw [← List.append_assoc, Lib.byteCells_append (X ++ sepT (txtT (l.take i)))]; exact hb4)
          clear hbu3 hbt3 q1 hb4 hK4
          have hts := HTS.out
          rw [HX.out] at hts
          have hen : endT ttx = if (ttx == [59]) = true then [10] else [] := by unfold endT; by_cases q : ttx = [59] <;> simp [q]
          obtain ⟨b2, hb2⟩ : ∃ b2, (ttx == [59]) = b2 := ⟨_, rfl⟩
          rw [hb2] at hen
          cases b2
          · have hfin : Lib.IsBuilder 55 5 w.heap.size w.heap.size (Lib.byteCells (textG (txtT (l.take (i + 1))))) w4 := by
              rw [hts, hen]; simpa using hb4'
            clear hts hen hb4'
            go_wp2_with fail
            go_roundw
            case rel => exact ⟨i + 1, by omega, by go_num, hfin, hE4⟩
            case measure => simp [intOf]; omega
          · have HTS2 := hide hts
            have hen' : endT ttx = [10] := hen
            have HEN := hide hen'
            clear hts hen hen'
            go_wp2_with fail
            refine (wbyte_any w.heap.size w.heap.size _ 10 _ hb4' (by rw [Lib.byteCells_length, List.length_append, List.length_append]; omega) hE4.size).mono ?_
            rintro e w5 ⟨rfl, hb5, hB5, hK5⟩
            have hfin : Lib.IsBuilder 55 5 w.heap.size w.heap.size (Lib.byteCells (textG (txtT (l.take (i + 1))))) w5 := .inr (by
              have e1 : X ++ (sepT (txtT (l.take i)) ++ (ttx ++ [10])) = X ++ (sepT (txtT (l.take i)) ++ ttx) ++ [10] := by simp
              rw [HTS2.out, HEN.out, e1, Lib.byteCells_append]; exact hb5)
            have hE5 := hE4.trans hB5
            clear hb4' hb5 hK5 hbt4 q14
            go_wp2_with fail
            go_roundw
            case rel => exact ⟨i + 1, by omega, by go_num, hfin, hE5⟩
            case measure => simp [intOf]; omega
    · obtain rfl : i = n := by omega
      have hf : l.take i = l := by rw [← HN.out, List.take_length]
      rw [hf] at hbu
      go_wp2_with fail
      refine (string_any w.heap.size w.heap.size _ _ hbu hB.size).mono ?_
      rintro e w2 ⟨rfl, hB2⟩
      go_wp2_with fail
      go_ret
      exact ⟨rfl, hB.trans hB2⟩

end Go.Proofs.Ytegekeeffpfpjaa
