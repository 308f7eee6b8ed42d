/-
  strings.IndexAny at blanks, for whatever text.
-/
import Derived.Test.YtigdfkpkogompaaDoorAsB
import Derived.Laws.RangeAny
import Derived.Laws.RangeString
import Derived.Laws.Runes
import Derived.Lib.OthersKept
import Derived.Deep.WholeRow
namespace Go.Proofs.YtigdfkpkogompaaDoor
open Go.RowKit
attribute [local go_sem ↓] Go.wp_at_zero Go.wp_at_succ

theorem get_bang (s : ByteArray) (i : Nat) (h : i < s.size) : s.get! i = s[i]'h := by
  unfold ByteArray.get!
  simp [ByteArray.getElem_eq_getElem_data, getElem!_pos, h]
theorem dec_hi (s : ByteArray) (pos : Nat) (hp : pos < s.size) (h : 128 ≤ (s[pos]'hp).toNat) :
    128 ≤ (Utf8.decode s pos).1 ∧ 1 ≤ (Utf8.decode s pos).2 ∧ ∀ j, j < (Utf8.decode s pos).2 → ∃ h : pos + j < s.size, 128 ≤ (s[pos + j]'h).toNat := by
  have e0 : (s.get! (pos + 0)).toNat = (s[pos]'hp).toNat := by rw [Nat.add_zero, get_bang s pos hp]
  have c0 : ∃ h : pos + 0 < s.size, 128 ≤ (s[pos + 0]'h).toNat := ⟨hp, h⟩
  have cc : ∀ k, (decide (pos + k < s.size) && (s.get! (pos + k)).toNat / 64 == 2) = true → ∃ h : pos + k < s.size, 128 ≤ (s[pos + k]'h).toNat := fun k hk => by
    simp only [Bool.and_eq_true, decide_eq_true_eq, beq_iff_eq] at hk
    refine ⟨hk.1, ?_⟩
    have := hk.2
    rw [get_bang s _ hk.1] at this
    omega
  have n0 : ¬ (s.get! (pos + 0)).toNat < 128 := by rw [e0]; omega
  unfold Utf8.decode
  simp only [n0, if_false]
  have one : ∀ j, j < 1 → ∃ h : pos + j < s.size, 128 ≤ (s[pos + j]'h).toNat := fun j hj => by
    obtain rfl : j = 0 := by omega
    exact c0
  split
  · rename_i h1
    simp only [Bool.and_eq_true] at h1
    split
    · rename_i h2
      refine ⟨h2, by simp, fun j hj => ?_⟩
      match j, hj with
      | 0, _ => exact c0
      | 1, _ => exact cc 1 (by simpa using h1.2)
    · exact ⟨by decide, by decide, one⟩
  · split
    · rename_i h1
      simp only [Bool.and_eq_true] at h1
      split
      · rename_i h2
        simp only [Bool.and_eq_true, decide_eq_true_eq] at h2
        refine ⟨by have := h2.1; omega, by simp, fun j hj => ?_⟩
        match j, hj with
        | 0, _ => exact c0
        | 1, _ => exact cc 1 (by simpa using h1.1.2)
        | 2, _ => exact cc 2 (by simpa using h1.2)
      · exact ⟨by decide, by decide, one⟩
    · split
      · rename_i h1
        simp only [Bool.and_eq_true] at h1
        split
        · rename_i h2
          simp only [Bool.and_eq_true, decide_eq_true_eq] at h2
          refine ⟨by have := h2.1; omega, by simp, fun j hj => ?_⟩
          match j, hj with
          | 0, _ => exact c0
          | 1, _ => exact cc 1 (by simpa using h1.1.1.2)
          | 2, _ => exact cc 2 (by simpa using h1.1.2)
          | 3, _ => exact cc 3 (by simpa using h1.2)
        · exact ⟨by decide, by decide, one⟩
      · exact ⟨by decide, by decide, one⟩

def blS : ByteArray := ⟨#[32, 9]⟩
set_option maxRecDepth 100000 in
set_option maxHeartbeats 4000000 in
theorem rune_none (r : Int) (w : World) (h0 : 128 ≤ r) (h1 : r ≤ 2147483647) :
    Calls Tryd.prog 56 #[.string ⟨#[32, 9]⟩, .int .i32 r] w fun e w' => e = .returned (.int .i64 (-1)) ∧ Below w.heap.size w w' := by
  have hr1 : (0 : Int) ≤ r := by omega
  have hr2 : ¬ r < 128 := by omega
  by_cases he : r = 65533
  · subst he
    go_enter Tryd.func56, Tryd.ntmps56
    go_wp2_with fail
    go_loopg [5, 6] 2 (fun q _ _ wr => ∃ i : Nat, i + q = 2 ∧ wr = w.iter blS i)
    case atStart => exact ⟨0, rfl, rfl⟩
    case round =>
      obtain ⟨i, hi, rfl⟩ := hrel
      have hsz : blS.size = 2 := rfl
      rcases (show i = 0 ∨ i = 1 ∨ i = 2 by omega) with rfl | rfl | rfl
      · have hnx := fun ty => run_next_ascii (P := Tryd.prog) w blS 0 ty (by decide) (by decide)
        go_wp2_with fail
        go_roundg 1
        case measure => omega
        case rel => exact ⟨1, rfl, rfl⟩
      · have hnx := fun ty => run_next_ascii (P := Tryd.prog) w blS 1 ty (by decide) (by decide)
        go_wp2_with fail
        go_roundg 0
        case measure => omega
        case rel => exact ⟨2, rfl, rfl⟩
      · have hnx := run_next_end (P := Tryd.prog) w blS 2
        go_wp2_with fail
        go_ret
        exact ⟨rfl, (Below.refl _ _).alloc (Nat.le_refl _) _⟩
  · have hne : (r == 65533) = false := beq_eq_false_iff_ne.2 he
    have HV := Sl.mk (fun W => utf8_ValidRune r W)
    cases hv : Lib.validRune r with
    | false =>
      rw [hv] at HV
      go_enter Tryd.func56, Tryd.ntmps56
      go_wp2_with fail
      refine (HV.out _).mono ?_
      rintro e w1 ⟨rfl, rfl⟩
      go_wp2_with fail
      go_ret
      exact ⟨rfl, Below.refl _ _⟩
    | true =>
      rw [hv] at HV
      have hv2 : Utf8.valid r = true := by
        unfold Lib.validRune at hv
        have := of_decide_eq_true hv
        unfold Utf8.valid
        simp
        omega
      obtain ⟨f1, f2, f3⟩ := encode_facts r hv2 h0
      obtain ⟨rs, hrs⟩ : ∃ rs, Utf8.encode r = rs := ⟨_, rfl⟩
      rw [hrs] at f1 f2 f3
      obtain ⟨k, hk⟩ : ∃ k : Nat, rs.size = k + 1 := ⟨rs.size - 1, by omega⟩
      have hk1 : 1 ≤ k := by omega
      have hk3 : k ≤ 3 := by omega
      have hsub : ((rs.size : Int) - 1) = (k : Int) := by omega
      have F3 := Sl.mk f3
      have kcv : ∀ W, (convert 21 9 (.int .i32 r)).run Tryd.prog W = .ok (.string rs) W := fun W => by rw [run_convert_int_string W 21 9 .i32 r (by kernel_rfl) Tryd.underlying9, hrs]
      clear f1 f2 f3 hv hv2 he
      go_enter Tryd.func56, Tryd.ntmps56
      go_wp2_with fail
      refine (HV.out _).mono ?_
      rintro e w1 ⟨rfl, rfl⟩
      go_wp2_with fail
      go_step3
      go_wp2_with fail
      go_loopg [9] 1 (fun q v9 wr => q = 1 ∧ v9 = .int .i64 k ∧ wr = w1)
      case atStart => exact ⟨rfl, rfl, rfl⟩
      case round =>
        obtain ⟨-, rfl, rfl⟩ := hrel
        by_cases hk2 : k = 1
        · subst hk2
          have hx : 1 < rs.size := by omega
          obtain ⟨c, hc⟩ : ∃ c : Nat, (rs[1]'hx).toNat = c := ⟨_, rfl⟩
          have hc2 : 128 ≤ c := by
            have := F3.out (by omega)
            simp only [hk] at this
            rw [← hc]; exact this
          have hcn : ((9 : Int) != (c : Int)) = true := by simp; omega
          have hi1 : (1 : Int) < (rs.size : Int) := by omega
          have HIB := Sl.mk (fun W => (strings_IndexByte ⟨#[]⟩ (c : Int) W).mono fun e w' ⟨h1, h2⟩ => (⟨h1, h2.symm⟩ : e = Ending.returned (.int .i64 (-1)) ∧ W = w'))
          have HIC := Sl.mk (fun W => (HIB.out W).mono fun e w' ⟨h1, h2⟩ => (⟨h1, 0, h2.symm⟩ : e = Ending.returned (.int .i64 (-1)) ∧ ∃ k, w' = W.drewN k))
          clear hk1 hk3
          simp only [show ((1 : Nat) : Int) = 1 from rfl]
          have hw2 : IntKind.i64.wrap 2 = 2 := by decide
          have hcn2 : ((((⟨#[32, 9]⟩ : ByteArray)[1]'(by decide)).toNat : Int) != (c : Int)) = true := hcn
          have hsl : ∀ W, (Instr.slice 9 (.string ⟨#[32, 9]⟩) (some (.int .i64 2)) none none).run Tryd.prog W = .ok (.string ⟨#[]⟩) W := fun W => by
            rw [run_slice_string_from_if W 9 ⟨#[32, 9]⟩ .i64 2 Tryd.underlying9, if_pos (by decide)]; rfl
          go_wp2_with fail
          go_step3
          go_wp2_with fail
          go_quiet (fail)
          go_wp2_with fail
          go_quiet ((go_at_call 72; first | exact quiet_add_lf (HIB.out _) | exact quiet_lf (HIB.out _) | exact Calls.quiet_add (HIC.out _)))
          go_wp2_with fail
          rw [Exit.noGoto_ret]
          go_wp2_with fail
          (try rw [Exit.noGoto_ret])
          (try go_wp2_with fail)
          go_ret
          exact ⟨rfl, by simpa using below_drN (Below.refl _ _) _⟩
        · have hk4 : ¬ ((k : Int) < 2) := by omega
          go_wp2_with fail
          go_ret
          exact ⟨rfl, Below.refl _ _⟩

theorem noAny_hi {s : List UInt8} {i k : Nat} (h : Lib.NoAny s bl2 i) (hk : ∀ j, j < k → ∃ b, s[i + j]? = some b ∧ 128 ≤ b.toNat) : Lib.NoAny s bl2 (i + k) := fun j b hj hb => by
  rcases Nat.lt_or_ge j i with h1 | h1
  · exact h j b h1 hb
  · obtain ⟨c, hc, hc2⟩ := hk (j - i) (by omega)
    rw [show i + (j - i) = j by omega, hb] at hc
    injection hc with hc
    subst hc
    unfold bl2
    have h32 : b ≠ 32 := fun e => by subst e; exact absurd hc2 (by decide)
    have h9 : b ≠ 9 := fun e => by subst e; exact absurd hc2 (by decide)
    simp [h32, h9]
set_option maxRecDepth 100000 in
set_option maxHeartbeats 4000000 in
theorem idxany_any (s : List UInt8) (w : World) (hs : s.length ≤ 1000000) :
    Calls Tryd.prog 37 #[.string (bsS s), .string ⟨#[32, 9]⟩] w fun e w' => e = .returned (.int .i64 (Lib.indexAny s bl2)) ∧ Below w.heap.size w w' := by
  have hz := bs_size s
  by_cases h8 : 8 < s.length
  · have h116 : (Tryd.prog.info? (lays153_ren.t 116)).map (fun i => (i.zero, i.size)) = some (some (.agg (Array.replicate 256 (.bool false))), 256) := by kernel_rfl
    refine (Any.strings_IndexAny_long lays153 (zero_of_info h116).1 (zero_of_info h116).2 (bsS s) ⟨#[32, 9]⟩ w (by decide) (by rw [hz]; exact h8) (by rw [hz]; omega) (by decide) bl_ascii).mono fun e w' ⟨h1, h2⟩ => ⟨h1, ?_⟩
    rw [h2]
    exact below_al (below_al (Below.refl _ _) _) _
  · have h8z : decide ((8 : Int) < (s.length : Int)) = false := decide_eq_false (by omega)
    have HSA := Sl.mk (fun W => strings_shouldUseASCIISet (s.length : Int) W)
    rw [h8z] at HSA
    clear h8 h8z
    go_enter Tryd.func37, Tryd.ntmps37
    go_wp2_with fail
    refine (HSA.out _).mono ?_
    rintro e w1 ⟨rfl, rfl⟩
    go_wp2_with fail
    go_loopg [9, 10] s.length (fun q _ _ wr => ∃ i : Nat, i + q = s.length ∧ wr.heap[w1.heap.size]? = some (.stringIter (bsS s) i) ∧ Below w1.heap.size w1 wr ∧ Sl (Lib.NoAny s bl2 i))
    case atStart => exact ⟨0, by omega, (MapKept.heap_alloc w1 _).1, below_al (Below.refl _ _) _, ⟨Lib.NoAny.zero _ _⟩⟩
    case round =>
      obtain ⟨i, hig, hit, hbw, HN⟩ := hrel
      by_cases hlt : i < s.length
      · have hps : i < (bsS s).size := by rw [hz]; exact hlt
        have hdec := dec_hi (bsS s) i hps
        obtain ⟨x, hx⟩ : ∃ x, s[i]? = some x := ⟨_, List.getElem?_eq_getElem hlt⟩
        have hxv : (bsS s)[i]'hps = x := by
          rw [bs_at hps, List.getD_eq_getElem?_getD, hx]; rfl
        by_cases hx128 : x.toNat < 128
        · have hnx : ∀ ty, (Instr.next (.pointer (some ⟨w1.heap.size, 0, none⟩)) true ty).run Tryd.prog wr = _ := fun ty => Lib.run_next_ascii_at wr w1.heap.size (bsS s) i ty hit hps (by rw [hxv]; exact hx128)
          rw [hxv] at hnx
          have hit2 := Lib.iterAt_heap wr w1.heap.size (bsS s) i (i + 1) hit
          have hbw2 := Lib.below_iterAt hbw (k := w1.heap.size) (Nat.le_refl _) (bsS s) (i + 1)
          obtain ⟨W, hWd⟩ : ∃ W, wr.iterAt w1.heap.size (bsS s) (i + 1) = W := ⟨_, rfl⟩
          rw [hWd] at hit2 hbw2 hnx
          have HIT := Sl.mk hit2
          have HBW := Sl.mk hbw2
          have HIR := Sl.mk (strings_IndexRune_ascii ⟨#[32, 9]⟩ (x.toNat : Int) W (by omega) (by omega))
          have hcon := Lib.contains_iff_indexByte bl2 x
          have hback : ((x.toNat : Int)).toNat.toUInt8 = x := by simp
          rw [hback] at HIR
          have e2 : Lib.indexByte (⟨#[32, 9]⟩ : ByteArray).data.toList x = Lib.indexByte bl2 x := rfl
          rw [e2] at HIR
          obtain ⟨K, hK⟩ : ∃ K, Lib.indexByte bl2 x = K := ⟨_, rfl⟩
          rw [hK] at HIR hcon
          have HX := Sl.mk hx
          cases hin : bl2.contains x
          · rw [hin] at hcon
            have hge : ¬ ((0 : Int) ≤ K) := of_decide_eq_false hcon.symm
            have HN2 := Sl.mk (HN.out.succ hx hin)
            have HQ := Sl.mk (show i + 1 + (s.length - (i + 1)) = s.length ∧ s.length - (i + 1) < gk by omega)
            clear hcon hit2 hbw2 hdec hx hxv hig hK hin hback e2
            go_wp2_with fail
            refine HIR.out.mono ?_
            rintro e w2 ⟨rfl, rfl⟩
            go_wp2_with fail
            go_roundg (s.length - (i + 1))
            case measure => exact HQ.out.2
            case rel => exact ⟨i + 1, HQ.out.1, HIT.out, HBW.out, HN2⟩
          · rw [hin] at hcon
            have hge : ((0 : Int) ≤ K) := of_decide_eq_true hcon.symm
            have HR := Sl.mk (show Lib.indexAny s bl2 = i from Lib.indexAny_hit HN.out hx hin)
            clear hcon hit2 hbw2 hdec hx hxv hig hK hin hback e2
            go_wp2_with fail
            refine HIR.out.mono ?_
            rintro e w2 ⟨rfl, rfl⟩
            go_wp2_with fail
            go_ret
            exact ⟨by rw [HR.out]; rfl, HBW.out⟩
        · obtain ⟨d1, d2, d3⟩ := hdec (by rw [hxv]; omega)
          have d4 := decode_le (bsS s) i
          obtain ⟨K, hK⟩ : ∃ K, (Utf8.decode (bsS s) i).2 = K := ⟨_, rfl⟩
          obtain ⟨r, hr⟩ : ∃ r, (Utf8.decode (bsS s) i).1 = r := ⟨_, rfl⟩
          have hnx : ∀ ty, (Instr.next (.pointer (some ⟨w1.heap.size, 0, none⟩)) true ty).run Tryd.prog wr = _ := fun ty => Lib.run_next_any_at wr w1.heap.size (bsS s) i ty hit hps
          rw [hK, hr] at hnx
          rw [hr] at d1 d4
          rw [hK] at d2 d3
          have hit2 := Lib.iterAt_heap wr w1.heap.size (bsS s) i (i + K) hit
          have hbw2 := Lib.below_iterAt hbw (k := w1.heap.size) (Nat.le_refl _) (bsS s) (i + K)
          obtain ⟨W, hWd⟩ : ∃ W, wr.iterAt w1.heap.size (bsS s) (i + K) = W := ⟨_, rfl⟩
          rw [hWd] at hit2 hbw2 hnx
          have HIT := Sl.mk hit2
          have HBW := Sl.mk hbw2
          have HIR := Sl.mk (rune_none (r : Int) W (by omega) (by omega))
          have hKl : i + K ≤ s.length := by
            obtain ⟨h, _⟩ := d3 (K - 1) (by omega)
            rw [hz] at h
            omega
          have HN2 := Sl.mk (noAny_hi (k := K) HN.out fun j hj => by
            obtain ⟨h, h2⟩ := d3 j hj
            rw [bs_at h] at h2
            have h3 : i + j < s.length := by rw [hz] at h; exact h
            rw [List.getD_eq_getElem?_getD, List.getElem?_eq_getElem h3] at h2
            exact ⟨_, List.getElem?_eq_getElem h3, h2⟩)
          have HQ := Sl.mk (show i + K + (s.length - (i + K)) = s.length ∧ s.length - (i + K) < gk by omega)
          have HLT := Sl.mk (show w1.heap.size < W.heap.size from (Array.getElem?_eq_some_iff.1 hit2).1)
          clear hit2 hbw2 hdec hx hxv hig hK hr d1 d2 d3 d4 hKl
          go_wp2_with fail
          refine HIR.out.mono ?_
          rintro e w2 ⟨rfl, hb2⟩
          have HIT2 := Sl.mk (show w2.heap[w1.heap.size]? = some (.stringIter (bsS s) (i + K)) by rw [hb2.block _ HLT.out]; exact HIT.out)
          have HBW2 := Sl.mk (HBW.out.trans (hb2.mono HBW.out.size))
          clear hb2
          go_wp2_with fail
          go_roundg (s.length - (i + K))
          case measure => exact HQ.out.2
          case rel => exact ⟨i + K, HQ.out.1, HIT2.out, HBW2.out, HN2⟩
      · obtain rfl : i = s.length := by omega
        have hnx : ∀ ty, (Instr.next (.pointer (some ⟨w1.heap.size, 0, none⟩)) true ty).run Tryd.prog wr = _ := fun ty => Lib.run_next_end_at wr w1.heap.size (bsS s) s.length ty hit (by rw [hz]; exact Nat.lt_irrefl _)
        have HR := Sl.mk (show Lib.indexAny s bl2 = -1 from Lib.indexAny_none HN.out)
        have HBW := Sl.mk hbw
        clear hbw hig hlt
        go_wp2_with fail
        go_ret
        exact ⟨by rw [HR.out]; rfl, HBW.out⟩
end Go.Proofs.YtigdfkpkogompaaDoor
