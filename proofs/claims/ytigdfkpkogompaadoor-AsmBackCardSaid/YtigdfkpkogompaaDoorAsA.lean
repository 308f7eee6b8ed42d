/-
  The library's contracts that assembling wants, over lists of bytes; the contracts of asm's label and number.
-/
import Derived.Test.YtigdfkpkogompaaDoorAsV
import Derived.Test.YtigdfkpkogompaaDoorCoEq
import Derived.Lib.AppendIntMem
namespace Go.Proofs.YtigdfkpkogompaaDoor
open Go.RowKit
attribute [local go_sem ↓] Go.wp_at_zero Go.wp_at_succ

/-- The tables of blanks and of powers, and the library's MaxLen, lie below a base. -/
structure Eg (w : World) (base : Nat) : Prop where
  sp : Spw w base
  pw : Lib.TabIs Tryd.prog w "internal/strconv.uint64pow10" .u64 Lib.pow10Tab
  pl : 3 < base
  mx : ∃ m : Int, w.cell? ⟨2, 0, none⟩ = some (.int .i64 m)
  ml : 2 < base
theorem pwNamed : Tryd.prog.globalNamed "internal/strconv.uint64pow10" = some 3 := by kernel_rfl
theorem Eg.be {w w' : World} {base : Nat} (h : Eg w base) (hb : Below base w w') : Eg w' base := by
  refine ⟨h.sp.be hb, ?_, h.pl, ?_, h.ml⟩
  · have h1 := h.pw
    unfold Lib.TabIs World.var? at h1 ⊢
    rw [pwNamed] at h1 ⊢
    simp only [Option.bind_some] at h1 ⊢
    rw [hb.block _ h.pl]
    exact h1
  · obtain ⟨m, hm⟩ := h.mx
    exact ⟨m, (hb.cell (p := ⟨2, 0, none⟩) h.ml).trans hm⟩
theorem Eg.mono {w : World} {base base' : Nat} (h : Eg w base) (hb : base ≤ base') : Eg w base' := ⟨h.sp.mono hb, h.pw, Nat.lt_of_lt_of_le h.pl hb, h.mx, Nat.lt_of_lt_of_le h.ml hb⟩
theorem Eg.all {w w' : World} (h : Eg w w.heap.size) (hb : Below w.heap.size w w') : Eg w' w'.heap.size := (h.be hb).mono hb.size
theorem Eg.at_ {w w' : World} {base : Nat} (h : Eg w base) (hb : Below base w w') (hs : base ≤ w'.heap.size) : Eg w' w'.heap.size := (h.be hb).mono hs

theorem bl_ascii : ∀ (j : Nat) b, (⟨#[32, 9]⟩ : ByteArray).data.toList[j]? = some b → b.toNat < 128 := ascii_of_all (by decide)
theorem itoa_any (n : Int) (w : World) (h0 : -9223372036854775808 ≤ n) (h1 : n ≤ 9223372036854775807) (hp : Eg w w.heap.size) :
    Calls Tryd.prog 29 #[.int .i64 n] w fun e w' => e = .returned (.string (bsS (Lib.itoa n))) ∧ Below w.heap.size w w' :=
  (strconv_Itoa n h0 h1 w hp.pw).mono fun e w' ⟨h, k, os, hw⟩ => ⟨h, by rw [hw]; exact Lib.below_grow _ w (Nat.le_refl _) k os⟩
theorem cut_any (s : List UInt8) (w : World) (hs : s.length ≤ 1000000) (hp : Eg w w.heap.size) :
    Calls Tryd.prog 33 #[.string (bsS s), .string ⟨#[35]⟩] w fun e w' => (∃ t b, e = .returned (.tuple #[.string (bsS (Lib.cut s [35]).1), .string t, .bool b])) ∧ Below w.heap.size w w' := by
  obtain ⟨m, hm⟩ := hp.mx
  refine (strings_Cut (bsS s) ⟨#[35]⟩ m w (by rw [bs_size]; omega) hm).mono fun e w' ⟨h, n, hw⟩ => ⟨⟨_, _, h⟩, by rw [hw]; exact below_drN (Below.refl _ _) n⟩
theorem trim2_any (s : List UInt8) (w : World) (hs : s.length ≤ 1000000) :
    Calls Tryd.prog 34 #[.string (bsS s), .string ⟨#[32, 9]⟩] w fun e w' => e = .returned (.string (bsS (Lib.trimS s bl2))) ∧ Below w.heap.size w w' :=
  Any.strings_Trim_laid lays160 (by kernel_rfl) (bsS s) ⟨#[32, 9]⟩ w (by rw [bs_size]; omega) (by decide) bl_ascii
theorem triml_any (s : List UInt8) (w : World) :
    Calls Tryd.prog 39 #[.string (bsS s), .string ⟨#[32, 9]⟩] w fun e w' => e = .returned (.string (bsS (Lib.trimLeftS s bl2))) ∧ Below w.heap.size w w' :=
  Any.strings_TrimLeft_laid lays161 (by kernel_rfl) (bsS s) ⟨#[32, 9]⟩ w (by decide) bl_ascii
theorem cuts_any (s : List UInt8) (c : UInt8) (w : World) (hs : s.length ≤ 1000000) :
    Calls Tryd.prog 35 #[.string (bsS s), .string (bsS [c])] w fun e w' => e = .returned (.tuple #[.string (bsS (if [c].isSuffixOf s = true then s.dropLast else s)), .bool ([c].isSuffixOf s)]) ∧ w' = w := by
  refine (strings_CutSuffix (bsS s) (bsS [c]) w (by rw [bs_size]; omega)).mono fun e w' ⟨h, hw⟩ => ⟨?_, hw⟩
  rw [h]
  have e1 : Lib.trimSuffix s [c] = if [c].isSuffixOf s = true then s.dropLast else s := by
    unfold Lib.trimSuffix Lib.hasSuffix
    split
    · rw [List.dropLast_eq_take]; rfl
    · rfl
  show _ = Ending.returned (.tuple #[.string (bsS _), .bool _])
  rw [← e1]
  rfl
theorem cutp_any (s : List UInt8) (c : UInt8) (w : World) :
    Calls Tryd.prog 61 #[.string (bsS s), .string (bsS [c])] w fun e w' => e = .returned (.tuple #[.string (bsS (if [c].isPrefixOf s = true then s.drop 1 else s)), .bool ([c].isPrefixOf s)]) ∧ w' = w :=
  strings_CutPrefix (bsS s) (bsS [c]) w
theorem splitB_bs (s : List UInt8) : Lib.splitB ⟨#[10]⟩ 0 (Lib.countB (bsS s) ⟨#[10]⟩) (bsS s) = (Lib.split s [10]).map bsS := by
  have h := Lib.splitB_data ⟨#[10]⟩ 0 (Lib.countB (bsS s) ⟨#[10]⟩) (bsS s)
  have e : Lib.splitK [10] 0 (Lib.countB (bsS s) ⟨#[10]⟩) s = Lib.split s [10] := rfl
  have e2 : (Lib.splitB ⟨#[10]⟩ 0 (Lib.countB (bsS s) ⟨#[10]⟩) (bsS s)).map (fun x => bsS x.data.toList) = (Lib.split s [10]).map bsS := by
    rw [← e, ← show Lib.splitK (⟨#[10]⟩ : ByteArray).data.toList 0 (Lib.countB (bsS s) ⟨#[10]⟩) (bsS s).data.toList = Lib.splitK [10] 0 (Lib.countB (bsS s) ⟨#[10]⟩) s from rfl, ← h, List.map_map]
    rfl
  rw [← e2]
  simp [bsS]
theorem split_len (s : List UInt8) : (Lib.split s [10]).length = Lib.countB (bsS s) ⟨#[10]⟩ + 1 := by
  have h := Lib.splitB_all ⟨#[10]⟩ (by decide) 0 _ (bsS s) rfl
  rw [splitB_bs, List.length_map] at h
  exact h
/-- Texts as cells. -/
def strsA (l : List (List UInt8)) : List Value := l.map fun s => .string (bsS s)
theorem split_any (s : List UInt8) (w : World) (hs : s.length ≤ 1000000) (hp : Eg w w.heap.size) :
    Calls Tryd.prog 24 #[.string (bsS s), .string ⟨#[10]⟩] w fun e w' => e = .returned (.slice (some ⟨w.heap.size, 0, none⟩) (Lib.split s [10]).length (Lib.split s [10]).length) ∧ w' = w.alloc (.cells (strsA (Lib.split s [10])).toArray 9) := by
  obtain ⟨m, hm⟩ := hp.mx
  have h := strings_Split (bsS s) ⟨#[10]⟩ m w (by rw [bs_size]; omega) hm (by decide)
  rw [splitB_bs, List.map_map] at h
  rw [split_len]
  exact h
theorem idx_find (L : List (List UInt8)) (x : List UInt8) : ∀ k : Nat, Lib.idxFromS (L.map bsS) (bsS x) k = (match L.findIdx? (· == x) with | some i => ((k + i : Nat) : Int) | none => -1) := by
  induction L with
  | nil => intro k; rfl
  | cons a t ih =>
    intro k
    rw [List.map_cons, Lib.idxFromS, List.findIdx?_cons, ih]
    by_cases h : a = x
    · subst h
      simp
    · have h2 : ¬ bsS a = bsS x := fun e => h (bsS_injI e)
      have h3 : (a == x) = false := beq_eq_false_iff_ne.2 h
      simp only [h2, h3, if_false, Bool.false_eq_true]
      cases t.findIdx? (· == x) with
      | none => rfl
      | some i =>
        show (((k + 1) + i : Nat) : Int) = ((k + (i + 1) : Nat) : Int)
        congr 1; omega
where
  bsS_injI {a b : List UInt8} (h : bsS a = bsS b) : a = b := congrArg (fun x => x.data.toList) h
def opOf (x : List UInt8) : Int := match wordsL.findIdx? (· == x) with | some i => ((i : Nat) : Int) | none => -1

set_option maxHeartbeats 4000000 in
theorem label_any (s : List UInt8) (w : World) (hs : s.length ≤ 1000000) :
    Calls Tryd.prog 55 #[.string (bsS s)] w fun e w' => e = .returned (.bool (labF s)) ∧ w' = w := by
  have hz := bs_size s
  have hem := emp_list s
  by_cases h0 : s = []
  · subst h0
    go_enter Tryd.func55, Tryd.ntmps55
    go_wp2_with fail
    go_ret
    exact ⟨rfl, rfl⟩
  · have he : s.isEmpty = false := by cases s with | nil => exact absurd rfl h0 | cons _ _ => rfl
    rw [he] at hem
    have HL := Sl.mk (show labF s = s.all fun c => decide (97 ≤ c.toNat) && decide (c.toNat ≤ 122) by unfold labF; rw [he]; rfl)
    clear h0 he
    go_enter Tryd.func55, Tryd.ntmps55
    go_wp2_with fail
    go_loopg [8] s.length (fun q v8 wr => ∃ i : Nat, q = s.length - i ∧ i ≤ s.length ∧ v8 = .int .i64 i ∧ wr = w ∧ Sl (labF s = (s.drop i).all fun c => decide (97 ≤ c.toNat) && decide (c.toNat ≤ 122)))
    case atStart => exact ⟨0, rfl, Nat.zero_le _, rfl, rfl, ⟨by rw [HL.out, List.drop_zero]⟩⟩
    case round =>
      obtain ⟨i, hq, hi, rfl, hw, HD⟩ := hrel
      by_cases hlt : i < s.length
      · have hlt2 : i < (bsS s).size := by rw [hz]; exact hlt
        have HA := Sl.mk (bs_at hlt2)
        obtain ⟨c, hc⟩ : ∃ c : Nat, ((bsS s)[i]).toNat = c := ⟨_, rfl⟩
        have hx : (s.getD i 0).toNat = c := by rw [← HA.out, hc]
        have hdr : s.drop i = s.getD i 0 :: s.drop (i + 1) := by rw [List.drop_eq_getElem_cons hlt, List.getD_eq_getElem?_getD, List.getElem?_eq_getElem hlt]; rfl
        have HD2 := Sl.mk (show labF s = ((decide (97 ≤ c) && decide (c ≤ 122)) && (s.drop (i + 1)).all fun c => decide (97 ≤ c.toNat) && decide (c.toNat ≤ 122)) by rw [HD.out, hdr, List.all_cons, hx])
        have HQ := Sl.mk (show s.length - (i + 1) < gk ∧ i + 1 ≤ s.length by omega)
        clear hdr hx HD hq
        by_cases h1 : c < 97
        · have HF := Sl.mk (show labF s = false by rw [HD2.out, decide_eq_false (show ¬ 97 ≤ c by omega)]; rfl)
          clear HD2
          go_wp2_with fail
          go_ret
          exact ⟨by rw [HF.out]; rfl, by first | rfl | exact hw⟩
        · by_cases h2 : 122 < c
          · have HF := Sl.mk (show labF s = false by rw [HD2.out, decide_eq_false (show ¬ c ≤ 122 by omega)]; simp)
            clear HD2
            go_wp2_with fail
            go_ret
            exact ⟨by rw [HF.out]; rfl, by first | rfl | exact hw⟩
          · have HN := Sl.mk (show labF s = (s.drop (i + 1)).all fun c => decide (97 ≤ c.toNat) && decide (c.toNat ≤ 122) by
              rw [HD2.out, decide_eq_true (show 97 ≤ c by omega), decide_eq_true (show c ≤ 122 by omega)]; simp)
            clear HD2
            go_wp2_with fail
            go_roundg (s.length - (i + 1))
            case measure => exact HQ.out.1
            case rel => exact ⟨i + 1, rfl, HQ.out.2, by go_num, by first | rfl | exact hw, HN⟩
      · obtain rfl : i = s.length := by omega
        have HF := Sl.mk (show labF s = true by rw [HD.out, List.drop_length]; rfl)
        clear HD hq
        go_wp2_with fail
        go_ret
        exact ⟨by rw [HF.out]; rfl, by first | rfl | exact hw⟩
end Go.Proofs.YtigdfkpkogompaaDoor
