/-
  The contracts of asm's words and of code's small functions: Word, right, top, reversed.
-/
import Derived.Test.YtigdfkpkogompaaDoorCoV
import Derived.Test.YtigdfkpkogompaaDoorCoLays
import Derived.Shelf.Strings.SlTrimAscii
import Derived.Test.YtigdfkpkogompaaDoorWordsX
namespace Go.Proofs.YtigdfkpkogompaaDoor
open Go.RowKit
attribute [local go_sem ↓] Go.wp_at_zero Go.wp_at_succ

/-- The table of blanks lies, below a base. -/
structure Spw (w : World) (base : Nat) : Prop where
  tab : Lib.TabIs Tryd.prog w "strings.asciiSpace" .u8 Lib.asciiSpaceTab
  lt : 0 < base
theorem spNamed : Tryd.prog.globalNamed "strings.asciiSpace" = some 0 := by kernel_rfl
theorem Spw.be {w w' : World} {base : Nat} (h : Spw w base) (hb : Below base w w') : Spw w' base := by
  refine ⟨?_, h.lt⟩
  have h1 := h.tab
  unfold Lib.TabIs World.var? at h1 ⊢
  rw [spNamed] at h1 ⊢
  simp only [Option.bind_some] at h1 ⊢
  rw [hb.block _ h.lt]
  exact h1
theorem Spw.mono {w : World} {base base' : Nat} (h : Spw w base) (hb : base ≤ base') : Spw w base' := ⟨h.tab, Nat.lt_of_lt_of_le h.lt hb⟩
theorem Spw.all {w w' : World} (h : Spw w w.heap.size) (hb : Below w.heap.size w w') : Spw w' w'.heap.size := (h.be hb).mono hb.size

def bsS (l : List UInt8) : ByteArray := ⟨l.toArray⟩

theorem words_ascii : wordsS.all (fun c => decide (c.toNat < 128)) = true := by decide
theorem ascii_words : ∀ (j : Nat) b, (bsS wordsS).data.toList[j]? = some b → b.toNat < 128 := fun j b h => by
  have := List.all_eq_true.1 words_ascii b (List.mem_of_getElem? h)
  simpa using this
set_option maxHeartbeats 1000000 in
theorem word_any (op : Int) (w : World) (h : Spw w w.heap.size) :
    Calls Tryd.prog 10 #[.int .i64 op] w fun e w' => e = .returned (.string (bsS (wordF op))) ∧ Below w.heap.size w w' := by
  have HF := Sl.mk (strings_Fields (bsS wordsS) w (by decide) ascii_words h.tab)
  rw [show (bsS wordsS).data.toList = wordsS from rfl, fields_words, show wordsL.length = 22 from rfl] at HF
  have HB := Sl.mk (below_al (Below.refl w.heap.size w) (.cells (wordsL.map fun l => Value.string ⟨l.toArray⟩).toArray 9))
  by_cases h0 : op < 0
  · have hd : decide (op < 0) = true := decide_eq_true h0
    have HW := Sl.mk (show wordF op = [] by unfold wordF; rw [if_neg (by omega)])
    clear h0
    go_enter Tryd.func10, Tryd.ntmps10
    go_wp2_with (go_at_call 22; refine HF.out.mono ?_; rintro e w1 ⟨rfl, rfl⟩)
    go_ret
    exact ⟨by rw [HW.out]; rfl, HB.out⟩
  · have hd : decide (op < 0) = false := decide_eq_false h0
    by_cases h1 : 22 ≤ op
    · have hd1 : decide (22 ≤ op) = true := decide_eq_true h1
      have HW := Sl.mk (show wordF op = [] by unfold wordF; rw [if_neg (by omega)])
      clear h0 h1
      go_enter Tryd.func10, Tryd.ntmps10
      go_wp2_with (go_at_call 22; refine HF.out.mono ?_; rintro e w1 ⟨rfl, rfl⟩)
      go_ret
      exact ⟨by rw [HW.out]; rfl, HB.out⟩
    · obtain ⟨k, rfl⟩ : ∃ k : Nat, op = k := ⟨op.toNat, by omega⟩
      have hk : k < 22 := by omega
      have hd1 : decide ((22 : Int) ≤ k) = false := decide_eq_false h1
      have HW := Sl.mk (show wordF k = wordsL.getD k [] by unfold wordF; rw [if_pos (by omega)]; simp)
      have HC := (show (w.alloc (.cells (wordsL.map fun l => Value.string ⟨l.toArray⟩).toArray 9)).cell? ⟨w.heap.size, k, none⟩ = some (.string (bsS (wordsL.getD k []))) by
        have hL : wordsL.length = 22 := rfl
        simp [bsS, hL, hk])
      clear h0 h1
      go_enter Tryd.func10, Tryd.ntmps10
      go_wp2_with (go_at_call 22; refine HF.out.mono ?_; rintro e w1 ⟨rfl, rfl⟩)
      go_ret
      exact ⟨by rw [HW.out]; rfl, HB.out⟩
end Go.Proofs.YtigdfkpkogompaaDoor
