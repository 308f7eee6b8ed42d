/-
  The plain law of LexerLines, a step: what Next tells of the rest of a text is the next token of the whole.
-/
import Derived.Test.YtegekeeffpfpjaaLexLinesP
namespace Go.Proofs.Ytegekeeffpfpjaa
open Go.RowKit

theorem rest_list (s : ByteArray) (a : Nat) : (s.extract a s.size).data.toList = s.data.toList.drop a := by
  rw [Lib.extract_data, List.take_of_length_le]
  rw [List.length_drop]; simp
theorem rest_size (s : ByteArray) (a : Nat) : (s.extract a s.size).size = s.size - a := by
  simp

theorem skip_take {l : List UInt8} {ln b : Nat} (h : (skipL false l ln).1 = l.drop b) (hb : b ≤ l.length) : (skipL false l ln).2 = ln + nlc (l.take b) := by
  obtain ⟨pre, h1, h2⟩ := skip_split l false ln
  rw [h] at h1
  have hl : pre.length = b := by
    have := congrArg List.length h1
    rw [List.length_append, List.length_drop] at this; omega
  have : pre = l.take b := by
    have e := congrArg (List.take b) h1
    rw [List.take_left' hl] at e
    exact e.symm
  rw [h2, this]

theorem lines_step {s : ByteArray} {a ln f x : Nat} {t : Tok} {rest : List Tok} {K : Int} {T : ByteArray} {L err : Int} {a2 l2 : Nat} (ha : a ≤ s.size) (ht : tokF (f + 1) (s.data.toList.drop a) ln = (t :: rest, 4, x))
    (h : Nx (s.extract a s.size) 0 1 K T L err a2 l2) :
    err = 0 ∧ K = t.1 ∧ T = ⟨t.2.1.toArray⟩ ∧ t.2.2 = ln + nlc ((s.data.toList.drop a).take a2) ∧ t.2.1.length ≤ a2 ∧ 0 < t.2.1.length ∧ a + a2 ≤ s.size ∧ s.extract (a + a2 - t.2.1.length) (a + a2) = ⟨t.2.1.toArray⟩ ∧
      tokF f (s.data.toList.drop (a + a2)) t.2.2 = (rest, 4, x) := by
  obtain ⟨b, -, h2, -, -, h5, hc⟩ := h
  rw [rest_list, List.drop_zero] at h5
  rw [rest_size] at h2
  have hs := skip_line (s.data.toList.drop a) false ln 1
  rw [h5] at hs
  have hlen : (s.data.toList.drop a).length = s.size - a := by simp
  have hline := skip_take hs.1 (by rw [hlen]; exact h2)
  have hnil : (s.data.toList.drop a).drop b = [] ↔ b = s.size - a := by rw [List.drop_eq_nil_iff, hlen]; omega
  unfold tokF at ht
  rw [hs.1] at ht
  rw [rest_list, rest_size] at hc
  rcases hc with ⟨q, _⟩ | ⟨q, q1, _⟩ | ⟨q, q1, q2, _⟩ | ⟨q, q1, q2, rfl, rfl, -, rfl, rfl⟩
  · rw [if_pos (hnil.2 q)] at ht; cases ht
  · rw [if_neg (fun e => by have := hnil.1 e; omega), if_pos q1] at ht; cases ht
  · rw [if_neg (fun e => by have := hnil.1 e; omega), if_neg q1, if_pos q2] at ht; cases ht
  · rw [if_neg (fun e => by have := hnil.1 e; omega), if_neg q1, if_neg (by rw [q2]; simp)] at ht
    obtain ⟨n, hn⟩ : ∃ n, (sizeL ((s.data.toList.drop a).drop b)).1 = n := ⟨_, rfl⟩
    have hle := sizeL_le ((s.data.toList.drop a).drop b) (by rw [List.length_drop, hlen]; omega)
    rw [List.length_drop, hlen, hn] at hle
    have hnl := size_nl ((s.data.toList.drop a).drop b)
    rw [hn] at ht q1 hnl ⊢
    simp only [Prod.mk.injEq, List.cons.injEq] at ht
    obtain ⟨⟨rfl, h7⟩, h8⟩ := ht
    have hlt : (((s.data.toList.drop a).drop b).take n).length = n := by rw [List.length_take, List.length_drop, hlen]; omega
    have hsub : (s.extract a s.size).extract b (b + n) = ⟨(((s.data.toList.drop a).drop b).take n).toArray⟩ := by rw [extract_eq, rest_list]
    dsimp only
    refine ⟨rfl, rfl, hsub, ?_, by rw [hlt]; omega, by rw [hlt]; omega, by omega, ?_, ?_⟩
    · rw [hline, nl_take_add, hnl]; omega
    · rw [hlt, show a + (b + n) - n = a + b from by omega, show a + (b + n) = a + b + n from by omega, extract_eq, List.drop_drop]
    · rw [show a + (b + n) = a + b + n from by omega, ← List.drop_drop, ← List.drop_drop]
      exact Prod.ext h7 h8

theorem lines_end {s : ByteArray} {a ln f x : Nat} {K : Int} {T : ByteArray} {L err : Int} {a2 l2 : Nat} (ht : tokF (f + 1) (s.data.toList.drop a) ln = ([], 4, x))
    (h : Nx (s.extract a s.size) 0 1 K T L err a2 l2) : err = 4 := by
  obtain ⟨b, -, h2, -, -, h5, hc⟩ := h
  rw [rest_list, List.drop_zero] at h5
  rw [rest_size] at h2
  have hs := skip_line (s.data.toList.drop a) false ln 1
  rw [h5] at hs
  have hlen : (s.data.toList.drop a).length = s.size - a := by simp
  have hnil : (s.data.toList.drop a).drop b = [] ↔ b = s.size - a := by rw [List.drop_eq_nil_iff, hlen]; omega
  unfold tokF at ht
  rw [hs.1] at ht
  rw [rest_list, rest_size] at hc
  rcases hc with ⟨q, _, _, _, e, _⟩ | ⟨q, q1, _⟩ | ⟨q, q1, q2, _⟩ | ⟨q, q1, q2, _⟩
  · exact e
  · rw [if_neg (fun e => by have := hnil.1 e; omega), if_pos q1] at ht; cases ht
  · rw [if_neg (fun e => by have := hnil.1 e; omega), if_neg q1, if_pos q2] at ht; cases ht
  · rw [if_neg (fun e => by have := hnil.1 e; omega), if_neg q1, if_neg (by rw [q2]; simp)] at ht; cases ht

/-- The line of an error, and of any token, is between 1 and one more than there are line ends. -/
theorem tok_lines : ∀ (f : Nat) (l : List UInt8) (ln : Nat), l.length < f → ((tokF f l ln).2.2 ≤ ln + nlc l ∧ ln ≤ (tokF f l ln).2.2) ∧ ∀ t ∈ (tokF f l ln).1, ln ≤ t.2.2 ∧ t.2.2 ≤ ln + nlc l := by
  intro f
  induction f with
  | zero => intro l ln h; omega
  | succ f ih =>
    intro l ln hf
    obtain ⟨pre, h1, h2⟩ := skip_split l false ln
    have hn : nlc l = nlc pre + nlc (skipL false l ln).1 := by conv => lhs; rw [h1]; 
                                                               rw [nlc_app]
    unfold tokF
    split
    · exact ⟨by dsimp only; omega, fun t ht => by cases ht⟩
    split
    · exact ⟨by dsimp only; omega, fun t ht => by cases ht⟩
    split
    · exact ⟨by dsimp only; omega, fun t ht => by cases ht⟩
    · rename_i q0 q1 q2
      have hlen := congrArg List.length h1
      have hr : 0 < (skipL false l ln).1.length := List.length_pos_iff.2 q0
      rw [List.length_append] at hlen
      have hd : nlc ((skipL false l ln).1.drop (sizeL (skipL false l ln).1).1) ≤ nlc (skipL false l ln).1 := by
        conv => rhs; rw [← List.take_append_drop (sizeL (skipL false l ln).1).1 (skipL false l ln).1, nlc_app]
        omega
      have := ih ((skipL false l ln).1.drop (sizeL (skipL false l ln).1).1) (skipL false l ln).2 (by rw [List.length_drop]; omega)
      refine ⟨by dsimp only; omega, fun t ht => ?_⟩
      rcases List.mem_cons.1 ht with rfl | ht
      · dsimp only; omega
      · have := this.2 t ht; omega

end Go.Proofs.Ytegekeeffpfpjaa
