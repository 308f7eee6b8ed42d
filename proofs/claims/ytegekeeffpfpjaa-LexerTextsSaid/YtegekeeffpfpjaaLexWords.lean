/-
  The contracts of Words, and of the law's Of.
-/
import Derived.Test.YtegekeeffpfpjaaLexTextP
import Derived.Test.YtegekeeffpfpjaaWordsU
namespace Go.Proofs.Ytegekeeffpfpjaa
open Go.RowKit

def strL (l : List (List UInt8)) : List Value := l.map fun t => .string ⟨t.toArray⟩
theorem strL_len (l : List (List UInt8)) : (strL l).length = l.length := by simp [strL]
theorem info_str : (Try.prog.info? 9).map (fun i => (i.zero, i.size, i.bytes)) = some (some (.string ByteArray.empty), 1, 16) := by kernel_rfl
theorem tok_get {l : List Tok} {i n : Nat} (hn : l.length = n) (h : i < n) : ∃ t, l[i]? = some t ∧ l.take (i + 1) = l.take i ++ [t] ∧ (txtT l)[i]? = some t.2.1 := by
  refine ⟨l[i], List.getElem?_eq_getElem (by omega), ?_, ?_⟩
  · rw [List.take_succ_eq_append_getElem (by omega)]
  · simp [txtT, hn, h]

set_option maxRecDepth 100000 in
set_option maxHeartbeats 2000000 in
theorem Words_any (A : Option Addr) (c n : Nat) (l : List Tok) (w : World) (hn : l.length = n) (h1 : Toks w A l) (hm : n ≤ 1000000) :
    Calls Try.prog 11 #[.slice A n c] w fun e w' => ∃ v, e = .returned v ∧ w'.ownsRow w.heap.size 9 1 v n (strL (txtT l)) ∧ Below w.heap.size w w' := by
  obtain ⟨j0, hj0, hy0, hy1, hy2⟩ := info_parts info_str
  have HN := hide hn
  have HT := hide h1
  clear hn h1
  go_enter Try.func11, Try.ntmps11
  go_wp2_with fail
  go_loopw [3, 8] (fun v3 v8 wr => ∃ i : Nat, i ≤ n ∧ v8 = .int .i64 i ∧ wr.ownsRow w.heap.size 9 1 v3 i (strL (txtT (l.take i))) ∧ Below w.heap.size w wr) (fun _ v8 _ => n - (intOf v8).toNat)
  case atStart => exact ⟨0, by omega, rfl, World.ownsRow_nil _ _ _ _, Below.refl _ _⟩
  case round =>
    obtain ⟨i, hi, rfl, hown, hB⟩ := hrel
    obtain ⟨A3, c3, rfl⟩ := own_form hown
    by_cases hlt : i < n
    · obtain ⟨t, ht, htk, htx⟩ := tok_get HN.out hlt
      obtain ⟨g1, rfl, hg1, hc1⟩ := HT.out.below hB (by intro e; rw [e] at ht; simp at ht)
      obtain ⟨x0, x1, x2⟩ := cellsT_at ht
      have q0 := hc1 _ _ x0
      have q1 := hc1 _ _ x1
      have q2 := hc1 _ _ x2
      have hs : strL (txtT (l.take (i + 1))) = strL (txtT (l.take i)) ++ [.string ⟨t.2.1.toArray⟩] := by rw [htk]; simp [strL, txtT]
      have HS := hide hs
      clear ht htk htx hc1 x0 x1 x2 hs
      obtain ⟨tk, ttx, tl⟩ := t
      dsimp only at q0 q1 q2 HS
      go_wp2_with (at_builtin; refine wpList_append_any _ rfl (.tmp 12) (.tmp 15) 35 rfl w.heap.size 9 j0 (.string ByteArray.empty) 1 16 Try.underlying35 hj0 hy0 hy1 hy2 rfl (by decide) _ _ _ rfl ((hown.alloc _).alloc _) (wr.heap.size + 2) (some ⟨wr.heap.size + 1, 0, none⟩) 1 1 [.string ⟨ttx.toArray⟩] rfl ?r1 (by intro u hu; simp at hu; subst hu; rfl) (by unfold maxLen; omega) (by omega) (by have := hB.size; simp; omega) ?_)
      case r1 =>
        have := reads_new1 (wr.alloc (.cells #[.int .i64 tk, .string ⟨ttx.toArray⟩, .int .i64 tl] 28)) (.string ⟨ttx.toArray⟩) 9 (B := wr.heap.size + 2) (by simp)
        simpa using this
      intro v6 w6 hown6 hg6 _
      have hB6 : Below w.heap.size w w6 := (below_al (below_al hB _) _).grown hg6 (by have := hB.size; simp; omega) (fun q hq => own_ge hown hq)
      rw [← HS.out] at hown6
      clear hown hg6 hB
      go_wp2_with fail
      go_roundw
      case rel => exact ⟨i + 1, by omega, by go_num, hown6, hB6⟩
      case measure => simp [intOf]; omega
    · obtain rfl : i = n := by omega
      have hf : l.take i = l := by rw [← HN.out, List.take_length]
      rw [hf] at hown
      go_wp2_with fail
      go_ret
      exact ⟨_, rfl, hown, hB⟩

end Go.Proofs.Ytegekeeffpfpjaa
