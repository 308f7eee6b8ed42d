/-
  The contracts of Write, Len and Fork.
-/
import Derived.Test.YticcphppnmoogaaDoorDigOne
namespace Go.Proofs.YticcphppnmoogaaDoor
open Go.RowKit
attribute [local go_sem ↓] Go.wp_at_zero Go.wp_at_succ

def feedS (s : StT) (cs : List Nat) : StT := cs.foldl oneS s
theorem feedS_nil (s : StT) : feedS s [] = s := rfl
theorem feedS_app (s : StT) (a b : List Nat) : feedS s (a ++ b) = feedS (feedS s a) b := List.foldl_append ..
theorem feedS_snoc (s : StT) (a : List Nat) (c : Nat) : feedS s (a ++ [c]) = oneS (feedS s a) c := by rw [feedS_app]; rfl
theorem feedS_ok {s : StT} (h : okS s) : ∀ cs : List Nat, okS (feedS s cs) := by
  intro cs
  induction cs generalizing s with
  | nil => exact h
  | cons c cs ih => exact ih (oneS_ok h)
theorem feedS_n (s : StT) (cs : List Nat) : (feedS s cs).2.2 = s.2.2 + cs.length := by
  induction cs generalizing s with
  | nil => rfl
  | cons c cs ih =>
    have := ih (s := oneS s c)
    rw [oneS_n] at this
    show (feedS (oneS s c) cs).2.2 = _
    rw [this, List.length_cons]; omega

/-- Bytes that lie in blocks of a kind. -/
def RdS (w : World) (S : Nat → Prop) (A : Option Addr) (l : List Nat) : Prop := ∀ j, j < l.length → ∃ ad, A = some ad ∧ S ad.block ∧ w.cell? (ad.add j) = some (.int .u8 ((l.getD j 0 : Nat) : Int))
/-- Texts that lie in blocks of a kind. -/
def RdSS (w : World) (S : Nat → Prop) (A : Option Addr) (L : List (List Nat)) : Prop :=
  ∀ i, i < L.length → ∃ ad Ai ci, A = some ad ∧ S ad.block ∧ w.cell? (ad.add i) = some (.slice Ai (L.getD i []).length ci) ∧ RdS w S Ai (L.getD i [])
theorem RdS.keep {w w' : World} {S : Nat → Prop} {A : Option Addr} {l : List Nat} (h : RdS w S A l) (hk : ∀ p : Addr, S p.block → w'.cell? p = w.cell? p) : RdS w' S A l := fun j hj => by
  obtain ⟨ad, e, hS, hc⟩ := h j hj
  exact ⟨ad, e, hS, (hk _ (by rw [block_of_add]; exact hS)).trans hc⟩
theorem RdSS.keep {w w' : World} {S : Nat → Prop} {A : Option Addr} {L : List (List Nat)} (h : RdSS w S A L) (hk : ∀ p : Addr, S p.block → w'.cell? p = w.cell? p) : RdSS w' S A L := fun i hi => by
  obtain ⟨ad, Ai, ci, e, hS, hc, hr⟩ := h i hi
  exact ⟨ad, Ai, ci, e, hS, (hk _ (by rw [block_of_add]; exact hS)).trans hc, hr.keep hk⟩
theorem RdS.only {w w' : World} {S : Nat → Prop} {A : Option Addr} {l : List Nat} {g : Nat} (h : RdS w S A l) (hg : w.grownBy w' (some g)) (hS : ∀ b, S b → b < w.heap.size ∧ b ≠ g) : RdS w' S A l :=
  h.keep fun p hp => World.cell?_of_block (hg.block p.block (hS _ hp).1 (fun e => (hS _ hp).2 (by injection e)))
theorem RdSS.only {w w' : World} {S : Nat → Prop} {A : Option Addr} {L : List (List Nat)} {g : Nat} (h : RdSS w S A L) (hg : w.grownBy w' (some g)) (hS : ∀ b, S b → b < w.heap.size ∧ b ≠ g) : RdSS w' S A L :=
  h.keep fun p hp => World.cell?_of_block (hg.block p.block (hS _ hp).1 (fun e => (hS _ hp).2 (by injection e)))
theorem cell_only {w w' : World} {S : Nat → Prop} {g : Nat} (hg : w.grownBy w' (some g)) (hS : ∀ b, S b → b < w.heap.size ∧ b ≠ g) {ad : Addr} (hb : S ad.block) {j : Nat} {v : Value} (h : w.cell? (ad.add j) = some v) : w'.cell? (ad.add j) = some v :=
  (World.cell?_of_block (hg.block _ (by rw [block_of_add]; exact (hS _ hb).1) (fun e => (hS _ hb).2 (by rw [block_of_add] at e; injection e)))).trans h
theorem take_succ_getD {α : Type} {l : List α} {d : α} {i : Nat} (h : i < l.length) : l.take (i + 1) = l.take i ++ [l.getD i d] := by
  rw [List.take_succ_eq_append_getElem h]; simp [h]

theorem write_nil (x : Value) (w : World) : Calls Tryd.prog 27 #[.pointer none, x] w fun e w' => e = .returned (.pointer none) ∧ w = w' := by
  go_enter Tryd.func27, Tryd.ntmps27
  go_wp2_with fail
  go_ret
  exact ⟨rfl, rfl⟩

set_option maxRecDepth 100000 in
set_option maxHeartbeats 4000000 in
theorem write_any (g : Nat) (s : StT) (A : Option Addr) (c : Nat) (L : List (List Nat)) (S : Nat → Prop) (w : World) (hs : okS s) (hn : s.2.2 + L.flatten.length ≤ 1000000000000) (hLn : L.length ≤ 1000000000000) (hg : 1 < g) (hT : Tabs w) (hSt : St w g s)
    (hL : RdSS w S A L) (hS : ∀ b, S b → b < w.heap.size ∧ b ≠ g) :
    Calls Tryd.prog 27 #[.pointer (some ⟨g, 0, none⟩), .slice A L.length c] w fun e w' => e = .returned (.pointer (some ⟨g, 0, none⟩)) ∧ St w' g (feedS s L.flatten) ∧ w.grownBy w' (some g) := by
  obtain ⟨m, hm⟩ : ∃ m, L.length = m := ⟨_, rfl⟩
  have HM := hide hm
  rw [hm] at hLn ⊢
  have HN := Sl.mk hn
  have HS := Sl.mk hS
  have HL := Sl.mk hL
  clear hm hn hS hL
  go_enter Tryd.func27, Tryd.ntmps27
  go_wp2_with fail
  go_loopw [13] (fun v13 wr => ∃ i : Nat, i ≤ m ∧ v13 = .int .i64 i ∧ St wr g (feedS s (L.take i).flatten) ∧ Tabs wr ∧ w.grownBy wr (some g)) (fun v13 _ => m - (intOf v13).toNat)
  case atStart => exact ⟨0, by omega, rfl, hSt, hT, only_refl _ _⟩
  case round =>
    obtain ⟨i, hi, rfl, hSi, hTi, hGi⟩ := hrel
    clear hSt hT
    by_cases hlt : i < m
    · obtain ⟨ad, Ai, ci, rfl, hSb, hcell0, hrd⟩ := HL.out i (by rw [HM.out]; exact hlt)
      have hcell := cell_only hGi HS.out hSb hcell0
      clear hcell0
      obtain ⟨l, hl⟩ : ∃ l, L.getD i [] = l := ⟨_, rfl⟩
      rw [hl] at hcell hrd
      obtain ⟨k, hk⟩ : ∃ k, l.length = k := ⟨_, rfl⟩
      rw [hk] at hcell
      have htk : (L.take (i + 1)).flatten = (L.take i).flatten ++ l := by rw [take_succ_getD (d := []) (by rw [HM.out]; exact hlt), hl]; simp
      have hle : (L.take i).flatten.length + l.length ≤ L.flatten.length := by
        rw [← List.length_append, ← htk]
        conv => rhs; rw [← List.take_append_drop (i + 1) L, List.flatten_append, List.length_append]
        omega
      have hkm : k ≤ 1000000000000 := by have := HN.out; omega
      have HTK := Sl.mk htk
      have HLE := Sl.mk hle
      have HK := hide hk
      have HRD := Sl.mk hrd
      clear htk hle hk hl hrd
      go_wp2_with fail
      obtain ⟨wo, hwo⟩ : ∃ wo, wo = wr := ⟨_, rfl⟩
      subst hwo
      go_loopw [19] (fun v19 wr => ∃ j : Nat, j ≤ k ∧ v19 = .int .i64 j ∧ St wr g (feedS s ((L.take i).flatten ++ l.take j)) ∧ Tabs wr ∧ w.grownBy wr (some g)) (fun v19 _ => k - (intOf v19).toNat)
      case atStart => exact ⟨0, by omega, rfl, by rw [List.take_zero, List.append_nil]; exact hSi, hTi, hGi⟩
      case round =>
        obtain ⟨j, hj, rfl, hSj, hTj, hGj⟩ := hrel
        clear hSi hTi hGi
        by_cases hjl : j < k
        · obtain ⟨ad2, rfl, hS2, hc2⟩ := HRD.out j (by rw [HK.out]; exact hjl)
          have hc3 := cell_only hGj HS.out hS2 hc2
          have hsn : feedS s ((L.take i).flatten ++ l.take (j + 1)) = oneS (feedS s ((L.take i).flatten ++ l.take j)) (l.getD j 0) := by
            rw [take_succ_getD (d := 0) (by rw [HK.out]; exact hjl), ← List.append_assoc, feedS_snoc]
          have hnn : (feedS s ((L.take i).flatten ++ l.take j)).2.2 ≤ 1000000000000 := by
            rw [feedS_n, List.length_append, List.length_take]
            have := HN.out
            have := HLE.out
            omega
          have hok := feedS_ok hs ((L.take i).flatten ++ l.take j)
          obtain ⟨x, hx⟩ : ∃ x, l.getD j 0 = x := ⟨_, rfl⟩
          rw [hx] at hc3 hsn
          have HSN := Sl.mk hsn
          clear hsn hx hc2 hSb hcell
          go_wp2_with fail
          refine (one_any g _ x _ hok hnn hg hTj hSj).mono ?_
          rintro e w2 ⟨rfl, hS3, hG3⟩
          go_wp2_with fail
          go_roundw
          case rel => exact ⟨j + 1, by omega, by go_num, by rw [HSN.out]; exact hS3, hTj.only hG3 hg, only_trans hGj hG3⟩
          case measure => simp [intOf]; omega
        · obtain rfl : j = k := by omega
          have hfl : (L.take i).flatten ++ l.take j = (L.take (i + 1)).flatten := by rw [HTK.out, ← HK.out, List.take_length]
          go_wp2_with fail
          go_roundw
          case rel => exact ⟨i + 1, by omega, by go_num, by rw [← hfl]; exact hSj, hTj, hGj⟩
          case measure => simp [intOf]; omega
    · obtain rfl : i = m := by omega
      have hfl : (L.take i).flatten = L.flatten := by rw [← HM.out, List.take_length]
      rw [hfl] at hSi
      go_wp2_with fail
      go_ret
      exact ⟨rfl, hSi, hGi⟩

/-- A stream that was told nothing. -/
def zS : StT := (List.replicate 8 0, List.replicate 64 0, 0)
theorem zS_ok : okS zS := ⟨rfl, rfl⟩
theorem info73 : (Tryd.prog.info? 69).map (·.size) = some 73 := by kernel_rfl
theorem strC_one (H R : List Nat) (n : Nat) : ∀ v ∈ strC H R n, v.oneCell' = true := by
  intro v hv
  simp only [strC, List.mem_append, List.mem_singleton] at hv
  rcases hv with hv | hv | rfl
  · exact u32s_one _ v hv
  · exact u8s_one _ v hv
  · rfl
theorem strC_len {H R : List Nat} {n : Nat} (hH : H.length = 8) (hR : R.length = 64) : (strC H R n).length = 73 := by simp [strC, u32s, u8s, hH, hR]

theorem zero73 (w : World) : (zeroValue 69).run Tryd.prog w = .ok (.agg (strC zS.1 zS.2.1 zS.2.2).toArray) w := by kernel_rfl
theorem fork_nil (w : World) : Calls Tryd.prog 41 #[.pointer none] w fun e w' => e = .returned (.pointer (some ⟨w.heap.size, 0, none⟩)) ∧ St w' w.heap.size zS ∧ Below w.heap.size w w' := by
  have hz := zero73
  go_enter Tryd.func41, Tryd.ntmps41
  go_wp2_with fail
  go_ret
  exact ⟨rfl, Blk.new' rfl, below_al (Below.refl _ _) _⟩
set_option maxRecDepth 100000 in
theorem fork_any (g : Nat) (s : StT) (w : World) (hs : okS s) (hS : St w g s) :
    Calls Tryd.prog 41 #[.pointer (some ⟨g, 0, none⟩)] w fun e w' => e = .returned (.pointer (some ⟨w.heap.size, 0, none⟩)) ∧ St w' w.heap.size s ∧ Below w.heap.size w w' := by
  have hlen := strC_len (n := s.2.2) hs.1 hs.2
  have HL := Sl.mk hlen
  have hall : ((strC s.1 s.2.1 s.2.2).drop 0).take 73 = strC s.1 s.2.1 s.2.2 := by rw [List.drop_zero, List.take_of_length_le (by rw [hlen]; omega)]
  have HA := Sl.mk hall
  clear hlen hall
  have hz := zero73
  go_enter Tryd.func41, Tryd.ntmps41
  go_wp2_with (first
    | (refine wpList_load_vs rfl 69 (.tmp 10) rfl g 0 73 69 (strC s.1 s.2.1 s.2.2) (strC s.1 s.2.1 s.2.2) _ (Blk.alloc hS _) rfl HA.out HL.out Tryd.underlying69 rfl info73 ?_)
    | (refine wpList_store_fresh rfl 69 (.tmp 12) (.tmp 11) rfl 69 (strC zS.1 zS.2.1 zS.2.2) (strC s.1 s.2.1 s.2.2) _ rfl rfl rfl (by rw [HL.out]; rfl) (by rw [info73, HL.out]) (strC_one _ _ _) ?_))
  intro w2 hB2 hE2 hs2
  go_wp2_with fail
  go_ret
  exact ⟨rfl, hB2, hE2⟩

end Go.Proofs.YticcphppnmoogaaDoor
