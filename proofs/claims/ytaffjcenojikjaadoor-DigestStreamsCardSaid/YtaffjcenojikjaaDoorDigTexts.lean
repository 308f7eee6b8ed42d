/-
  The contract of the law's Texts: at most twelve texts, of at most 300 bytes, and all of them.
-/
import Derived.Test.YtaffjcenojikjaaDoorDigNil
namespace Go.Proofs.YtaffjcenojikjaaDoor
open Go.RowKit
attribute [local go_sem ↓] Go.wp_at_zero Go.wp_at_succ

/-- What comes in: a slice of byte slices. -/
structure RowsIn (w : World) (A : Option Addr) (n : Nat) (AA : Nat → Option Addr) (L C : Nat → Nat) (Z : Nat → List Nat) : Prop where
  row : ∀ r, r < n → ∃ ad, A = some ad ∧ ad.block < w.heap.size ∧ w.cell? (ad.add r) = some (.slice (AA r) (L r) (C r))
  le : ∀ r, r < n → L r ≤ C r ∧ C r ≤ 9223372036854775807
  len : ∀ r, r < n → (Z r).length = L r
  rd : ∀ r, r < n → RdS w (fun b => b < w.heap.size) (AA r) (Z r)
  byte : ∀ r, r < n → ∀ x ∈ Z r, x < 256

def cutT (Z : Nat → List Nat) (m : Nat) : List (List Nat) := (List.range m).map fun r => (Z r).take 300
theorem cutT_len (Z : Nat → List Nat) (m : Nat) : (cutT Z m).length = m := by simp [cutT]
theorem cutT_succ (Z : Nat → List Nat) (m : Nat) : cutT Z (m + 1) = cutT Z m ++ [(Z m).take 300] := by simp [cutT, List.range_succ]
theorem cutT_flat (Z : Nat → List Nat) (m : Nat) : (cutT Z m).flatten.length ≤ m * 300 := by
  induction m with
  | zero => simp [cutT]
  | succ m ih =>
    rw [cutT_succ, List.flatten_append, List.length_append]
    have h1 : ((Z m).take 300).length ≤ 300 := by simp; omega
    have h2 : ([(Z m).take 300] : List (List Nat)).flatten = (Z m).take 300 := by simp
    rw [h2]
    omega

/-- Headers of texts: a list of slice values that read as these texts. -/
def Heads (w : World) (S : Nat → Prop) (hs : List Value) (T : List (List Nat)) : Prop :=
  hs.length = T.length ∧ ∀ i, i < T.length → ∃ Ai ci, hs[i]? = some (.slice Ai (T.getD i []).length ci) ∧ RdS w S Ai (T.getD i [])
theorem Heads.nil_ (w : World) (S : Nat → Prop) : Heads w S [] [] := ⟨rfl, fun i hi => by simp at hi⟩
theorem Heads.snoc {w : World} {S : Nat → Prop} {hs : List Value} {T : List (List Nat)} (h : Heads w S hs T) {A : Option Addr} {c : Nat} {l : List Nat} (hr : RdS w S A l) : Heads w S (hs ++ [.slice A l.length c]) (T ++ [l]) :=
  ⟨by simp [h.1], fun i hi => by
    rw [List.length_append, List.length_singleton] at hi
    by_cases hl : i < T.length
    · obtain ⟨Ai, ci, e, hr⟩ := h.2 i hl
      have eT : (T ++ [l]).getD i [] = T.getD i [] := by simp [List.getD, List.getElem?_append_left hl]
      exact ⟨Ai, ci, by rw [eT, List.getElem?_append_left (by rw [h.1]; exact hl)]; exact e, by rw [eT]; exact hr⟩
    · obtain rfl : i = T.length := by omega
      have eT : (T ++ [l]).getD T.length [] = l := by simp [List.getD]
      exact ⟨A, c, by rw [eT, ← h.1]; simp, by rw [eT]; exact hr⟩⟩
theorem Heads.keep {w w' : World} {S : Nat → Prop} {hs : List Value} {T : List (List Nat)} (h : Heads w S hs T) (hk : ∀ p : Addr, S p.block → w'.cell? p = w.cell? p) : Heads w' S hs T :=
  ⟨h.1, fun i hi => by
    obtain ⟨Ai, ci, e, hr⟩ := h.2 i hi
    exact ⟨Ai, ci, e, hr.keep hk⟩⟩
theorem Heads.one {w : World} {S : Nat → Prop} {hs : List Value} {T : List (List Nat)} (h : Heads w S hs T) : ∀ v ∈ hs, v.oneCell' = true := fun v hv => by
  obtain ⟨i, hi⟩ := List.mem_iff_getElem?.1 hv
  have hl : i < T.length := by have := (List.getElem?_eq_some_iff.1 hi).1; rw [h.1] at this; exact this
  obtain ⟨Ai, ci, e, -⟩ := h.2 i hl
  rw [e] at hi
  injection hi with hi
  subst hi; rfl
/-- Bytes, as the append law wants them. -/
theorem reads_rds {w : World} {S : Nat → Prop} {A : Option Addr} {l : List Nat} {B : Nat} (h : RdS w S A l) (hS : ∀ b, S b → b < B) : Reads w B 1 A l.length (u8s l) :=
  ⟨by rw [u8s_len, Nat.mul_one], fun hn => by
    obtain ⟨ad, e, hb, -⟩ := h 0 hn
    refine ⟨ad, e, hS _ hb, fun j u hu => ?_⟩
    have hj : j < l.length := by have := (List.getElem?_eq_some_iff.1 hu).1; rwa [u8s_len] at this
    obtain ⟨ad', e', -, hc⟩ := h j hj
    rw [e] at e'
    injection e' with e'
    subst e'
    rw [hc, ← hu]
    simp [u8s, hj]⟩
theorem rds_take {w : World} {S : Nat → Prop} {A : Option Addr} {l : List Nat} (h : RdS w S A l) (k : Nat) : RdS w S A (l.take k) := fun j hj => by
  rw [List.length_take] at hj
  obtain ⟨ad, e, hb, hc⟩ := h j (by omega)
  refine ⟨ad, e, hb, hc.trans ?_⟩
  have : (l.take k).getD j 0 = l.getD j 0 := by simp [List.getD, show j < k by omega]
  rw [this]
theorem rds_mono {w : World} {S S' : Nat → Prop} {A : Option Addr} {l : List Nat} (h : RdS w S A l) (hS : ∀ b, S b → S' b) : RdS w S' A l := fun j hj => by
  obtain ⟨ad, e, hb, hc⟩ := h j hj
  exact ⟨ad, e, hS _ hb, hc⟩
theorem ownApart {w : World} {b b' n n' s s' : Nat} {e e' : TypeId} {v v' : Value} {xs xs' : List Value} (h : w.ownsRow b e s v n xs) (h' : w.ownsRow b' e' s' v' n' xs') (hne : e ≠ e') : v.ownBlock = none ∨ v.ownBlock ≠ v'.ownBlock := by
  rcases h.2 with ⟨rfl, _⟩ | ⟨g, cap, cur, rfl, _, hh, _⟩
  · exact .inl rfl
  · refine .inr fun e => ?_
    rcases h'.2 with ⟨rfl, _⟩ | ⟨g', cap', cur', rfl, _, hh', _⟩
    · simp [Value.ownBlock] at e
    · have : g = g' := by simpa [Value.ownBlock] using e
      subst this
      rw [hh] at hh'
      injection hh' with hh'
      injection hh' with _ ht
      exact hne ht
theorem info_sl : (Tryd.prog.info? 23).map (fun i => (i.zero, i.size, i.bytes)) = some (some (.slice none 0 0), 1, 24) := by kernel_rfl

set_option maxRecDepth 100000 in
set_option maxHeartbeats 4000000 in
theorem texts_any (A : Option Addr) (n c : Nat) (AA : Nat → Option Addr) (L C : Nat → Nat) (Z : Nat → List Nat) (w : World) (hn : n ≤ 9223372036854775807) (hI : RowsIn w A n AA L C Z) :
    Calls Tryd.prog 8 #[.slice A n c] w fun e w' => ∃ (v1 v2 : Value) (m : Nat) (hs : List Value), e = .returned (.tuple #[v1, v2]) ∧ Below w.heap.size w w' ∧ m ≤ 12 ∧ m ≤ n ∧
      w'.ownsRow w.heap.size 23 1 v1 m hs ∧ Heads w' (fun b => b < w.heap.size) hs (cutT Z m) ∧ w'.ownsRow w.heap.size 5 1 v2 (cutT Z m).flatten.length (u8s (cutT Z m).flatten) := by
  obtain ⟨i0, hi0, hz0, hz1, hz2⟩ := info_parts info_sl
  obtain ⟨j0, hj0, hy0, hy1, hy2⟩ := info_parts infob
  have HI := Sl.mk hI
  clear hI
  go_enter Tryd.func8, Tryd.ntmps8
  go_wp2_with fail
  go_loopw [4, 5, 6] (fun v4 v5 v6 wr => ∃ (i : Nat) (hs : List Value) (kf : Nat), Sl ((cutT Z i).flatten.length = kf) ∧ i ≤ n ∧ i ≤ 12 ∧ v6 = .int .i64 i ∧ wr.ownsRow w.heap.size 23 1 v4 i hs ∧ Heads w (fun b => b < w.heap.size) hs (cutT Z i) ∧
    wr.ownsRow w.heap.size 5 1 v5 kf (u8s (cutT Z i).flatten) ∧ Below w.heap.size w wr) (fun _ _ v6 _ => 12 - (intOf v6).toNat)
  case atStart => exact ⟨0, [], 0, ⟨rfl⟩, by omega, by omega, rfl, World.ownsRow_nil _ _ _ _, Heads.nil_ _ _, World.ownsRow_nil _ _ _ _, Below.refl _ _⟩
  case round =>
    obtain ⟨i, hs, kf, HKF, hi, hi12, rfl, hown, hH, hall, hB⟩ := hrel
    obtain ⟨A4, c4, rfl⟩ := ownForm hown
    obtain ⟨A5, c5, rfl⟩ := ownForm hall
    by_cases hlt : i < n
    · by_cases h12 : i < 12
      · obtain ⟨ad, rfl, hb, hcell⟩ := HI.out.row i hlt
        have hcell1 : wr.cell? (ad.add i) = some (.slice (AA i) (L i) (C i)) := (hB.cell (p := ad.add i) (by rw [block_of_add]; exact hb)).trans hcell
        obtain ⟨h1, h2⟩ := HI.out.le i hlt
        have hrd := rds_take (HI.out.rd i hlt) 300
        have hzl := HI.out.len i hlt
        obtain ⟨k, hk, hkL⟩ : ∃ k, ((L i ≤ 300 ∧ k = L i) ∨ (300 < L i ∧ k = 300)) ∧ ((Z i).take 300).length = k := by
          by_cases h : L i ≤ 300
          · exact ⟨L i, .inl ⟨h, rfl⟩, by rw [List.length_take, hzl]; omega⟩
          · exact ⟨300, .inr ⟨by omega, rfl⟩, by rw [List.length_take, hzl]; omega⟩
        have hsn := cutT_succ Z i
        have hfl : (cutT Z (i + 1)).flatten = (cutT Z i).flatten ++ (Z i).take 300 := by rw [hsn]; simp
        have hH2 := hH.snoc (A := AA i) (c := C i) hrd
        have hR2 := reads_rds (hrd.keep (w' := wr) (fun p hp => hB.cell hp)) (B := w.heap.size) (fun _ h => h)
        have hone := u8s_one ((Z i).take 300)
        have hflat : kf ≤ i * 300 := by rw [← HKF.out]; exact cutT_flat Z i
        have HFL := Sl.mk hfl
        have HKL := Sl.mk hkL
        have HH2 : Sl (Heads w (fun b => b < w.heap.size) (hs ++ [.slice (AA i) ((Z i).take 300).length (C i)]) (cutT Z (i + 1))) := ⟨by rw [hsn]; exact hH2⟩
        rw [hkL] at hR2
        clear hrd hzl hsn hfl hkL hH2 hcell hH
        obtain ⟨l, hl⟩ : ∃ l, (Z i).take 300 = l := ⟨_, rfl⟩
        obtain ⟨fl, hfl2⟩ : ∃ f, (cutT Z i).flatten = f := ⟨_, rfl⟩
        rw [hl] at HFL HKL HH2 hR2 hone
        rw [hfl2] at HFL hall HKF
        clear hl hfl2
        have hk300 : k ≤ 300 := by omega
        go_upto_region 6 with fail
        go_cut [7] (fun v7 wx => v7 = .slice (AA i) k (C i) ∧ ∃ q, wx = wr.drewN q)
        case first =>
          rcases hk with ⟨hk1, rfl⟩ | ⟨hk1, rfl⟩
          all_goals
            go_quiet (fail)
            go_wp2_with fail
            go_meet
            exact ⟨rfl, nq, rfl⟩
        case rest =>
          obtain ⟨rfl, q, hq⟩ := hcut
          have hownq : wc.ownsRow w.heap.size 23 1 (.slice A4 i c4) i hs := by rw [hq]; exact hown
          have hallq : wc.ownsRow w.heap.size 5 1 (.slice A5 kf c5) kf (u8s fl) := by rw [hq]; exact hall
          have hBq : Below w.heap.size w wc := by rw [hq]; exact below_drN hB _
          have hRq : Reads wc w.heap.size 1 (AA i) k (u8s l) := by rw [hq]; exact hR2
          have hap := ownApart hallq hownq (by decide)
          clear hq hown hall hB hR2 hcell1 hk
          go_wp2_with (at_builtin; refine wpList_append_any _ rfl (.tmp 29) (.tmp 31) 22 rfl w.heap.size 23 i0 (.slice none 0 0) 1 24 Tryd.underlying22 hi0 hz0 hz1 hz2 rfl (by decide) _ _ _ rfl (hownq.alloc _) (wc.heap.size + 1) (some ⟨wc.heap.size, 0, none⟩) 1 1 [.slice (AA i) k (C i)] rfl (reads_new1 _ _ _ (Nat.lt_succ_self _)) (by intro u hu; simp at hu; subst hu; rfl) (by unfold maxLen; omega) (by omega) (by have := hBq.size; simp; omega) ?_)
          intro v6 w6 hown6 hg6 _
          have hB6 : Below w.heap.size w w6 := (below_al hBq _).grown hg6 (by have := hBq.size; simp; omega) (fun q hq => ownGe hownq hq)
          have hall6 := World.ownsRow.kept (hallq.alloc (.cells #[.slice (AA i) k (C i)] 23)) hg6 hap
          have hR6 := hRq.keep (w' := w6) (fun p hp => by rw [hB6.cell hp, hBq.cell hp])
          obtain ⟨A6, c6, rfl⟩ := ownForm hown6
          clear hownq hallq hg6 hBq hRq hap
          go_wp2_with (at_builtin; refine wpList_append_any _ rfl (.tmp 33) (.tmp 34) 23 rfl w.heap.size 5 j0 (.int .u8 0) 1 1 Tryd.underlying23 hj0 hy0 hy1 hy2 rfl (by decide) _ _ _ rfl hall6 w.heap.size (AA i) k (C i) (u8s l) rfl hR6 hone (by unfold maxLen; omega) (by omega) hB6.size ?_)
          intro v7 w7 hall7 hg7 _
          have hap := ownApart hown6 hall6 (by decide)
          have hown7 := hown6.kept hg7 hap
          have hB7 := hB6.grown hg7 hB6.size (fun q hq => ownGe hall6 hq)
          obtain ⟨A7, c7, rfl⟩ := ownForm hall7
          have hall8 : w7.ownsRow w.heap.size 5 1 (.slice A7 (kf + k) c7) (kf + k) (u8s (cutT Z (i + 1)).flatten) := by
            rw [HFL.out]
            have : u8s (fl ++ l) = u8s fl ++ u8s l := by simp [u8s]
            rw [this]; exact hall7
          have hH8 : Heads w (fun b => b < w.heap.size) (hs ++ [.slice (AA i) k (C i)]) (cutT Z (i + 1)) := by
            have := HH2.out
            rw [HKL.out] at this
            exact this
          clear hown6 hall6 hall7 hg7 hap hR6 hB6
          go_wp2_with fail
          go_roundw
          case rel => exact ⟨i + 1, _, kf + k, ⟨by rw [HFL.out, List.length_append, HKL.out, HKF.out]⟩, by omega, by omega, by go_num, hown7, hH8, hall8, hB7⟩
          case measure => simp [intOf]; omega
      · obtain rfl : i = 12 := by omega
        go_wp2_with fail
        go_ret2
        exact ⟨_, _, 12, hs, rfl, hB, by omega, by omega, hown, hH.keep (fun p hp => hB.cell hp), by rw [HKF.out]; exact hall⟩
    · obtain rfl : i = n := by omega
      go_wp2_with fail
      go_ret2
      exact ⟨_, _, i, hs, rfl, hB, by omega, by omega, hown, hH.keep (fun p hp => hB.cell hp), by rw [HKF.out]; exact hall⟩

end Go.Proofs.YtaffjcenojikjaaDoor
