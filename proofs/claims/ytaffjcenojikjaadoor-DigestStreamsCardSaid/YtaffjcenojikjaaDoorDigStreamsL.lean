/-
  The walk of the law DigestStreams.
-/
import Derived.Test.YtaffjcenojikjaaDoorDigTextsLaw
namespace Go.Proofs.YtaffjcenojikjaaDoor
open Go.RowKit Go.Sort
attribute [local go_sem ↓] Go.wp_at_zero Go.wp_at_succ

theorem flat_split (T : List (List Nat)) (i : Nat) : T.flatten = (T.take i).flatten ++ (T.drop i).flatten := by rw [← List.flatten_append, List.take_append_drop]
theorem flat_take (T : List (List Nat)) (i : Nat) : T.flatten.take (T.take i).flatten.length = (T.take i).flatten := by
  rw [flat_split T i]; exact List.take_left' rfl
theorem flat_len (T : List (List Nat)) (i : Nat) : (T.take i).flatten.length ≤ T.flatten.length := by
  rw [flat_split T i, List.length_append]; omega
theorem flat_succ {T : List (List Nat)} {i : Nat} (h : i < T.length) : (T.take (i + 1)).flatten = (T.take i).flatten ++ T.getD i [] := by
  rw [take_succ_getD (d := []) h]; simp
theorem own_cap {w : World} {base n s : Nat} {e : TypeId} {A : Option Addr} {c : Nat} {xs : List Value} (h : w.ownsRow base e s (.slice A n c) n xs) : n ≤ c ∧ c ≤ 9223372036854775807 := by
  rcases h.2 with ⟨e, rfl⟩ | ⟨g', cap, cur, e, -, -, h1, h2, -⟩
  · injection e with _ _ e3; omega
  · injection e with _ _ e3
    unfold maxLen at h2; omega
theorem rdss_two {w : World} {S : Nat → Prop} {A A' : Option Addr} {c c' : Nat} {l l' : List Nat} {g : Nat} {t : TypeId} (hB : Blk w g t #[.slice A l.length c, .slice A' l'.length c']) (hg : S g) (hr : RdS w S A l) (hr' : RdS w S A' l') : RdSS w S (some ⟨g, 0, none⟩) [l, l'] := fun i hi => by
  match i, hi with
  | 0, _ => exact ⟨_, A, c, rfl, hg, by rw [add_zero']; exact hB.cell 0, hr⟩
  | 1, _ => exact ⟨_, A', c', rfl, hg, by rw [add_zero']; exact hB.cell 1, hr'⟩

/-- Where the fork stands before text i (it is made at text p). -/
def ForkAt (w : World) (N gs p : Nat) (T : List (List Nat)) (i : Nat) (v : Value) : Prop :=
  (i ≤ p ∧ v = .pointer none) ∨ (p < i ∧ ∃ gk, v = .pointer (some ⟨gk, 0, none⟩) ∧ N ≤ gk ∧ gk ≠ gs ∧ St w gk (feedS zS ((T.take (p + 1)).flatten ++ [1])))

theorem ForkAt.only {w w' : World} {N gs p i : Nat} {T : List (List Nat)} {v : Value} (h : ForkAt w N gs p T i v) (hg : w.grownBy w' (some gs)) : ForkAt w' N gs p T i v := by
  rcases h with h | ⟨h1, gk, h2, h3, h4, h5⟩
  · exact .inl h
  · exact .inr ⟨h1, gk, h2, h3, h4, blk_only h5 hg h4⟩
theorem ForkAt.be {w w' : World} {N gs p i : Nat} {T : List (List Nat)} {v : Value} (h : ForkAt w N gs p T i v) (hb : Below w.heap.size w w') : ForkAt w' N gs p T i v := by
  rcases h with h | ⟨h1, gk, h2, h3, h4, h5⟩
  · exact .inl h
  · exact .inr ⟨h1, gk, h2, h3, h4, Blk.be h5 hb⟩
theorem below_alN {N : Nat} {a w : World} (hN : N = a.heap.size) (h : Below N a w) (o : Obj) : Below N a (w.alloc o) := by subst hN; exact below_al h o
theorem below_trN {N : Nat} {a w w' : World} (hN : N = a.heap.size) (h : Below N a w) (h' : Below w.heap.size w w') : Below N a w' := by subst hN; exact below_tr h h'
/-- One text more into a stream. -/
theorem write_one (gs : Nat) (s : StT) (Ai : Option Addr) (ci k : Nat) (l : List Nat) (w : World) (hk : l.length = k) (hs : okS s) (hn : s.2.2 ≤ 100000) (hk3 : k ≤ 100000) (hg : 1 < gs) (hT : Tabs w) (hSt : St w gs s)
    (hr : RdS w (fun b => b < w.heap.size ∧ b ≠ gs) Ai l) :
    Calls Tryd.prog 9 #[.pointer (some ⟨gs, 0, none⟩), .slice (some ⟨w.heap.size, 0, none⟩) 1 1] (w.alloc (.cells #[.slice Ai k ci] 23)) fun e w' => e = .returned (.pointer (some ⟨gs, 0, none⟩)) ∧ St w' gs (feedS s l) ∧ (w.alloc (.cells #[.slice Ai k ci] 23)).grownBy w' (some gs) := by
  subst hk
  have hlt : gs < w.heap.size := Blk.lt hSt
  have hBa : Below w.heap.size w (w.alloc (.cells #[.slice Ai l.length ci] 23)) := below_al (Below.refl _ _) _
  have hsz : (w.alloc (.cells #[.slice Ai l.length ci] 23)).heap.size = w.heap.size + 1 := by simp
  have hRL : RdSS (w.alloc (.cells #[.slice Ai l.length ci] 23)) (fun b => b < (w.alloc (.cells #[.slice Ai l.length ci] 23)).heap.size ∧ b ≠ gs) (some ⟨w.heap.size, 0, none⟩) [l] :=
    rdss_one (Blk.new w 23 #[.slice Ai l.length ci]) ⟨by rw [hsz]; omega, by omega⟩ (rds_mono (hr.keep (fun p hp => hBa.cell hp.1)) (fun b hb => ⟨by rw [hsz]; omega, hb.2⟩))
  have h := write_any gs s (some ⟨w.heap.size, 0, none⟩) 1 [l] _ (w.alloc (.cells #[.slice Ai l.length ci] 23)) hs (by simp; omega) (by simp) hg (hT.below hBa hT.1) (Blk.alloc hSt _) hRL (fun _ h => h)
  have hf : ([l] : List (List Nat)).flatten = l := by simp
  rw [hf] at h
  exact h
theorem neq_dig (A : List Nat) (hA : A.length = 32) (w : World) : (binOp .neq 37 (.agg (u8s A).toArray) (.agg (u8s A).toArray)).run Tryd.prog w = .ok (.bool false) w := by
  have h := eql_dig A A hA hA w
  rw [run_eql_struct] at h
  rw [run_neq_struct]
  cases hr : (Op.equalIn 10000 37 (.agg (u8s A).toArray) (.agg (u8s A).toArray)).run Tryd.prog w with
  | ok b w' =>
    rw [hr] at h
    simp only [Result.andThen_ok] at h ⊢
    injection h with h1 h2
    injection h1 with h1
    subst h2
    rw [h1]; simp
  | _ => rw [hr] at h; cases h
/-- What a stream tells, in a later world. -/
theorem len_at (gs k : Nat) (P : List Nat) (W0 W : World) (hk : P.length = k) (hS : St W0 gs (feedS zS P)) (hb : Below W0.heap.size W0 W) :
    Calls Tryd.prog 11 #[.pointer (some ⟨gs, 0, none⟩)] W fun e w' => e = .returned (.int .i64 (k : Int)) ∧ W = w' := by
  have h := len_any gs _ W (feedS_ok zS_ok P) (Blk.be hS hb)
  rw [feedS_n, hk] at h
  have e : zS.2.2 + k = k := by show 0 + k = k; omega
  rw [e] at h
  exact h
theorem sum_at (gs : Nat) (P D : List Nat) (W0 W : World) (hD : shaF P = D) (hk : P.length ≤ 100000) (hT : Tabs W0) (hS : St W0 gs (feedS zS P)) (hb : Below W0.heap.size W0 W) :
    Calls Tryd.prog 12 #[.pointer (some ⟨gs, 0, none⟩)] W fun e w' => e = .returned (.agg (u8s D).toArray) ∧ Below W.heap.size W w' ∧ Below W0.heap.size W0 w' := by
  have h := sum_any gs _ W (feedS_ok zS_ok P) (by rw [feedS_n]; show 0 + P.length ≤ _; omega) (hT.below hb hT.1) (Blk.be hS hb)
  subst hD
  exact h.mono fun _ _ ⟨h1, h2⟩ => ⟨h1, h2, below_tr hb h2⟩
theorem of_at (A2 : Option Addr) (c2 kf b : Nat) (P D : List Nat) (W0 W : World) (hD : shaF P = D) (hk : P.length = kf) (hk2 : kf ≤ 100000) (hT : Tabs W0) (hr : RdS W0 (fun b => b < W0.heap.size) A2 P) (hb : Below W0.heap.size W0 W) (hB : Blk W b 23 #[.slice A2 kf c2]) :
    Calls Tryd.prog 13 #[.slice (some ⟨b, 0, none⟩) 1 1] W fun e w' => e = .returned (.agg (u8s D).toArray) ∧ Below W.heap.size W w' ∧ Below W0.heap.size W0 w' := by
  subst hk
  have h := of_any (some ⟨b, 0, none⟩) 1 [P] (fun b => b < W.heap.size) W (by simp; omega) (by simp) (hT.below hb hT.1) (rdss_one hB hB.lt (rds_lt hr hb)) (fun _ h => h)
  have hf : ([P] : List (List Nat)).flatten = P := by simp
  rw [hf, hD] at h
  exact h.mono fun _ _ ⟨h1, h2⟩ => ⟨h1, h2, below_tr hb h2⟩
theorem of_two (A2 : Option Addr) (c2 kf b b1 : Nat) (P D : List Nat) (W0 W : World) (hD : shaF (P ++ [1]) = D) (hk : P.length = kf) (hk2 : kf ≤ 100000) (hT : Tabs W0) (hr : RdS W0 (fun b => b < W0.heap.size) A2 P) (hb : Below W0.heap.size W0 W) (hB1 : Blk W b1 5 #[.int .u8 1])
    (hB : Blk W b 23 #[.slice A2 kf c2, .slice (some ⟨b1, 0, none⟩) 1 1]) :
    Calls Tryd.prog 13 #[.slice (some ⟨b, 0, none⟩) 2 2] W fun e w' => e = .returned (.agg (u8s D).toArray) ∧ Below W.heap.size W w' ∧ Below W0.heap.size W0 w' := by
  subst hk
  have h1 : RdS W (fun b => b < W.heap.size) (some ⟨b1, 0, none⟩) [1] := rd_cells hB1.lt (fun j hj => by
    obtain rfl : j = 0 := by simpa using hj
    exact blk_at (l := [.int .u8 1]) hB1 rfl)
  have h := of_any (some ⟨b, 0, none⟩) 2 [P, [1]] (fun b => b < W.heap.size) W (by simp; omega) (by simp) (hT.below hb hT.1) (rdss_two hB hB.lt (rds_lt hr hb) h1) (fun _ h => h)
  have hf : ([P, [1]] : List (List Nat)).flatten = P ++ [1] := by simp
  rw [hf, hD] at h
  exact h.mono fun _ _ ⟨h1, h2⟩ => ⟨h1, h2, below_tr hb h2⟩

theorem of_two' (A2 : Option Addr) (c2 kf b : Nat) (P D : List Nat) (W0 W : World) (hD : shaF (P ++ [1]) = D) (hk : P.length = kf) (hk2 : kf ≤ 100000) (hT : Tabs W0) (hr : RdS W0 (fun b => b < W0.heap.size) A2 P) (hb : Below W0.heap.size W0 W)
    (hB : ∃ b1, Blk W b1 5 #[.int .u8 1] ∧ Blk W b 23 #[.slice A2 kf c2, .slice (some ⟨b1, 0, none⟩) 1 1]) :
    Calls Tryd.prog 13 #[.slice (some ⟨b, 0, none⟩) 2 2] W fun e w' => e = .returned (.agg (u8s D).toArray) ∧ Below W.heap.size W w' ∧ Below W0.heap.size W0 w' := by
  obtain ⟨b1, h1, h2⟩ := hB
  exact of_two A2 c2 kf b b1 P D W0 W hD hk hk2 hT hr hb h1 h2

set_option maxRecDepth 100000 in
set_option maxHeartbeats 8000000 in
theorem streams_walk (A : Option Addr) (n c : Nat) (AA : Nat → Option Addr) (L C : Nat → Nat) (Z : Nat → List Nat) (at0 : Int) (w : World) (hn : n ≤ 9223372036854775807) (hI : RowsIn w A n AA L C Z) (hT : Tabs w) :
    Calls Tryd.prog 3 #[.slice A n c, .int .i64 at0] w fun e w' => e = .returned (.bool true) ∧ Below w.heap.size w w' := by
  have hz73 := zero73
  go_enter Tryd.func3, Tryd.ntmps3
  go_wp2_with fail
  refine (texts_any A n c AA L C Z _ hn hI).mono ?_
  rintro e w1 ⟨v1, v2, m, hs, rfl, hB1, hm12, hmn, hown, hH, hall⟩
  obtain ⟨T, hTT⟩ : ∃ T, cutT Z m = T := ⟨_, rfl⟩
  have hTl : T.length = m := by rw [← hTT, cutT_len]
  have hTf : T.flatten.length ≤ 3600 := by rw [← hTT]; have := cutT_flat Z m; omega
  have hTe : ∀ l ∈ T, l.length ≤ 300 ∧ ∀ y ∈ l, y < 256 := by
    rw [← hTT]
    intro l hl
    simp only [cutT, List.mem_map, List.mem_range] at hl
    obtain ⟨r, hr, rfl⟩ := hl
    exact ⟨by rw [List.length_take]; omega, fun y hy => hI.byte r (by omega) y (List.mem_of_mem_take hy)⟩
  rw [hTT] at hH hall
  obtain ⟨A1, c1, rfl, hm1, hR1⟩ := heads_of hown hH (fun b hb => Nat.lt_of_lt_of_le hb hB1.size)
  obtain ⟨A2, c2, rfl, hm2, hR2⟩ := rds_own hall
  have hcap := own_cap hall
  clear hTT hI hall hm1 hm2 hmn
  have hT1 := hT.below hB1 hT.1
  subst hTl
  have HTF := Sl.mk hTf
  have HTE := Sl.mk hTe
  obtain ⟨mm, hmm⟩ : ∃ mm, T.length = mm := ⟨_, rfl⟩
  obtain ⟨F, hF⟩ : ∃ F, T.flatten = F := ⟨_, rfl⟩
  rw [hF] at hR2 hTf hcap ⊢
  obtain ⟨kk, hkk⟩ : ∃ kk, F.length = kk := ⟨_, rfl⟩
  have hkk2 : kk ≤ 3600 := by rw [← hkk]; exact hTf
  have hFb : ∀ y ∈ F, y < 256 := by
    rw [← hF]
    intro y hy
    obtain ⟨l, hl, hy⟩ := List.mem_flatten.1 hy
    exact (hTe l hl).2 y hy
  have hTl : ∀ i, (T.getD i []).length ≤ 300 := fun i => by
    by_cases hi : i < T.length
    · have e : T.getD i [] = T[i] := by simp [hi]
      rw [e]; exact (hTe _ (List.getElem_mem hi)).1
    · have e : T.getD i [] = [] := by simp [List.getD, List.getElem?_eq_none (by omega : T.length ≤ i)]
      rw [e]; simp
  have HMM := Sl.mk hmm
  have HKK := Sl.mk hkk
  have HF := Sl.mk hF
  have HFB := Sl.mk hFb
  have HR1 := Sl.mk hR1
  have HR2 := Sl.mk hR2
  have HTLL := Sl.mk hTl
  rw [hmm] at hm12 ⊢
  rw [hkk] at hcap ⊢
  have hlo := hT1.1
  obtain ⟨N, hN⟩ : ∃ N, w1.heap.size = N := ⟨_, rfl⟩
  have HN := Sl.mk hN.symm
  clear hown hH hTf hTe hmm hkk hR1 hR2 hF hFb hTl
  go_upto_region 7 with fail
  obtain ⟨p, hp, hp12⟩ : ∃ p : Nat, wrap64 ((IntKind.u64.wrap at0).tmod 12) = (p : Int) ∧ p ≤ 11 := by
    have h0 : 0 ≤ IntKind.u64.wrap at0 := by rw [IntKind.wrap_u64]; omega
    have h1 : (IntKind.u64.wrap at0).tmod 12 = (IntKind.u64.wrap at0) % 12 := by rw [Int.tmod_eq_emod_of_nonneg h0]
    refine ⟨((IntKind.u64.wrap at0) % 12).toNat, ?_, by omega⟩
    rw [h1]; unfold wrap64; omega
  rw [hp]
  obtain ⟨w2, hw2⟩ : ∃ w2, w1.alloc (.cells (strC zS.1 zS.2.1 zS.2.2).toArray 31) = w2 := ⟨_, rfl⟩
  have hS2 : St w2 N zS := by rw [← hw2, ← hN]; exact Blk.new _ _ _
  have hB2 : Below N w1 w2 := by rw [← hw2, ← hN]; exact below_al (Below.refl _ _) _
  rw [hw2]
  rw [hN] at hlo
  clear hN hw2 hp
  go_wp2_with fail
  go_loopw [8, 9, 10] (fun v8 v9 v10 wr => ∃ i kf : Nat, Sl (kf = (T.take i).flatten.length) ∧ kf ≤ kk ∧ i ≤ mm ∧ v10 = .int .i64 (i : Int) ∧ v9 = .int .i64 (kf : Int) ∧ ForkAt wr N N p T i v8 ∧ St wr N (feedS zS (T.take i).flatten) ∧ Below N w1 wr) (fun _ _ v10 _ => mm - (intOf v10).toNat)
  case atStart => exact ⟨0, 0, ⟨by simp⟩, by omega, by omega, rfl, rfl, .inl ⟨by omega, rfl⟩, by simpa [feedS] using hS2, hB2⟩
  case round =>
    obtain ⟨i, kf, HKF, hkf, hi, rfl, rfl, hfork, hS, hB⟩ := hrel
    clear hS2 hB2
    by_cases hlt : i < mm
    · obtain ⟨ad, Ai, ci, rfl, hSb, hcell0, hrd⟩ := HR1.out i (by rw [HMM.out]; exact hlt)
      have hNw := HN.out
      have hfs := flat_succ (T := T) (i := i) (by rw [HMM.out]; exact hlt)
      have hfl := flat_len T (i + 1)
      have hl3 := HTLL.out i
      obtain ⟨l, hl⟩ : ∃ l, T.getD i [] = l := ⟨_, rfl⟩
      obtain ⟨k, hk⟩ : ∃ k, l.length = k := ⟨_, rfl⟩
      rw [hl] at hcell0 hrd hfs hl3
      rw [hk] at hcell0 hl3
      have hK := HKF.out
      have hkk3 : kf + k ≤ kk := by
        rw [hfs, List.length_append, ← hK, hk, HF.out, HKK.out] at hfl; exact hfl
      obtain ⟨kg, hkg⟩ : ∃ kg, kf + k = kg := ⟨_, rfl⟩
      have HKG : Sl (kg = (T.take (i + 1)).flatten.length) := .mk (by rw [hfs, List.length_append, ← hK, hk, hkg])
      have hcell : wr.cell? (ad.add i) = some (.slice Ai k ci) := (hB.cell (p := ad.add i) (by rw [block_of_add, hNw]; exact hSb)).trans hcell0
      have hBn : (N : Nat) < wr.heap.size := Blk.lt hS
      have hTr : Tabs wr := hT1.below hB (by omega)
      have hr : RdS wr (fun b => b < wr.heap.size ∧ b ≠ N) Ai l := rds_mono (hrd.keep (fun q hq => hB.cell (by rw [hNw]; exact hq))) (fun b hb => by rw [← hNw] at hb; exact ⟨by omega, by omega⟩)
      have hwrite := write_one N (feedS zS (T.take i).flatten) Ai ci k l wr hk (feedS_ok zS_ok _) (by rw [feedS_n, ← hK]; show 0 + kf ≤ _; omega) (by omega) (by omega) hTr hS hr
      rw [← feedS_app, ← hfs] at hwrite
      have HW := Sl.mk hwrite
      have HFS := Sl.mk hfs
      have HCE : Sl (w1.cell? (ad.add i) = some (.slice Ai k ci)) := .mk hcell0
      have HSB : Sl (ad.block < N) := .mk (by rw [hNw]; exact hSb)
      clear hwrite hfs hfl hl hk hK hcell0 hrd hr hSb hTr hNw
      go_wp2_with fail
      refine HW.out.mono ?_
      rintro e w3 ⟨rfl, hS3, hG3⟩
      have hBa : Below N w1 (wr.alloc (.cells #[.slice Ai k ci] 23)) := below_alN HN.out hB _
      have hB3 : Below N w1 w3 := below_only hBa hG3 (by rw [HN.out]; exact hBa.size) (Nat.le_refl _)
      have hF3 := (hfork.be (below_al (Below.refl wr.heap.size wr) (.cells #[.slice Ai k ci] 23))).only hG3
      have hcell3 : w3.cell? (ad.add i) = some (.slice Ai k ci) := (hB3.cell (p := ad.add i) (by rw [block_of_add]; exact HSB.out)).trans HCE.out
      have hT3 : Tabs w3 := hT1.below hB3 (by omega)
      clear hfork hS hB hcell hBn hG3 hBa HW
      go_upto_region 10 with fail
      go_cut [9] (fun v9 wx => v9 = .int .i64 (kg : Int) ∧ wx = w3)
      case first =>
        have hkgi : (kf : Int) + (k : Int) = (kg : Int) := by omega
        go_wp2_with fail
        go_meet
        exact ⟨rfl, rfl⟩
      case rest =>
        obtain ⟨rfl, rfl⟩ := hcut
        clear hcell3
        go_upto_if 43 with fail
        go_cut [8] (fun v8 wx => ForkAt wx N N p T (i + 1) v8 ∧ St wx N (feedS zS (T.take (i + 1)).flatten) ∧ Below N w1 wx)
        case first =>
          by_cases hip : i = p
          · subst hip
            rcases hF3 with ⟨-, rfl⟩ | ⟨h, -⟩
            · have hgl : 1 < wc.heap.size := hT3.1
              go_wp2_with fail
              refine (fork_any N _ wc (feedS_ok zS_ok _) hS3).mono ?_
              rintro e w4 ⟨rfl, hS4, hB4⟩
              have hS34 := Blk.be hS3 hB4
              have hE4 := below_trN HN.out hB3 hB4
              have hT4 := hT3.below hB4 hT3.1
              have hgk : wc.heap.size < w4.heap.size := Blk.lt hS4
              have hNc : N < wc.heap.size := Blk.lt hS3
              have hba : Below w4.heap.size w4 (w4.alloc (.cells #[.int .u8 1] 5)) := below_al (Below.refl _ _) _
              have hS5 := Blk.alloc hS4 (.cells #[.int .u8 1] 5)
              have hS35 := Blk.alloc hS34 (.cells #[.int .u8 1] 5)
              have hE5 := below_alN HN.out hE4 (.cells #[.int .u8 1] 5)
              have hT5 := hT4.below hba hT4.1
              have hsz5 : (w4.alloc (.cells #[.int .u8 1] 5)).heap.size = w4.heap.size + 1 := by simp
              have hr5 : RdS (w4.alloc (.cells #[.int .u8 1] 5)) (fun b => b < (w4.alloc (.cells #[.int .u8 1] 5)).heap.size ∧ b ≠ wc.heap.size) (some ⟨w4.heap.size, 0, none⟩) [1] :=
                rd_cells ⟨by rw [hsz5]; omega, by omega⟩ (fun j hj => by
                  obtain rfl : j = 0 := by simpa using hj
                  exact blk_at (l := [.int .u8 1]) (Blk.new w4 5 #[.int .u8 1]) rfl)
              have hwrite := write_one wc.heap.size (feedS zS (T.take (i + 1)).flatten) (some ⟨w4.heap.size, 0, none⟩) 1 1 [1] (w4.alloc (.cells #[.int .u8 1] 5)) rfl (feedS_ok zS_ok _) (by rw [feedS_n, ← HKG.out]; show 0 + kg ≤ _; omega) (by omega) hgl hT5 hS5 hr5
              rw [← feedS_app] at hwrite
              rw [hsz5] at hwrite
              have HW := Sl.mk hwrite
              clear hwrite hr5 hS4 hS34 hE4 hT4 hT5
              go_wp2_with fail
              refine HW.out.mono ?_
              rintro e w6 ⟨rfl, hS6, hG6⟩
              have hE5' := below_alN HN.out hE5 (.cells #[.slice (some ⟨w4.heap.size, 0, none⟩) 1 1] 23)
              have hE6 : Below N w1 w6 := below_only hE5' hG6 (by rw [HN.out]; exact hE5'.size) (by omega)
              have hS36 : St w6 N (feedS zS (T.take (i + 1)).flatten) := blk_only (Blk.alloc hS35 (.cells #[.slice (some ⟨w4.heap.size, 0, none⟩) 1 1] 23)) hG6 (by omega)
              clear HW hS5 hS35 hE5 hE5' hG6
              go_wp2_with fail
              go_meet
              exact ⟨.inr ⟨by omega, wc.heap.size, rfl, by omega, by omega, hS6⟩, hS36, hE6⟩
            · omega
          · have hipd : ((i : Int) == (p : Int)) = false := by simp; omega
            go_wp2_with fail
            go_meet
            refine ⟨?_, hS3, hB3⟩
            rcases hF3 with ⟨h, rfl⟩ | ⟨h, gk, h2, h3, h4, h5⟩
            · exact .inl ⟨by omega, rfl⟩
            · exact .inr ⟨by omega, gk, h2, h3, h4, h5⟩
        case rest =>
          obtain ⟨hF4, hS4, hB4⟩ := hcut
          obtain ⟨D, hD⟩ : ∃ D, shaF (T.take (i + 1)).flatten = D := ⟨_, rfl⟩
          have hDl : D.length = 32 := by rw [← hD, shaF_len]
          have hne := neq_dig D hDl
          have hPk : (T.take (i + 1)).flatten.length = kg := HKG.out.symm
          have hPt : F.take kg = (T.take (i + 1)).flatten := by rw [HKG.out, ← HF.out]; exact flat_take T (i + 1)
          have hTc : Tabs wc := hT1.below hB4 (by omega)
          have hR2c : RdS wc (fun b => b < wc.heap.size) A2 (T.take (i + 1)).flatten := by
            rw [← hPt]
            refine rds_take (rds_lt HR2.out ?_) kg
            rw [← HN.out]; exact hB4
          have kL := fun W (hb : Below wc.heap.size wc W) => len_at N kg _ wc W hPk hS4 hb
          have kS := fun W (hb : Below wc.heap.size wc W) => sum_at N _ D wc W hD (by rw [hPk]; omega) hTc hS4 hb
          have kO := fun W b (hb : Below wc.heap.size wc W) hB => of_at A2 c2 kg b _ D wc W hD hPk (by omega) hTc hR2c hb hB
          have hS0 : Below wc.heap.size wc wc.drew := (Below.refl _ wc).drew
          have hkcap : (kg : Int) ≤ (c2 : Int) := by omega
          have hkg0 : (0 : Int) ≤ (kg : Int) := by omega
          clear hD hDl hPt hR2c hTc
          go_wp2_with fail
          go_cut [67] (fun v67 wx => v67 = .bool false ∧ Below wc.heap.size wc wx)
          case first =>
            go_region_held3 (fun W => Below wc.heap.size wc W) (first | assumption | exact below_al (by assumption) _)
              (first
                | (go_at_call 11; refine (kL _ ?_).mono ?_; (focus assumption); rintro e w' ⟨rfl, rfl⟩)
                | (go_at_call 12; refine (kS _ ?_).mono ?_; (focus assumption); rintro e w' ⟨rfl, hbs, hss⟩)
                | (go_at_call 13; refine (kO _ _ ?_ ?_).mono ?_; (focus assumption); (focus (first | exact Blk.new _ _ _ | exact Blk.drew (Blk.new _ _ _) | exact Blk.be (Blk.drew (Blk.new _ _ _)) hbs)); rintro e w' ⟨rfl, hbo, hso⟩))
            all_goals (go_wp2_with fail; go_meet)
            all_goals exact ⟨rfl, by assumption⟩
          case rest =>
            obtain ⟨rfl, hBw⟩ := hcut
            have hS9 := Blk.be hS4 hBw
            have hF9 := hF4.be hBw
            have hB9 := below_trN HN.out hB4 hBw
            clear hS4 hF4 hB4 hBw kL kS kO hS0 hS3 hF3 hB3 hT3
            go_wp2_with fail
            go_roundw
            case rel => exact ⟨i + 1, kg, HKG, by omega, by omega, by go_num, rfl, hF9, hS9, hB9⟩
            case measure => simp [intOf]; omega
    · have him : i = mm := by omega
      have hFt : (T.take i).flatten = F := by rw [him, ← HMM.out, List.take_length, HF.out]
      rw [hFt] at hS
      have hTr : Tabs wr := hT1.below hB (by omega)
      have hR2x : RdS wr (fun b => b < wr.heap.size) A2 F := rds_lt HR2.out (by rw [← HN.out]; exact hB)
      have hqe := eql_dig (shaF F) (shaF F) (shaF_len _) (shaF_len _)
      rw [show (shaF F == shaF F) = true by simp] at hqe
      clear him hFt
      rcases hfork with ⟨hip, rfl⟩ | ⟨hpi, gk, rfl, hgk, hgn, hSk⟩
      · go_wp2_with fail
        refine (known_any _ hTr).mono ?_
        rintro e w14 ⟨rfl, hB14⟩
        go_wp2_with fail
        refine (sum_at N F (shaF F) wr _ rfl (by rw [HKK.out]; omega) hTr hS hB14).mono ?_
        rintro e w15 ⟨rfl, hB15, hB15'⟩
        go_wp2_with fail
        refine (make_any _).mono ?_
        rintro e w16 ⟨rfl, hB16⟩
        have hB16' := below_tr hB15' hB16
        have hR16 := rds_lt hR2x hB16'
        have hrs := rsum_any A2 c2 F _ w16 (by rw [HKK.out]; omega) HFB.out hR16 (fun _ h => h)
        rw [HKK.out] at hrs
        have HRS := Sl.mk hrs
        clear hrs hR16
        go_wp2_with fail
        refine HRS.out.mono ?_
        rintro e w17 ⟨rfl, hB17⟩
        have hB17' := below_tr hB16' hB17
        have hfin : Below w.heap.size w w17 := hB1.trans ((below_trN HN.out hB hB17').mono (by rw [HN.out]; exact hB1.size))
        go_wp2_with fail
        go_ret
        exact ⟨rfl, hfin⟩
      · obtain ⟨wq, hwq⟩ : ∃ wq, wq = wr := ⟨_, rfl⟩
        subst hwq
        go_wp2_with fail
        go_loopw [11, 12] (fun v11 v12 wx => ∃ j kj : Nat, Sl (kj = (T.take j).flatten.length) ∧ kj ≤ kk ∧ j ≤ p + 1 ∧ v12 = .int .i64 (j : Int) ∧ v11 = .int .i64 (kj : Int) ∧ wx = wq) (fun _ v12 _ => p + 1 - (intOf v12).toNat)
        case atStart => exact ⟨0, 0, ⟨by simp⟩, by omega, by omega, rfl, rfl, rfl⟩
        case round =>
          obtain ⟨j, kj, HKJ, hkj, hj, rfl, rfl, rfl⟩ := hrel
          by_cases hjp : j ≤ p
          · have hjd : decide ((j : Int) ≤ (p : Int)) = true := by simp; omega
            have hjm : j < mm := by omega
            obtain ⟨ad, Ai, ci, rfl, hSb, hcell0, hrd⟩ := HR1.out j (by rw [HMM.out]; exact hjm)
            have hNw := HN.out
            have hfs := flat_succ (T := T) (i := j) (by rw [HMM.out]; exact hjm)
            have hfl := flat_len T (j + 1)
            obtain ⟨k, hk⟩ : ∃ k, (T.getD j []).length = k := ⟨_, rfl⟩
            rw [hk] at hcell0
            have hkk3 : kj + k ≤ kk := by
              rw [hfs, List.length_append, ← HKJ.out, hk, HF.out, HKK.out] at hfl; exact hfl
            have HKG : Sl (kj + k = (T.take (j + 1)).flatten.length) := .mk (by rw [hfs, List.length_append, ← HKJ.out, hk])
            have hcell : wr.cell? (ad.add j) = some (.slice Ai k ci) := (hB.cell (p := ad.add j) (by rw [block_of_add, hNw]; exact hSb)).trans hcell0
            clear hfs hfl hk hcell0 hrd hSb hNw
            go_wp2_with fail
            go_roundw
            case rel => exact ⟨j + 1, kj + k, HKG, by omega, by omega, by go_num, by go_num, trivial⟩
            case measure => simp [intOf]; omega
          · have hjd : decide ((j : Int) ≤ (p : Int)) = false := by simp; omega
            have hjp1 : j = p + 1 := by omega
            rw [← hjp1] at hSk
            have hPk : (T.take j).flatten.length = kj := HKJ.out.symm
            obtain ⟨P, hP⟩ : ∃ P, (T.take j).flatten = P := ⟨_, rfl⟩
            have hPt : F.take kj = P := by rw [HKJ.out, ← HF.out, ← hP]; exact flat_take T j
            rw [hP] at hSk hPk
            obtain ⟨D, hD⟩ : ∃ D, shaF (P ++ [1]) = D := ⟨_, rfl⟩
            have hDl : D.length = 32 := by rw [← hD, shaF_len]
            have hne := neq_dig D hDl
            have hPk1 : (P ++ [1]).length = kj + 1 := by rw [List.length_append, hPk]; rfl
            have hR2c : RdS wr (fun b => b < wr.heap.size) A2 P := by rw [← hPt]; exact rds_take hR2x kj
            have kL : ∀ W, Below wr.heap.size wr W → Calls Tryd.prog 11 #[.pointer (some ⟨gk, 0, none⟩)] W fun e w' => e = .returned (.int .i64 ((kj : Int) + 1)) ∧ W = w' := fun W (hb : Below wr.heap.size wr W) => len_at gk (kj + 1) _ wr W hPk1 hSk hb
            have kS := fun W (hb : Below wr.heap.size wr W) => sum_at gk _ D wr W hD (by rw [hPk1]; omega) hTr hSk hb
            have kO := fun W b (hb : Below wr.heap.size wr W) (hB : ∃ b1, Blk W b1 5 #[.int .u8 1] ∧ Blk W b 23 #[.slice A2 kj c2, .slice (some ⟨b1, 0, none⟩) 1 1]) => of_two' A2 c2 kj b _ D wr W hD hPk (by omega) hTr hR2c hb hB
            have hS0 : Below wr.heap.size wr wr.drew := (Below.refl _ wr).drew
            have hkcap : (kj : Int) ≤ (c2 : Int) := by omega
            have hwr : IntKind.i64.wrap ((kj : Int) + 1) = (kj : Int) + 1 := by rw [IntKind.wrap_i64]; omega
            have hkg0 : (0 : Int) ≤ (kj : Int) := by omega
            clear hD hDl hPt hR2c hjp1 hPk hP hPk1
            obtain ⟨wz, hwz⟩ : ∃ wz, wz = wr := ⟨_, rfl⟩
            subst hwz
            go_wp2_with fail
            go_cut [97] (fun v97 wx => v97 = .bool false ∧ Below wz.heap.size wz wx)
            case first =>
              go_region_held3 (fun W => Below wz.heap.size wz W) (first | assumption | exact below_al (by assumption) _)
                (first
                  | (go_at_call 11; refine (kL _ ?_).mono ?_; (focus assumption); rintro e w' ⟨rfl, rfl⟩)
                  | (go_at_call 12; refine (kS _ ?_).mono ?_; (focus assumption); rintro e w' ⟨rfl, hbs, hss⟩)
                  | (go_at_call 13; refine (kO _ _ ?_ ?_).mono ?_; (focus assumption); (focus (first | (refine ⟨_, Blk.alloc (Blk.new _ _ _) _, Blk.new' ?_⟩; simp; done) | exact ⟨_, Blk.alloc (Blk.be (Blk.drew (Blk.new _ _ _)) hbs) _, Blk.new _ _ _⟩ | (refine ⟨_, Blk.be (Blk.drew (Blk.alloc (Blk.new _ _ _) _)) hbs, Blk.be (Blk.drew (Blk.new' ?_)) hbs⟩; simp; done))); rintro e w' ⟨rfl, hbo, hso⟩))
              all_goals (go_wp2_with fail; go_meet)
              all_goals exact ⟨rfl, by assumption⟩
            case rest =>
              obtain ⟨rfl, hBw⟩ := hcut
              have hSz := Blk.be hS hBw
              have hTz := hTr.below hBw hTr.1
              have hBz := below_trN HN.out hB hBw
              have hRz := rds_lt hR2x hBw
              clear kL kS kO hS0 hS hSk hTr hB hR2x hBw
              go_wp2_with fail
              refine (known_any _ hTz).mono ?_
              rintro e w14 ⟨rfl, hB14⟩
              go_wp2_with fail
              refine (sum_at N F (shaF F) wc _ rfl (by rw [HKK.out]; omega) hTz hSz hB14).mono ?_
              rintro e w15 ⟨rfl, hB15, hB15'⟩
              go_wp2_with fail
              refine (make_any _).mono ?_
              rintro e w16 ⟨rfl, hB16⟩
              have hB16' := below_tr hB15' hB16
              have hR16 := rds_lt hRz hB16'
              have hrs := rsum_any A2 c2 F _ w16 (by rw [HKK.out]; omega) HFB.out hR16 (fun _ h => h)
              rw [HKK.out] at hrs
              have HRS := Sl.mk hrs
              clear hrs hR16
              go_wp2_with fail
              refine HRS.out.mono ?_
              rintro e w17 ⟨rfl, hB17⟩
              have hB17' := below_tr hB16' hB17
              have hfin : Below w.heap.size w w17 := hB1.trans ((below_trN HN.out hBz hB17').mono (by rw [HN.out]; exact hB1.size))
              go_wp2_with fail
              go_ret
              exact ⟨rfl, hfin⟩

end Go.Proofs.YtaffjcenojikjaaDoor
