/-
  The contract of creelref12.Decode.
-/
import Derived.Test.YticcphppnmoogaaGreatDoorRe1
import Derived.Test.YticcphppnmoogaaGreatDoorBy28
import Derived.Test.YticcphppnmoogaaGreatDoorBy18
import Derived.IntWalk

namespace Go.Proofs.YticcphppnmoogaaGreatDoor
open Go.RowKit
attribute [local go_sem ↓] Go.wp_at_zero Go.wp_at_succ

theorem crel_str {p : List Nat} (h : ∀ x ∈ p, x < 256) : ((strN p).toList == [67, 82, 69, 76]) = eqB p crel := by
  have h1 := strN_eq h (show ∀ x ∈ crel, x < 256 by decide)
  rw [show (strN crel).toList = [67, 82, 69, 76] by decide +kernel] at h1
  exact h1

theorem strs_set {w : World} {B g i n : Nat} {T : TypeId} {cs : Array Value} {A : Option Addr} {q : List ByteArray} {u : Value} (h : Reads w B 1 A n (strV q)) (hB : Blk w g T cs) (hns : ∀ (j : Nat) (s : ByteArray), cs[j]? ≠ some (Value.string s)) : Reads (w.setCell ⟨g, i, none⟩ u) B 1 A n (strV q) :=
  ⟨h.1, fun hn => by
    obtain ⟨ad, e, hb, hc⟩ := h.2 hn
    refine ⟨ad, e, hb, fun j v hv => ?_⟩
    have h1 := hc j v hv
    rw [World.cell?_setCell_other w ⟨g, i, none⟩ (ad.add j) u (fun e2 => ?_)]
    · exact h1
    · first | rw [e2] at h1 | rw [← e2] at h1
      rw [hB.cell] at h1
      obtain ⟨s, _, rfl⟩ := List.mem_map.1 (List.mem_of_getElem? hv)
      exact hns _ _ h1⟩
theorem ent_nostr (a b c d : Value) (ha : ∀ s, a ≠ .string s) (hb : ∀ s, b ≠ .string s) (hc : ∀ s, c ≠ .string s) (hd : ∀ s, d ≠ .string s) : ∀ (j : Nat) (s : ByteArray), #[a, b, c, d][j]? ≠ some (Value.string s) := by
  intro j s h
  match j, h with
  | 0, h => exact ha s (by simpa using h)
  | 1, h => exact hb s (by simpa using h)
  | 2, h => exact hc s (by simpa using h)
  | 3, h => exact hd s (by simpa using h)
  | j + 4, h => simp at h

/-- What the operations of one more entry leave. -/
def RMoreP (B n : Nat) (li : List Ex) (x : Ex) (k : Nat) (v : Value) (w : World) : Prop := match k with
  | 0 => ∃ g, v = .slice (some ⟨g, 0, none⟩) 0 0 ∧ B ≤ g ∧ Blk w g 64 #[]
  | 2 => ∃ A c, v = .slice A n c ∧ w.ownsRow B 64 4 (.slice A n c) n (exsC li)
  | 4 => ∃ g, v = .slice (some ⟨g, 0, none⟩) 1 1 ∧ Reads w w.heap.size 4 (some ⟨g, 0, none⟩) 1 (exC x)
  | _ => False

set_option maxRecDepth 100000 in
set_option maxHeartbeats 16000000 in
theorem rdecode_any (A : Option Addr) (n c : Nat) (b : List Nat) (w : World) (hn : n ≤ 5000) (hc : n ≤ c ∧ c ≤ 9223372036854775807) (hby : ∀ x ∈ b, x < 256) (hR : Reads w w.heap.size 1 A n (u8s b)) :
    Calls Tryz.prog 6 #[.agg (i64s tabT).toArray, .slice A n c] w (DecPost w b) := by
  have hl := bytes_n hR
  obtain ⟨r0, hr0, hv0, hv1, hv2⟩ := info_parts refInfo
  obtain ⟨TT, hTT⟩ : ∃ TT, (i64s tabT).toArray = TT := ⟨_, rfl⟩
  have HTTB := Sl.mk (fun w => Blk.new w 33 TT)
  rw [hTT]
  have HTT := Sl.mk hTT
  have HT72 := Sl.mk (show TT.size = 72 by rw [← hTT]; rfl)
  have HY := Sl.mk hby
  have HL := Sl.mk hl
  have HB0 := Sl.mk (below_al (Below.refl w.heap.size w) (.cells TT 33))
  clear hTT
  by_cases h4 : n < 4
  · have hP : eqB (b.take 4) crel = false := by
      unfold eqB
      simp only [decide_eq_false_iff_not]
      intro h
      have := congrArg List.length h
      rw [List.length_take] at this
      simp [crel] at this
      omega
    have HD := Sl.mk (show decodeF b = none by unfold decodeF; rw [if_neg (by rw [hP]; simp)])
    have HDN := Sl.mk (show decodeN b = (0, 3) from if_pos hP)
    have h4' : (n : Int) < 4 := by omega
    clear hP hl hby hR h4
    go_enter Tryz.func6, Tryz.ntmps6
    go_wp2_with fail
    go_ret3
    exact ⟨HB0.out, .inl ⟨HD.out, 0, 3, by decide, HDN.out, rfl⟩⟩
  have h4' : ¬ (n : Int) < 4 := by omega
  obtain ⟨ad, rfl, -, -⟩ := hR.2 (by omega)
  obtain ⟨bk, o, rfl, hbk, hcell⟩ := reads_lit hR (by omega)
  have HC := Sl.mk (fun (W : World) (hW : Below w.heap.size w W) (j : Nat) (u : Value) (hu : (u8s b)[j]? = some u) => (hW.cell (p := ⟨bk, o + j, none⟩) hbk).trans (hcell j u hu))
  have hcs := crel_str (p := b.take 4) (fun x hx => hby x (List.mem_of_mem_take hx))
  have HCV := Sl.mk (fun (W : World) (hW : Below w.heap.size w W) (a m cc : Nat) (ha : a + m ≤ n) => conv_str (c := cc) (sub_reads (a := a) (m := m) hl (B := W.heap.size) (Nat.lt_of_lt_of_le hbk hW.size) (HC.out W hW) ha) (fun x hx => hby x (List.mem_of_mem_drop (List.mem_of_mem_take hx))))
  obtain ⟨S4, hS4⟩ : ∃ S4, strN (b.take 4) = S4 := ⟨_, rfl⟩
  have hcv := HCV.out _ HB0.out 0 4 c (by omega)
  rw [List.drop_zero, hS4, Nat.add_zero] at hcv
  rw [hS4] at hcs
  cases hP : eqB (b.take 4) crel
  · rw [hP] at hcs
    have hcs' : (S4.toList != [67, 82, 69, 76]) = true := by rw [bne, hcs]; rfl
    have HD := Sl.mk (show decodeF b = none by unfold decodeF; rw [if_neg (by rw [hP]; simp)])
    have HDN := Sl.mk (show decodeN b = (0, 3) from if_pos hP)
    clear hP hl hby hR h4 hS4 hcell
    go_enter Tryz.func6, Tryz.ntmps6
    go_wp2_with fail
    go_ret3
    exact ⟨HB0.out, .inl ⟨HD.out, 0, 3, by decide, HDN.out, rfl⟩⟩
  rw [hP] at hcs
  have hcs' : (S4.toList != [67, 82, 69, 76]) = false := by rw [bne, hcs]; rfl
  by_cases h5 : n < 5
  · have HD := Sl.mk (show decodeF b = none by unfold decodeF; rw [if_neg (fun h => by have := h.2.1; omega)])
    have HDN := Sl.mk (show decodeN b = (0, 4) by unfold decodeN; rw [if_neg (by rw [hP]; simp), if_pos (by omega)])
    have h5' : (n : Int) < 5 := by omega
    clear hP hl hby hR h4 h5 hS4 hcell
    go_enter Tryz.func6, Tryz.ntmps6
    go_wp2_with fail
    go_ret3
    exact ⟨HB0.out, .inl ⟨HD.out, 0, 4, by decide, HDN.out, rfl⟩⟩
  have h5' : ¬ (n : Int) < 5 := by omega
  have h4n : (4 : Int) < (n : Int) := by omega
  obtain ⟨N, hN⟩ : ∃ N, b[4]? = some N := byte_at (by omega)
  have hgN : b.getD 4 0 = N := by rw [List.getD_eq_getElem?_getD, hN]; rfl
  have hN256 : N < 256 := hby N (List.mem_of_getElem? hN)
  have hc4 := HC.out _ HB0.out 4 (.int .u8 (N : Nat)) (by simp [u8s, hN])
  by_cases h40 : 40 < N
  · have HD := Sl.mk (show decodeF b = none by unfold decodeF; rw [if_neg (fun h => by have := h.2.2; rw [hgN] at this; omega)])
    have HDN := Sl.mk (show decodeN b = (0, 2) by unfold decodeN; rw [if_neg (by rw [hP]; simp), if_neg (by omega), hgN, if_pos h40])
    have h40' : (40 : Int) < (N : Int) := by omega
    clear hP hl hby hR h4 h5 hS4 hN hgN h40 hcell
    go_enter Tryz.func6, Tryz.ntmps6
    go_wp2_with fail
    go_ret3
    exact ⟨HB0.out, .inl ⟨HD.out, 0, 2, by decide, HDN.out, rfl⟩⟩
  have HD := Sl.mk (show decodeF b = (decF N (b.drop 5) []).bind fun r => if r.2 = [] then some r.1 else none by
    unfold decodeF
    rw [if_pos ⟨hP, by omega, by rw [hgN]; omega⟩, hgN])
  have HDN := Sl.mk (show decodeN b = errK N 0 (b.drop 5) [] by unfold decodeN; rw [if_neg (by rw [hP]; simp), if_neg (by omega), hgN, if_neg h40])
  have h40' : ¬ (40 : Int) < (N : Int) := by omega
  have hN40 : N ≤ 40 := by omega
  have hn5 : 5 ≤ n := by omega
  have HBK := Sl.mk hbk
  clear hP hl hby hR h4 h5 hS4 hN hgN h40 hcell
  obtain ⟨w0, hw0⟩ : ∃ w0, w.alloc (.cells TT 33) = w0 := ⟨_, rfl⟩
  have hT0 : Blk w0 w.heap.size 33 TT := by rw [← hw0]; exact HTTB.out w
  rw [hw0] at HB0 hcv hc4
  go_enter Tryz.func6, Tryz.ntmps6
  go_wp2_with fail
  clear hw0 hcv hc4
  have hE0 := HB0.out
  go_loopw [8, 9, 10] (fun v8 v9 v10 wr => ∃ (i at_ : Nat) (Al : Option Addr) (cl : Nat) (li : List Ex), i ≤ N ∧ at_ ≤ n ∧ v10 = .int .i64 i ∧ v8 = .int .i64 at_ ∧ v9 = .slice Al i cl ∧ i ≤ cl ∧ cl ≤ 9223372036854775807 ∧ Exs wr Al i li ∧ Sl (decF N (b.drop 5) [] = decF (N - i) (b.drop at_) (li.map (·.e)) ∧ errK N 0 (b.drop 5) [] = errK (N - i) i (b.drop at_) (li.map (·.e))) ∧ Blk wr w.heap.size 33 TT ∧ Below w.heap.size w wr) (fun _ _ v10 _ => N - (intOf v10).toNat)
  case atStart => exact ⟨0, 5, none, 0, [], Nat.zero_le _, hn5, rfl, rfl, rfl, Nat.le_refl _, by omega, exs_nil w0, ⟨rfl, rfl⟩, hT0, hE0⟩
  case round =>
    clear hT0 hE0
    obtain ⟨i, at_, Al, cl, li, hi, hat, rfl, rfl, rfl, hicl, hclm, hLi, HDE, hTr, hB⟩ := hrel
    by_cases hil : i < N
    · have hNi : N - i = (N - i - 1) + 1 := by omega
      have HBAD := Sl.mk (fun E (hE : nextE (b.drop at_) false li = E) (h0 : E ≠ 0) => show decodeF b = none ∧ decodeN b = (i, E) from
        ⟨by rw [HD.out, HDE.out.1, hNi, decF_bad (by rw [hE]; exact h0)]; rfl, by rw [HDN.out, HDE.out.2, hNi, errK_bad (by rw [hE]; exact h0), hE]⟩)
      have HOKK := Sl.mk (fun (h0 : nextE (b.drop at_) false li = 0) => show decF N (b.drop 5) [] = decF (N - (i + 1)) (readF (b.drop at_) false).b (li.map (·.e) ++ [entF (readF (b.drop at_) false)]) ∧ errK N 0 (b.drop 5) [] = errK (N - (i + 1)) (i + 1) (readF (b.drop at_) false).b (li.map (·.e) ++ [entF (readF (b.drop at_) false)]) from
        ⟨by rw [HDE.out.1, hNi, decF_ok h0, Nat.sub_sub], by rw [HDE.out.2, hNi, errK_ok h0, Nat.sub_sub]⟩)
      clear hNi HDE
      by_cases ha4 : at_ + 4 ≤ n
      rotate_left 1
      · have HX := Sl.mk (HBAD.out 4 (nextE_short (read_short1 (by rw [List.length_drop, HL.out]; omega))) (by decide))
        have ha4' : (at_ : Int) + 4 > (n : Int) := by omega
        clear ha4
        go_wp2_with fail
        go_ret3
        exact ⟨hB, .inl ⟨HX.out.1, i, 4, by decide, HX.out.2, rfl⟩⟩
      have ha4' : ¬ (at_ : Int) + 4 > (n : Int) := by omega
      obtain ⟨k0, hk0⟩ := byte_at (b := b) (i := at_) (by rw [HL.out]; omega)
      obtain ⟨m1, hm1⟩ := byte_at (b := b) (i := at_ + 1) (by rw [HL.out]; omega)
      obtain ⟨m2, hm2⟩ := byte_at (b := b) (i := at_ + 2) (by rw [HL.out]; omega)
      obtain ⟨pl, hpl⟩ := byte_at (b := b) (i := at_ + 3) (by rw [HL.out]; omega)
      have HD4 := Sl.mk (drop_four hk0 hm1 hm2 hpl)
      have hk256 := HY.out k0 (List.mem_of_getElem? hk0)
      have hm1256 := HY.out m1 (List.mem_of_getElem? hm1)
      have hm2256 := HY.out m2 (List.mem_of_getElem? hm2)
      have hpl256 := HY.out pl (List.mem_of_getElem? hpl)
      have HCC := Sl.mk (fun (W : World) (hW : Below w.heap.size w W) => And.intro (HC.out W hW at_ (.int .u8 (k0 : Nat)) (by simp [u8s, hk0])) (And.intro (HC.out W hW (at_ + 1) (.int .u8 (m1 : Nat)) (by simp [u8s, hm1])) (And.intro (HC.out W hW (at_ + 2) (.int .u8 (m2 : Nat)) (by simp [u8s, hm2])) (HC.out W hW (at_ + 3) (.int .u8 (pl : Nat)) (by simp [u8s, hpl])))))
      clear hk0 hm1 hm2 hpl
      obtain ⟨-, -, -, d3⟩ := HCC.out _ hB
      by_cases hp2 : at_ + 4 + pl + 2 ≤ n
      rotate_left 1
      · have HX := Sl.mk (HBAD.out 4 (nextE_short (by rw [HD4.out]; exact read_short2 (by rw [List.length_drop, HL.out]; omega))) (by decide))
        have hp2' : (at_ : Int) + 4 + (pl : Int) + 2 > (n : Int) := by omega
        clear hp2
        go_wp2_with fail
        go_ret3
        exact ⟨hB, .inl ⟨HX.out.1, i, 4, by decide, HX.out.2, rfl⟩⟩
      have hp2' : ¬ (at_ : Int) + 4 + (pl : Int) + 2 > (n : Int) := by omega
      go_wp2_with fail
      obtain ⟨wd, hwd⟩ : ∃ wd, wr.drew = wd := ⟨_, rfl⟩
      have hbd : Below wr.heap.size wr wd := by rw [← hwd]; exact (Below.refl _ _).drew
      have hEd := below_tr hB hbd
      have HSF := Sl.mk (fun (W : World) (hW : Below wd.heap.size wd W) => And.intro (HCC.out W (below_tr hEd hW)).1 (And.intro (HCC.out W (below_tr hEd hW)).2.1 (HCC.out W (below_tr hEd hW)).2.2.1))
      have hTd := hTr.be hbd
      have HLr := Sl.mk hLi
      clear d3 hTr hLi hB
      refine wp_region_X (fun W => Below wd.heap.size wd W) [21] (by kernel_rfl) (by rw [hwd]; exact Below.refl _ _) (fun hS => ?_)
      rw [hwd] at hS ⊢
      clear hwd
      have hx0 : at_ < n := by omega
      have hx1 : (at_ : Int) + 1 < (n : Int) := by omega
      have hx2 : (at_ : Int) + 2 < (n : Int) := by omega
      have hy1 : (0 : Int) ≤ (at_ : Int) + 1 := by omega
      have hy2 : (0 : Int) ≤ (at_ : Int) + 2 := by omega
      have hz1 : ((at_ : Int) + 1).toNat = at_ + 1 := by omega
      have hz2 : ((at_ : Int) + 2).toNat = at_ + 2 := by omega
      have hw1 : IntKind.i64.wrap ((at_ : Int) + 1) = (at_ : Int) + 1 := IntWalk.i64_in _ (by omega)
      have hw2 : IntKind.i64.wrap ((at_ : Int) + 2) = (at_ : Int) + 2 := IntWalk.i64_in _ (by omega)
      have hw3 : IntKind.i64.wrap ((m1 : Int) * 256) = (m1 : Int) * 256 := IntWalk.i64_in _ (by omega)
      have hw4 : IntKind.i64.wrap ((m1 : Int) * 256 + (m2 : Int)) = (m1 : Int) * 256 + (m2 : Int) := IntWalk.i64_in _ (by omega)
      have hw5 : IntKind.i64.wrap (k0 : Int) = (k0 : Int) := IntWalk.i64_in _ (by omega)
      have hw6 : IntKind.i64.wrap (m1 : Int) = (m1 : Int) := IntWalk.i64_in _ (by omega)
      have hw7 : IntKind.i64.wrap (m2 : Int) = (m2 : Int) := IntWalk.i64_in _ (by omega)
      refine wpAnyX_S (i := 0) (v := ?_) rfl (by kernel_rfl) (by kernel_rfl) (by kernel_rfl) (by kernel_rfl) (fun _ _ _ h => h) (Or.inl ⟨by rfl, ?_⟩) hS ?_
      rotate_left 1
      · (intro w' hw'; (first | rw [hw'] | (have hw2 := HSF.out w' hw') | skip); go_simp; (try with_reducible rfl))
      simp only [Act.put, List.setIfInBounds_toArray, List.set_cons_zero, List.set_cons_succ]
      refine wpAnyX_S (i := 1) (v := ?_) rfl (by kernel_rfl) (by kernel_rfl) (by kernel_rfl) (by kernel_rfl) (fun _ _ _ h => h) (Or.inl ⟨by rfl, ?_⟩) hS ?_
      rotate_left 1
      · (intro w' hw'; (first | rw [hw'] | (have hw2 := HSF.out w' hw') | skip); go_simp; (try with_reducible rfl))
      simp only [Act.put, List.setIfInBounds_toArray, List.set_cons_zero, List.set_cons_succ]
      refine wpAnyX_S (i := 2) (v := ?_) rfl (by kernel_rfl) (by kernel_rfl) (by kernel_rfl) (by kernel_rfl) (fun _ _ _ h => h) (Or.inl ⟨by rfl, ?_⟩) hS ?_
      rotate_left 1
      · (intro w' hw'; (first | rw [hw'] | (have hw2 := HSF.out w' hw') | skip); go_simp; (try with_reducible rfl))
      simp only [Act.put, List.setIfInBounds_toArray, List.set_cons_zero, List.set_cons_succ]
      refine wpAnyX_S (i := 3) (v := ?_) rfl (by kernel_rfl) (by kernel_rfl) (by kernel_rfl) (by kernel_rfl) (fun _ _ _ h => h) (Or.inl ⟨by rfl, ?_⟩) hS ?_
      rotate_left 1
      · (intro w' hw'; (first | rw [hw'] | (have hw2 := HSF.out w' hw') | skip); go_simp; (try with_reducible rfl))
      simp only [Act.put, List.setIfInBounds_toArray, List.set_cons_zero, List.set_cons_succ]
      refine wpAnyX_S (i := 4) (v := ?_) rfl (by kernel_rfl) (by kernel_rfl) (by kernel_rfl) (by kernel_rfl) (fun _ _ _ h => h) (Or.inl ⟨by rfl, ?_⟩) hS ?_
      rotate_left 1
      · (intro w' hw'; (first | rw [hw'] | (have hw2 := HSF.out w' hw') | skip); go_simp; (try with_reducible rfl))
      simp only [Act.put, List.setIfInBounds_toArray, List.set_cons_zero, List.set_cons_succ]
      refine wpAnyX_S (i := 5) (v := ?_) rfl (by kernel_rfl) (by kernel_rfl) (by kernel_rfl) (by kernel_rfl) (fun _ _ _ h => h) (Or.inl ⟨by rfl, ?_⟩) hS ?_
      rotate_left 1
      · (intro w' hw'; (first | rw [hw'] | (have hw2 := HSF.out w' hw') | skip); go_simp; (try with_reducible rfl))
      simp only [Act.put, List.setIfInBounds_toArray, List.set_cons_zero, List.set_cons_succ]
      refine wpAnyX_S (i := 6) (v := ?_) rfl (by kernel_rfl) (by kernel_rfl) (by kernel_rfl) (by kernel_rfl) (fun _ _ _ h => h) (Or.inl ⟨by rfl, ?_⟩) hS ?_
      rotate_left 1
      · (intro w' hw'; (first | rw [hw'] | (have hw2 := HSF.out w' hw') | skip); go_simp; (try with_reducible rfl))
      simp only [Act.put, List.setIfInBounds_toArray, List.set_cons_zero, List.set_cons_succ]
      refine wpAnyX_S (i := 7) (v := ?_) rfl (by kernel_rfl) (by kernel_rfl) (by kernel_rfl) (by kernel_rfl) (fun _ _ _ h => h) (Or.inl ⟨by rfl, ?_⟩) hS ?_
      rotate_left 1
      · (intro w' hw'; (first | rw [hw'] | (have hw2 := HSF.out w' hw') | skip); go_simp; (try with_reducible rfl))
      simp only [Act.put, List.setIfInBounds_toArray, List.set_cons_zero, List.set_cons_succ]
      refine wpAnyX_S (i := 8) (v := ?_) rfl (by kernel_rfl) (by kernel_rfl) (by kernel_rfl) (by kernel_rfl) (fun _ _ _ h => h) (Or.inl ⟨by rfl, ?_⟩) hS ?_
      rotate_left 1
      · (intro w' hw'; (first | rw [hw'] | (have hw2 := HSF.out w' hw') | skip); go_simp; (try with_reducible rfl))
      simp only [Act.put, List.setIfInBounds_toArray, List.set_cons_zero, List.set_cons_succ]
      refine wpAnyX_S (i := 9) (v := ?_) rfl (by kernel_rfl) (by kernel_rfl) (by kernel_rfl) (by kernel_rfl) (fun _ _ _ h => h) (Or.inl ⟨by rfl, ?_⟩) hS ?_
      rotate_left 1
      · (intro w' hw'; (first | rw [hw'] | (have hw2 := HSF.out w' hw') | skip); go_simp; (try with_reducible rfl))
      simp only [Act.put, List.setIfInBounds_toArray, List.set_cons_zero, List.set_cons_succ]
      refine wpAnyX_S (i := 10) (v := ?_) rfl (by kernel_rfl) (by kernel_rfl) (by kernel_rfl) (by kernel_rfl) (fun _ _ _ h => h) (Or.inl ⟨by rfl, ?_⟩) hS ?_
      rotate_left 1
      · (intro w' hw'; (first | rw [hw'] | (have hw2 := HSF.out w' hw') | skip); go_simp; (try with_reducible rfl))
      simp only [Act.put, List.setIfInBounds_toArray, List.set_cons_zero, List.set_cons_succ]
      refine wpAnyX_S (i := 11) (v := ?_) rfl (by kernel_rfl) (by kernel_rfl) (by kernel_rfl) (by kernel_rfl) (fun _ _ _ h => h) (Or.inl ⟨by rfl, ?_⟩) hS ?_
      rotate_left 1
      · (intro w' hw'; (first | rw [hw'] | (have hw2 := HSF.out w' hw') | skip); go_simp; (try with_reducible rfl))
      simp only [Act.put, List.setIfInBounds_toArray, List.set_cons_zero, List.set_cons_succ]
      refine wpAnyX_S (i := 12) (v := ?_) rfl (by kernel_rfl) (by kernel_rfl) (by kernel_rfl) (by kernel_rfl) (fun _ _ _ h => h) (Or.inl ⟨by rfl, ?_⟩) hS ?_
      rotate_left 1
      · (intro w' hw'; (first | rw [hw'] | (have hw2 := HSF.out w' hw') | skip); go_simp; (try with_reducible rfl))
      simp only [Act.put, List.setIfInBounds_toArray, List.set_cons_zero, List.set_cons_succ]
      refine wpAnyX_S (i := 13) (v := ?_) rfl (by kernel_rfl) (by kernel_rfl) (by kernel_rfl) (by kernel_rfl) (fun _ _ _ h => h) (Or.inl ⟨by rfl, ?_⟩) hS ?_
      rotate_left 1
      · (intro w' hw'; (first | rw [hw'] | (have hw2 := HSF.out w' hw') | skip); go_simp; (try with_reducible rfl))
      simp only [Act.put, List.setIfInBounds_toArray, List.set_cons_zero, List.set_cons_succ]
      refine wpAnyX_S (i := 14) (v := ?_) rfl (by kernel_rfl) (by kernel_rfl) (by kernel_rfl) (by kernel_rfl) (fun _ _ _ h => h) (Or.inl ⟨by rfl, ?_⟩) hS ?_
      rotate_left 1
      · (intro w' hw'; (first | rw [hw'] | (have hw2 := HSF.out w' hw') | skip); go_simp; (try with_reducible rfl))
      simp only [Act.put, List.setIfInBounds_toArray, List.set_cons_zero, List.set_cons_succ]
      refine wpAnyX_S (i := 15) (v := ?_) rfl (by kernel_rfl) (by kernel_rfl) (by kernel_rfl) (by kernel_rfl) (fun _ _ _ h => h) (Or.inl ⟨by rfl, ?_⟩) hS ?_
      rotate_left 1
      · (intro w' hw'; (first | rw [hw'] | (have hw2 := HSF.out w' hw') | skip); go_simp; (try with_reducible rfl))
      simp only [Act.put, List.setIfInBounds_toArray, List.set_cons_zero, List.set_cons_succ]
      refine wpAnyX_S (i := 16) (v := ?_) rfl (by kernel_rfl) (by kernel_rfl) (by kernel_rfl) (by kernel_rfl) (fun _ _ _ h => h) (Or.inl ⟨by rfl, ?_⟩) hS ?_
      rotate_left 1
      · (intro w' hw'; (first | rw [hw'] | (have hw2 := HSF.out w' hw') | skip); go_simp; (try with_reducible rfl))
      simp only [Act.put, List.setIfInBounds_toArray, List.set_cons_zero, List.set_cons_succ]
      refine wpAnyX_S (i := 17) (v := ?_) rfl (by kernel_rfl) (by kernel_rfl) (by kernel_rfl) (by kernel_rfl) (fun _ _ _ h => h) (Or.inl ⟨by rfl, ?_⟩) hS ?_
      rotate_left 1
      · (intro w' hw'; (first | rw [hw'] | (have hw2 := HSF.out w' hw') | skip); go_simp; (try with_reducible rfl))
      simp only [Act.put, List.setIfInBounds_toArray, List.set_cons_zero, List.set_cons_succ]
      refine wpAnyX_S (i := 18) (v := ?_) rfl (by kernel_rfl) (by kernel_rfl) (by kernel_rfl) (by kernel_rfl) (fun _ _ _ h => h) (Or.inl ⟨by rfl, ?_⟩) hS ?_
      rotate_left 1
      · (intro w' hw'; (first | rw [hw'] | (have hw2 := HSF.out w' hw') | skip); go_simp; (try with_reducible rfl))
      simp only [Act.put, List.setIfInBounds_toArray, List.set_cons_zero, List.set_cons_succ]
      refine wpAnyX_S (i := 19) (v := ?_) rfl (by kernel_rfl) (by kernel_rfl) (by kernel_rfl) (by kernel_rfl) (fun _ _ _ h => h) (Or.inl ⟨by rfl, ?_⟩) hS ?_
      rotate_left 1
      · (intro w' hw'; (first | rw [hw'] | (have hw2 := HSF.out w' hw') | skip); go_simp; (try with_reducible rfl))
      simp only [Act.put, List.setIfInBounds_toArray, List.set_cons_zero, List.set_cons_succ]
      clear hw5 hw6 hw7 hx0 hx1 hx2 hy1 hy2 hz1 hz2 hw1 hw2 hw3 hw4
      refine wpAnyX_oneL (k := 20) rfl (by kernel_rfl) rfl ?_
      refine wp_of_run (v := .pointer (some ⟨wd.heap.size, 0, none⟩)) (w' := wd.alloc (.cells #[.slice none 0 0, .int .i64 0, .int .i64 0, .slice none 0 0] 64)) (by go_simp) ⟨fun _ => (Below.refl _ _).alloc (Nat.le_refl _) _, ?_⟩
      simp only [Act.put, List.setIfInBounds_toArray, List.set_cons_zero, List.set_cons_succ]
      refine wpAnyX_tailF [21] (by kernel_rfl) (by rfl) (by rfl) (by rfl) ?_
      simp only [List.filterMap_cons, List.filterMap_nil, List.getElem?_cons_succ, List.getElem?_cons_zero]
      have hal := below_al (Below.refl wd.heap.size wd) (.cells #[.slice none 0 0, .int .i64 0, .int .i64 0, .slice none 0 0] 64)
      refine wpList_store_all rfl 64 (.tmp 11) (.tmp 80) rfl wd.heap.size 64 [.slice none 0 0, .int .i64 0, .int .i64 0, .slice none 0 0] [.slice none 0 0, .int .i64 (k0 : Nat), .int .i64 ((m1 : Int) * 256 + (m2 : Int)), .slice none 0 0] (Blk.new wd _ _) rfl rfl rfl refSize (four_one _ _ _ _ rfl rfl rfl rfl) ?_
      intro w2 hX2 hG2 hs2
      have hB2 : Below wd.heap.size wd w2 := hal.grown hG2 (by simp) (fun g hg => by injection hg with hg; omega)
      have hE2 := below_tr hEd hB2
      have hT2 := hTd.be hB2
      have hBr := below_tr hbd hB2
      have hgw := hEd.size
      have hgr := hbd.size
      obtain ⟨gX, hgX⟩ : ∃ gX, wd.heap.size = gX := ⟨_, rfl⟩
      rw [hgX] at hX2 hgw hgr ⊢
      have d3 := (HCC.out _ hE2).2.2.2
      clear HSF hal hG2 hs2 hB2 hEd hbd hTd hS hgX
      go_wp2_with fail
      refine NoPanic.normal ?_
      obtain ⟨P, hP⟩ : ∃ P, strN ((b.drop (at_ + 4)).take pl) = P := ⟨_, rfl⟩
      have hcv := HCV.out w2 hE2 (at_ + 4) pl (c - (at_ + 4)) (by omega)
      rw [hP] at hcv
      have HPP := Sl.mk hP
      clear hP
      go_wp2_with fail
      clear hcv d3
      obtain ⟨K, hK⟩ : ∃ K, K = at_ + 4 + pl := ⟨_, rfl⟩
      have hKi : (at_ : Int) + 4 + (pl : Int) = (K : Int) := by omega
      rw [hKi]
      have hK2 : K + 2 ≤ n := by omega
      obtain ⟨s1, hs1⟩ := byte_at (b := b) (i := K) (by rw [HL.out]; omega)
      obtain ⟨s2, hs2⟩ := byte_at (b := b) (i := K + 1) (by rw [HL.out]; omega)
      have hs1256 := HY.out s1 (List.mem_of_getElem? hs1)
      have hs2256 := HY.out s2 (List.mem_of_getElem? hs2)
      have HDK := Sl.mk (drop_two hs1 hs2)
      have HCK := Sl.mk (fun (W : World) (hW : Below w.heap.size w W) => And.intro (HC.out W hW K (.int .u8 (s1 : Nat)) (by simp [u8s, hs1])) (HC.out W hW (K + 1) (.int .u8 (s2 : Nat)) (by simp [u8s, hs2])))
      have HKK := Sl.mk hK
      clear hs1 hs2 hKi hK hp2' ha4'
      obtain ⟨wd2, hwd⟩ : ∃ wd2, w2.drew = wd2 := ⟨_, rfl⟩
      have hbd : Below w2.heap.size w2 wd2 := by rw [← hwd]; exact (Below.refl _ _).drew
      have hEd := below_tr hE2 hbd
      have HSF := Sl.mk (fun (W : World) (hW : Below wd2.heap.size wd2 W) => HCK.out W (below_tr hEd hW))
      have hTd := hT2.be hbd
      have hXd := hX2.be hbd
      have hBrd := below_tr hBr hbd
      clear hT2 hX2 hE2 hBr
      refine wp_region_X (fun W => Below wd2.heap.size wd2 W) [13] (by kernel_rfl) (by rw [hwd]; exact Below.refl _ _) (fun hS => ?_)
      rw [hwd] at hS ⊢
      clear hwd
      have hx0 : K < n := by omega
      have hx1 : (K : Int) + 1 < (n : Int) := by omega
      have hy1 : (0 : Int) ≤ (K : Int) + 1 := by omega
      have hz1 : ((K : Int) + 1).toNat = K + 1 := by omega
      have hw1 : IntKind.i64.wrap ((K : Int) + 1) = (K : Int) + 1 := IntWalk.i64_in _ (by omega)
      have hw3 : IntKind.i64.wrap ((s1 : Int) * 256) = (s1 : Int) * 256 := IntWalk.i64_in _ (by omega)
      have hw4 : IntKind.i64.wrap ((s1 : Int) * 256 + (s2 : Int)) = (s1 : Int) * 256 + (s2 : Int) := IntWalk.i64_in _ (by omega)
      have hw6 : IntKind.i64.wrap (s1 : Int) = (s1 : Int) := IntWalk.i64_in _ (by omega)
      have hw7 : IntKind.i64.wrap (s2 : Int) = (s2 : Int) := IntWalk.i64_in _ (by omega)
      refine wpAnyX_S (i := 0) (v := ?_) rfl (by kernel_rfl) (by kernel_rfl) (by kernel_rfl) (by kernel_rfl) (fun _ _ _ h => h) (Or.inl ⟨by rfl, ?_⟩) hS ?_
      rotate_left 1
      · (intro w' hw'; (first | rw [hw'] | (have hw2 := HSF.out w' hw') | skip); go_simp; (try with_reducible rfl))
      simp only [Act.put, List.setIfInBounds_toArray, List.set_cons_zero, List.set_cons_succ]
      refine wpAnyX_S (i := 1) (v := ?_) rfl (by kernel_rfl) (by kernel_rfl) (by kernel_rfl) (by kernel_rfl) (fun _ _ _ h => h) (Or.inl ⟨by rfl, ?_⟩) hS ?_
      rotate_left 1
      · (intro w' hw'; (first | rw [hw'] | (have hw2 := HSF.out w' hw') | skip); go_simp; (try with_reducible rfl))
      simp only [Act.put, List.setIfInBounds_toArray, List.set_cons_zero, List.set_cons_succ]
      refine wpAnyX_S (i := 2) (v := ?_) rfl (by kernel_rfl) (by kernel_rfl) (by kernel_rfl) (by kernel_rfl) (fun _ _ _ h => h) (Or.inl ⟨by rfl, ?_⟩) hS ?_
      rotate_left 1
      · (intro w' hw'; (first | rw [hw'] | (have hw2 := HSF.out w' hw') | skip); go_simp; (try with_reducible rfl))
      simp only [Act.put, List.setIfInBounds_toArray, List.set_cons_zero, List.set_cons_succ]
      refine wpAnyX_S (i := 3) (v := ?_) rfl (by kernel_rfl) (by kernel_rfl) (by kernel_rfl) (by kernel_rfl) (fun _ _ _ h => h) (Or.inl ⟨by rfl, ?_⟩) hS ?_
      rotate_left 1
      · (intro w' hw'; (first | rw [hw'] | (have hw2 := HSF.out w' hw') | skip); go_simp; (try with_reducible rfl))
      simp only [Act.put, List.setIfInBounds_toArray, List.set_cons_zero, List.set_cons_succ]
      refine wpAnyX_S (i := 4) (v := ?_) rfl (by kernel_rfl) (by kernel_rfl) (by kernel_rfl) (by kernel_rfl) (fun _ _ _ h => h) (Or.inl ⟨by rfl, ?_⟩) hS ?_
      rotate_left 1
      · (intro w' hw'; (first | rw [hw'] | (have hw2 := HSF.out w' hw') | skip); go_simp; (try with_reducible rfl))
      simp only [Act.put, List.setIfInBounds_toArray, List.set_cons_zero, List.set_cons_succ]
      refine wpAnyX_S (i := 5) (v := ?_) rfl (by kernel_rfl) (by kernel_rfl) (by kernel_rfl) (by kernel_rfl) (fun _ _ _ h => h) (Or.inl ⟨by rfl, ?_⟩) hS ?_
      rotate_left 1
      · (intro w' hw'; (first | rw [hw'] | (have hw2 := HSF.out w' hw') | skip); go_simp; (try with_reducible rfl))
      simp only [Act.put, List.setIfInBounds_toArray, List.set_cons_zero, List.set_cons_succ]
      refine wpAnyX_S (i := 6) (v := ?_) rfl (by kernel_rfl) (by kernel_rfl) (by kernel_rfl) (by kernel_rfl) (fun _ _ _ h => h) (Or.inl ⟨by rfl, ?_⟩) hS ?_
      rotate_left 1
      · (intro w' hw'; (first | rw [hw'] | (have hw2 := HSF.out w' hw') | skip); go_simp; (try with_reducible rfl))
      simp only [Act.put, List.setIfInBounds_toArray, List.set_cons_zero, List.set_cons_succ]
      refine wpAnyX_S (i := 7) (v := ?_) rfl (by kernel_rfl) (by kernel_rfl) (by kernel_rfl) (by kernel_rfl) (fun _ _ _ h => h) (Or.inl ⟨by rfl, ?_⟩) hS ?_
      rotate_left 1
      · (intro w' hw'; (first | rw [hw'] | (have hw2 := HSF.out w' hw') | skip); go_simp; (try with_reducible rfl))
      simp only [Act.put, List.setIfInBounds_toArray, List.set_cons_zero, List.set_cons_succ]
      refine wpAnyX_S (i := 8) (v := ?_) rfl (by kernel_rfl) (by kernel_rfl) (by kernel_rfl) (by kernel_rfl) (fun _ _ _ h => h) (Or.inl ⟨by rfl, ?_⟩) hS ?_
      rotate_left 1
      · (intro w' hw'; (first | rw [hw'] | (have hw2 := HSF.out w' hw') | skip); go_simp; (try with_reducible rfl))
      simp only [Act.put, List.setIfInBounds_toArray, List.set_cons_zero, List.set_cons_succ]
      refine wpAnyX_S (i := 9) (v := ?_) rfl (by kernel_rfl) (by kernel_rfl) (by kernel_rfl) (by kernel_rfl) (fun _ _ _ h => h) (Or.inl ⟨by rfl, ?_⟩) hS ?_
      rotate_left 1
      · (intro w' hw'; (first | rw [hw'] | (have hw2 := HSF.out w' hw') | skip); go_simp; (try with_reducible rfl))
      simp only [Act.put, List.setIfInBounds_toArray, List.set_cons_zero, List.set_cons_succ]
      refine wpAnyX_S (i := 10) (v := ?_) rfl (by kernel_rfl) (by kernel_rfl) (by kernel_rfl) (by kernel_rfl) (fun _ _ _ h => h) (Or.inl ⟨by rfl, ?_⟩) hS ?_
      rotate_left 1
      · (intro w' hw'; (first | rw [hw'] | (have hw2 := HSF.out w' hw') | skip); go_simp; (try with_reducible rfl))
      simp only [Act.put, List.setIfInBounds_toArray, List.set_cons_zero, List.set_cons_succ]
      refine wpAnyX_S (i := 11) (v := ?_) rfl (by kernel_rfl) (by kernel_rfl) (by kernel_rfl) (by kernel_rfl) (fun _ _ _ h => h) (Or.inl ⟨by rfl, ?_⟩) hS ?_
      rotate_left 1
      · (intro w' hw'; (first | rw [hw'] | (have hw2 := HSF.out w' hw') | skip); go_simp; (try with_reducible rfl))
      simp only [Act.put, List.setIfInBounds_toArray, List.set_cons_zero, List.set_cons_succ]
      refine wpAnyX_S (i := 12) (v := ?_) rfl (by kernel_rfl) (by kernel_rfl) (by kernel_rfl) (by kernel_rfl) (fun _ _ _ h => h) (Or.inl ⟨by rfl, ?_⟩) hS ?_
      rotate_left 1
      · (intro w' hw'; (first | rw [hw'] | (have hw2 := HSF.out w' hw') | skip); go_simp; (try with_reducible rfl))
      simp only [Act.put, List.setIfInBounds_toArray, List.set_cons_zero, List.set_cons_succ]
      clear hx0 hx1 hy1 hz1 hw1 hw3 hw4 hw6 hw7
      refine wpAnyX_tailF [13] (by kernel_rfl) (by rfl) (by rfl) (by rfl) ?_
      simp only [List.filterMap_cons, List.filterMap_nil, List.getElem?_cons_succ, List.getElem?_cons_zero]
      obtain ⟨Z, hZ⟩ : ∃ Z, Z = s1 * 256 + s2 := ⟨_, rfl⟩
      have hZi : (s1 : Int) * 256 + (s2 : Int) = (Z : Int) := by omega
      rw [hZi]
      have HZZ := Sl.mk hZ
      have hZb : Z ≤ 65535 := by omega
      clear hZi hZ HSF hS hbd
      go_wp2_with fail
      refine NoPanic.normal ?_
      obtain ⟨p, hp⟩ : ∃ p, (b.drop (at_ + 4)).take pl = p := ⟨_, rfl⟩
      have hpl : p.length = pl := by rw [← hp]; exact piece_len (by rw [HL.out]; omega)
      have hd4 : b.drop (at_ + 4) = p ++ (s1 :: s2 :: b.drop (K + 2)) := by rw [drop_piece b (at_ + 4) pl, hp, ← HKK.out, HDK.out]
      rw [hp] at HPP
      have hb4 : b.drop at_ = k0 :: m1 :: m2 :: pl :: (p ++ (s1 :: s2 :: b.drop (K + 2))) := by rw [HD4.out, hd4]
      have HB4 := Sl.mk hb4
      have HPL := Sl.mk hpl
      have HPX := Sl.mk hp
      clear hp hpl hd4 hb4 HD4 HDK HCK HCC
      by_cases hz8 : K + 2 + Z + 8 ≤ n
      rotate_left 1
      · have HX := Sl.mk (HBAD.out 4 (nextE_short (by rw [HB4.out]; exact read_short3 HPL.out (by rw [List.length_drop, HL.out, ← HZZ.out]; omega))) (by decide))
        have hz8' : (K : Int) + 2 + (Z : Int) + 8 > (n : Int) := by omega
        clear hz8
        go_wp2_with fail
        go_ret3
        exact ⟨hEd, .inl ⟨HX.out.1, i, 4, by decide, HX.out.2, rfl⟩⟩
      have hz8' : ¬ (K : Int) + 2 + (Z : Int) + 8 > (n : Int) := by omega
      have hz8n : K + 2 + Z + 8 ≤ n := hz8
      obtain ⟨d, hd⟩ : ∃ d, (b.drop (K + 2)).take Z = d := ⟨_, rfl⟩
      obtain ⟨sl, hsl⟩ : ∃ sl, (b.drop (K + 2 + Z)).take 8 = sl := ⟨_, rfl⟩
      have hdl : d.length = Z := by rw [← hd]; exact piece_len (by rw [HL.out]; omega)
      have hsll : sl.length = 8 := by rw [← hsl]; exact piece_len (by rw [HL.out]; omega)
      have hform : readF (b.drop at_) false = ⟨k0, m1 * 256 + m2, p, d, sl, b.drop (K + 2 + Z + 8), false⟩ := by
        rw [HB4.out, drop_piece b (K + 2) Z, hd, drop_piece b (K + 2 + Z) 8, hsl]
        exact readF_form k0 m1 m2 pl s1 s2 p d sl _ false HPL.out (by rw [hdl, HZZ.out]) hsll
      have HNX := Sl.mk (nextE_form (l := li) hform rfl)
      have HFM := Sl.mk hform
      have HDZ := Sl.mk hdl
      have HDX := Sl.mk hd
      have HSX := Sl.mk hsl
      simp only at HNX
      rw [HPP.out] at HNX
      have HPS := Sl.mk (show P.size ≤ 255 by rw [← HPP.out, strN_size, HPL.out]; omega)
      have HRP := Sl.mk (rparse_any P wd2 (by have := HPS.out; omega))
      unfold RParsePost at HRP
      clear hd hsl hdl hsll hform hz8
      go_wp2_with fail
      refine HRP.out.mono ?_
      rintro e w3 ⟨hB3, hpost⟩
      have hE3 := below_tr hEd hB3
      have hT3 := hTd.be hB3
      have hX3 := hXd.be hB3
      have hBr3 := below_tr hBrd hB3
      clear HRP hTd hXd hBrd hEd hB3
      rcases hpost with ⟨hpe, rfl⟩ | ⟨hpe, A15, n15, c15, rfl, hn15, hc15, hcm15, hR15⟩
      · have HX := Sl.mk (HBAD.out 10 (HNX.out.trans (if_pos hpe)) (by decide))
        obtain ⟨E, hEE⟩ : ∃ E, parseE P = E := ⟨_, rfl⟩
        rw [hEE] at hpe ⊢
        have hne : (E != 0) = true := by simpa using hpe
        clear hpe hEE
        go_wp2_with fail
        go_ret3
        exact ⟨hE3, .inl ⟨HX.out.1, i, 10, by decide, HX.out.2, rfl⟩⟩
      have HNX2 := Sl.mk (HNX.out.trans (if_neg (fun h => h hpe)))
      obtain ⟨q, hq⟩ : ∃ q, parseP P = q := ⟨_, rfl⟩
      rw [hq] at hn15 hR15
      have hq8 : q.length ≤ 8 := by
        have h : rightB (parseP P) = true := by
          unfold parseE at hpe
          split at hpe
          · cases hpe
          split at hpe
          · cases hpe
          split at hpe
          · assumption
          · cases hpe
        rw [hq] at h
        have : (decide (q.length ≤ 8) && q.all nameB) = true := h
        simp only [Bool.and_eq_true, decide_eq_true_eq] at this
        exact this.1
      have hqs : ∀ s ∈ q, s.size ≤ 1000 := fun s hs => by
        rw [← hq] at hs
        unfold parseP at hs
        split at hs
        · cases hs
        · have h1 := partsF_size hs
          have h2 := cutF_size P
          have h3 := HPS.out
          omega
      have HQX := Sl.mk hq
      have HQS := Sl.mk hqs
      have HR15 := Sl.mk hR15
      clear hpe hq hqs hR15 HNX
      go_upto_region 24 with fail
      obtain ⟨wd3, hwd⟩ : ∃ wd3, w3.drew = wd3 := ⟨_, rfl⟩
      have hbd : Below w3.heap.size w3 wd3 := by rw [← hwd]; exact (Below.refl _ _).drew
      have hEd := below_tr hE3 hbd
      have hTd := hT3.be hbd
      have hXd := hX3.be hbd
      have hBrd := below_tr hBr3 hbd
      have HR15d := Sl.mk ((HR15.out.below hbd).more hbd.size)
      clear hT3 hX3 hE3 hBr3 HR15
      refine wp_region_X (fun W => W = wd3) [0, 1, 2, 3, 4, 5, 6, 7, 8, 9, 10, 11, 12] (by kernel_rfl) hwd (fun hS => ?_)
      rw [hwd] at hS ⊢
      clear hwd hbd
      have hcK : ¬ c = K + 2 := by omega
      have hx1 : (K : Int) + 2 ≤ (K : Int) + 2 + (Z : Int) := by omega
      have hx2 : (K : Int) + 2 + (Z : Int) ≤ (c : Int) := by omega
      have hy1 : (0 : Int) ≤ (K : Int) + 2 := by omega
      have hz1 : ((K : Int) + 2).toNat = K + 2 := by omega
      have hz2 : ((K : Int) + 2 + (Z : Int)).toNat = K + 2 + Z := by omega
      have hw1 : IntKind.i64.wrap ((K : Int) + 2) = (K : Int) + 2 := IntWalk.i64_in _ (by omega)
      have hw2 : IntKind.i64.wrap ((K : Int) + 2 + (Z : Int)) = (K : Int) + 2 + (Z : Int) := IntWalk.i64_in _ (by omega)
      refine wpAnyX_P (i := 0) (v := ?_) rfl (by kernel_rfl) (by kernel_rfl) (by kernel_rfl) (by kernel_rfl) (fun _ _ _ h => h) (Or.inl ⟨by rfl, ?_⟩) ?_
      rotate_left 1
      · (intro w' hw'; (first | rw [hw'] | (have hw2 := HSF.out w' hw') | skip); go_simp; (try with_reducible rfl))
      simp only [Act.put, List.setIfInBounds_toArray, List.set_cons_zero, List.set_cons_succ]
      refine wpAnyX_P (i := 1) (v := ?_) rfl (by kernel_rfl) (by kernel_rfl) (by kernel_rfl) (by kernel_rfl) (fun _ _ _ h => h) (Or.inl ⟨by rfl, ?_⟩) ?_
      rotate_left 1
      · (intro w' hw'; (first | rw [hw'] | (have hw2 := HSF.out w' hw') | skip); go_simp; (try with_reducible rfl))
      simp only [Act.put, List.setIfInBounds_toArray, List.set_cons_zero, List.set_cons_succ]
      refine wpAnyX_P (i := 2) (v := ?_) rfl (by kernel_rfl) (by kernel_rfl) (by kernel_rfl) (by kernel_rfl) (fun _ _ _ h => h) (Or.inl ⟨by rfl, ?_⟩) ?_
      rotate_left 1
      · (intro w' hw'; (first | rw [hw'] | (have hw2 := HSF.out w' hw') | skip); go_simp; (try with_reducible rfl))
      simp only [Act.put, List.setIfInBounds_toArray, List.set_cons_zero, List.set_cons_succ]
      refine wpAnyX_P (i := 3) (v := ?_) rfl (by kernel_rfl) (by kernel_rfl) (by kernel_rfl) (by kernel_rfl) (fun _ _ _ h => h) (Or.inl ⟨by rfl, ?_⟩) ?_
      rotate_left 1
      · (intro w' hw'; (first | rw [hw'] | (have hw2 := HSF.out w' hw') | skip); go_simp; (try with_reducible rfl))
      simp only [Act.put, List.setIfInBounds_toArray, List.set_cons_zero, List.set_cons_succ]
      refine wpAnyX_P (i := 4) (v := ?_) rfl (by kernel_rfl) (by kernel_rfl) (by kernel_rfl) (by kernel_rfl) (fun _ _ _ h => h) (Or.inl ⟨by rfl, ?_⟩) ?_
      rotate_left 1
      · (intro w' hw'; (first | rw [hw'] | (have hw2 := HSF.out w' hw') | skip); go_simp; (try with_reducible rfl))
      simp only [Act.put, List.setIfInBounds_toArray, List.set_cons_zero, List.set_cons_succ]
      refine wpAnyX_P (i := 5) (v := ?_) rfl (by kernel_rfl) (by kernel_rfl) (by kernel_rfl) (by kernel_rfl) (fun _ _ _ h => h) (Or.inl ⟨by rfl, ?_⟩) ?_
      rotate_left 1
      · (intro w' hw'; (first | rw [hw'] | (have hw2 := HSF.out w' hw') | skip); go_simp; (try with_reducible rfl))
      simp only [Act.put, List.setIfInBounds_toArray, List.set_cons_zero, List.set_cons_succ]
      refine wpAnyX_P (i := 6) (v := ?_) rfl (by kernel_rfl) (by kernel_rfl) (by kernel_rfl) (by kernel_rfl) (fun _ _ _ h => h) (Or.inl ⟨by rfl, ?_⟩) ?_
      rotate_left 1
      · (intro w' hw'; (first | rw [hw'] | (have hw2 := HSF.out w' hw') | skip); go_simp; (try with_reducible rfl))
      simp only [Act.put, List.setIfInBounds_toArray, List.set_cons_zero, List.set_cons_succ]
      refine wpAnyX_P (i := 7) (v := ?_) rfl (by kernel_rfl) (by kernel_rfl) (by kernel_rfl) (by kernel_rfl) (fun _ _ _ h => h) (Or.inl ⟨by rfl, ?_⟩) ?_
      rotate_left 1
      · (intro w' hw'; (first | rw [hw'] | (have hw2 := HSF.out w' hw') | skip); go_simp; (try with_reducible rfl))
      simp only [Act.put, List.setIfInBounds_toArray, List.set_cons_zero, List.set_cons_succ]
      refine wpAnyX_P (i := 8) (v := ?_) rfl (by kernel_rfl) (by kernel_rfl) (by kernel_rfl) (by kernel_rfl) (fun _ _ _ h => h) (Or.inl ⟨by rfl, ?_⟩) ?_
      rotate_left 1
      · (intro w' hw'; (first | rw [hw'] | (have hw2 := HSF.out w' hw') | skip); go_simp; (try with_reducible rfl))
      simp only [Act.put, List.setIfInBounds_toArray, List.set_cons_zero, List.set_cons_succ]
      refine wpAnyX_P (i := 9) (v := ?_) rfl (by kernel_rfl) (by kernel_rfl) (by kernel_rfl) (by kernel_rfl) (fun _ _ _ h => h) (Or.inl ⟨by rfl, ?_⟩) ?_
      rotate_left 1
      · (intro w' hw'; (first | rw [hw'] | (have hw2 := HSF.out w' hw') | skip); go_simp; (try with_reducible rfl))
      simp only [Act.put, List.setIfInBounds_toArray, List.set_cons_zero, List.set_cons_succ]
      clear hx1 hx2 hy1 hz1 hz2 hw1 hw2
      have x0 := hXd.cell 0
      have x3 := hXd.cell 3
      have f0 := hXd.frozen 0
      have f3 := hXd.frozen 3
      refine wpAnyX_tailF [10, 11, 12] (by kernel_rfl) (by rfl) (by rfl) (by rfl) ?_
      simp only [List.filterMap_cons, List.filterMap_nil, List.getElem?_cons_succ, List.getElem?_cons_zero]
      go_wp2_with fail
      refine NoPanic.normal ?_
      obtain ⟨w4, hw4⟩ : ∃ w4, (wd3.setCell ⟨gX, 0, none⟩ (.slice A15 q.length c15)).setCell ⟨gX, 3, none⟩ (.slice (some ⟨bk, o + (K + 2), none⟩) Z (c - (K + 2))) = w4 := ⟨_, rfl⟩
      rw [hw4]
      have hX' : Blk (wd3.setCell ⟨gX, 0, none⟩ (.slice A15 q.length c15)) gX 64 #[.slice A15 q.length c15, .int .i64 (k0 : Nat), .int .i64 ((m1 : Int) * 256 + (m2 : Int)), .slice none 0 0] := blk_set wd3 gX _ _ 0 _ _ hXd rfl
      have hX4 : Blk w4 gX 64 #[.slice A15 q.length c15, .int .i64 (k0 : Nat), .int .i64 ((m1 : Int) * 256 + (m2 : Int)), .slice (some ⟨bk, o + (K + 2), none⟩) Z (c - (K + 2))] := by
        rw [← hw4]; exact blk_set _ gX _ _ 3 _ _ hX' rfl
      have hne : w.heap.size ≠ gX := hTd.ne_ hXd (by decide)
      have hT4 : Blk w4 w.heap.size 33 TT := by rw [← hw4]; exact (hTd.far hne _).far hne _
      have hB4 : Below wr.heap.size wr w4 := by rw [← hw4]; exact (hBrd.setCell hgr _).setCell hgr _
      have hE4 : Below w.heap.size w w4 := by rw [← hw4]; exact (hEd.setCell hgw _).setCell hgw _
      have hR4 : Reads w4 w4.heap.size 1 A15 q.length (strV q) := by
        have h := HR15d.out
        rw [hn15] at h
        have h2 := strs_set (i := 3) (u := .slice (some ⟨bk, o + (K + 2), none⟩) Z (c - (K + 2))) (strs_set (i := 0) (u := .slice A15 q.length c15) h hXd (ent_nostr _ _ _ _ (fun s e => by cases e) (fun s e => by cases e) (fun s e => by cases e) (fun s e => by cases e))) hX' (ent_nostr _ _ _ _ (fun s e => by cases e) (fun s e => by cases e) (fun s e => by cases e) (fun s e => by cases e))
        rw [hw4] at h2
        have hs4 : w4.heap.size = wd3.heap.size := by rw [← hw4]; simp
        rw [hs4]
        exact h2
      have hok : ExOk w4 w4.heap.size ⟨⟨q, (k0 : Nat), (m1 : Int) * 256 + (m2 : Int), d⟩, A15, c15, some ⟨bk, o + (K + 2), none⟩, c - (K + 2)⟩ := by
        refine ⟨hR4, ?_, ⟨by show q.length ≤ c15; omega, hcm15⟩, ⟨by show d.length ≤ c - (K + 2); rw [HDZ.out]; omega, by show c - (K + 2) ≤ _; omega⟩, by show q.length ≤ 100; omega, fun s hs => Nat.le_trans (HQS.out s hs) (by omega), by show d.length ≤ 100000; rw [HDZ.out]; omega, fun y hy => HY.out y (by rw [← HDX.out] at hy; exact List.mem_of_mem_drop (List.mem_of_mem_take hy))⟩
        show Reads w4 w4.heap.size 1 (some ⟨bk, o + (K + 2), none⟩) d.length (u8s d)
        rw [HDZ.out, ← HDX.out]
        exact sub_reads HL.out (Nat.lt_of_lt_of_le HBK.out hE4.size) (HC.out w4 hE4) (by omega)
      obtain ⟨x, hxx⟩ : ∃ x : Ex, x = ⟨⟨q, (k0 : Nat), (m1 : Int) * 256 + (m2 : Int), d⟩, A15, c15, some ⟨bk, o + (K + 2), none⟩, c - (K + 2)⟩ := ⟨_, rfl⟩
      rw [← hxx] at hok
      have hxC : (exC x).toArray = #[.slice A15 q.length c15, .int .i64 (k0 : Nat), .int .i64 ((m1 : Int) * 256 + (m2 : Int)), .slice (some ⟨bk, o + (K + 2), none⟩) Z (c - (K + 2))] := by
        rw [hxx, ← HDZ.out]; rfl
      have hef : entF ⟨k0, m1 * 256 + m2, p, d, sl, b.drop (K + 2 + Z + 8), false⟩ = x.e := by
        rw [hxx]
        unfold entF
        simp only [HPP.out, HQX.out]
        congr 1
      have HXC := Sl.mk hxC
      have HEF := Sl.mk hef
      have HOK := Sl.mk hok
      have hpl2 : (txtF x.e.path).size ≤ 5000 ∨ True := .inr trivial
      have HRF := Sl.mk (rrefused_any x Al i cl li w4 hok (by omega) (HLr.out.be hB4))
      have HN3 := Sl.mk (HNX2.out)
      simp only [HEF.out] at HN3
      rw [hxC] at HRF
      have HXX := Sl.mk hxx
      clear hw4 hX' hXd hTd hBrd hEd HR15d x0 x3 f0 f3 hS hne hR4 hok hxC hef hpl2 HNX2 hxx
      go_wp2_with (refine ld_enr hX4 rfl (.tmp 11) rfl rfl rfl ?_)
      refine HRF.out.mono ?_
      rintro e w5 ⟨rfl, hB5⟩
      have hX5 := hX4.be hB5
      have hT5 := hT4.be hB5
      have hE5 := below_tr hE4 hB5
      have hBr5 := below_tr hB4 hB5
      have HOK5 := Sl.mk (HOK.out.be hB5)
      clear HRF hX4 hT4 hE4 hB4 hB5 HOK
      by_cases hz : refusedE x.e li = 0
      rotate_left 1
      · have HX := Sl.mk (HBAD.out (refusedE x.e li) (HN3.out.trans (if_pos hz)) hz)
        obtain ⟨E, hEE⟩ : ∃ E, refusedE x.e li = E := ⟨_, rfl⟩
        rw [hEE] at hz HX ⊢
        have hne : (E != 0) = true := by simpa using hz
        have HEZ := Sl.mk hz
        clear hz hEE
        go_wp2_with fail
        go_ret3
        exact ⟨hE5, .inl ⟨HX.out.1, i, E, HEZ.out, HX.out.2, rfl⟩⟩
      have HN4 := Sl.mk (HN3.out.trans (if_neg (fun h => h hz)))
      obtain ⟨g0, g1, g2, g3⟩ := refused_zero hz
      obtain ⟨-, -, pz⟩ := paths_zero g0
      have HSE := Sl.mk (fun (W : World) (hW : Below w5.heap.size w5 W) => rseal_any x W (HOK5.out.be hW) (by omega) (by rw [HXX.out]; show d.length ≤ 5000; rw [HDZ.out]; omega))
      rw [hz]
      clear hz g0 g1 g2 g3 pz HN3
      go_wp2_with fail
      obtain ⟨wd5, hwd⟩ : ∃ wd5, w5.drew = wd5 := ⟨_, rfl⟩
      have hbd : Below w5.heap.size w5 wd5 := by rw [← hwd]; exact (Below.refl _ _).drew
      have hEd := below_tr hE5 hbd
      have hTd := hT5.be hbd
      have hXd := hX5.be hbd
      have hBrd := below_tr hBr5 hbd
      have HLV : Sl (∀ W, Below wd5.heap.size wd5 W → (loadVar 33 ⟨w.heap.size, 0, none⟩).run Tryz.prog W = .ok (.agg TT) W) := Sl.mk (fun W hW => by
        rw [← HTT.out]
        exact run_loadVar_at W ⟨w.heap.size, 0, none⟩ 33 (i64s tabT) _ (fun j v hv => by rw [addr_add0, (hTd.below hW hTd.lt).cell j, ← HTT.out]; simpa using hv) Tryz.underlying33 rfl info45)
      have HLX : Sl (∀ W, Below wd5.heap.size wd5 W → (loadVar 64 ⟨gX, 0, none⟩).run Tryz.prog W = .ok (.agg #[.slice A15 q.length c15, .int .i64 (k0 : Nat), .int .i64 ((m1 : Int) * 256 + (m2 : Int)), .slice (some ⟨bk, o + (K + 2), none⟩) Z (c - (K + 2))]) W) := Sl.mk (fun W hW => by
        exact run_loadVar_at W ⟨gX, 0, none⟩ 64 [.slice A15 q.length c15, .int .i64 (k0 : Nat), .int .i64 ((m1 : Int) * 256 + (m2 : Int)), .slice (some ⟨bk, o + (K + 2), none⟩) Z (c - (K + 2))] _ (fun j v hv => by rw [addr_add0, (hXd.below hW hXd.lt).cell j]; simpa using hv) Tryz.underlying64 rfl refSize)
      clear hT5 hX5 hE5 hBr5
      refine wp_region_X (fun W => Below wd5.heap.size wd5 W) [9] (by kernel_rfl) (by rw [hwd]; exact Below.refl _ _) (fun hS => ?_)
      rw [hwd] at hS ⊢
      clear hwd
      have HSF : Sl (∀ W, Below wd5.heap.size wd5 W → True) := ⟨fun _ _ => trivial⟩
      have hcV : ¬ c = K + 2 + Z := by omega
      have hx1 : (K : Int) + 2 + (Z : Int) ≤ (K : Int) + 2 + (Z : Int) + 8 := by omega
      have hx2 : (K : Int) + 2 + (Z : Int) + 8 ≤ (c : Int) := by omega
      have hy1 : (0 : Int) ≤ (K : Int) + 2 + (Z : Int) := by omega
      have hz1 : ((K : Int) + 2 + (Z : Int)).toNat = K + 2 + Z := by omega
      have hz2 : ((K : Int) + 2 + (Z : Int) + 8).toNat = K + 2 + Z + 8 := by omega
      have hw1 : IntKind.i64.wrap ((K : Int) + 2 + (Z : Int) + 8 - 8) = (K : Int) + 2 + (Z : Int) := by rw [Int.add_sub_cancel]; exact IntWalk.i64_in _ (by omega)
      have hw2 : IntKind.i64.wrap ((K : Int) + 2 + (Z : Int)) = (K : Int) + 2 + (Z : Int) := IntWalk.i64_in _ (by omega)
      refine wpAnyX_S (i := 0) (v := ?_) rfl (by kernel_rfl) (by kernel_rfl) (by kernel_rfl) (by kernel_rfl) (fun _ _ _ h => h) (Or.inl ⟨by rfl, ?_⟩) hS ?_
      rotate_left 1
      · (intro w' hw'; (first | rw [hw'] | (have hw2 := HSF.out w' hw') | skip); go_simp; (try with_reducible rfl))
      simp only [Act.put, List.setIfInBounds_toArray, List.set_cons_zero, List.set_cons_succ]
      refine wpAnyX_S (i := 1) (v := ?_) rfl (by kernel_rfl) (by kernel_rfl) (by kernel_rfl) (by kernel_rfl) (fun _ _ _ h => h) (Or.inl ⟨by rfl, ?_⟩) hS ?_
      rotate_left 1
      · (intro w' hw'; (first | rw [hw'] | (have hw2 := HSF.out w' hw') | skip); go_simp; (try with_reducible rfl))
      simp only [Act.put, List.setIfInBounds_toArray, List.set_cons_zero, List.set_cons_succ]
      refine wpAnyX_S (i := 2) (v := ?_) rfl (by kernel_rfl) (by kernel_rfl) (by kernel_rfl) (by kernel_rfl) (fun _ _ _ h => h) (Or.inl ⟨by rfl, ?_⟩) hS ?_
      rotate_left 1
      · (intro w' hw'; (first | rw [hw'] | (have hw2 := HSF.out w' hw') | skip); go_simp; (try with_reducible rfl))
      simp only [Act.put, List.setIfInBounds_toArray, List.set_cons_zero, List.set_cons_succ]
      refine wpAnyX_S (i := 3) (v := ?_) rfl (by kernel_rfl) (by kernel_rfl) (by kernel_rfl) (by kernel_rfl) (fun _ _ _ h => h) (Or.inl ⟨by rfl, ?_⟩) hS ?_
      rotate_left 1
      · (intro w' hw'; (first | rw [hw'] | (have hw2 := HSF.out w' hw') | skip); go_simp; (try with_reducible rfl))
      simp only [Act.put, List.setIfInBounds_toArray, List.set_cons_zero, List.set_cons_succ]
      refine wpAnyX_S (i := 4) (v := ?_) rfl (by kernel_rfl) (by kernel_rfl) (by kernel_rfl) (by kernel_rfl) (fun _ _ _ h => h) (Or.inl ⟨by rfl, ?_⟩) hS ?_
      rotate_left 1
      · (intro w' hw'; (first | rw [hw'] | (have hw2 := HSF.out w' hw') | skip); go_simp; (try with_reducible rfl))
      simp only [Act.put, List.setIfInBounds_toArray, List.set_cons_zero, List.set_cons_succ]
      clear hcV hx1 hx2 hy1 hz1 hz2 hw1 hw2
      refine wpAnyX_S (i := 5) (v := .agg TT) rfl (by kernel_rfl) (by kernel_rfl) (by kernel_rfl) (by kernel_rfl) (fun _ _ _ h => h) (yieldsIf_loadA (by rfl) 33 (.tmp 2) rfl ⟨w.heap.size, 0, none⟩ _ rfl (fun w' hw' => HLV.out w' hw')) hS ?_
      simp only [Act.put, List.setIfInBounds_toArray, List.set_cons_zero, List.set_cons_succ]
      refine wpAnyX_S (i := 6) (v := .agg #[.slice A15 q.length c15, .int .i64 (k0 : Nat), .int .i64 ((m1 : Int) * 256 + (m2 : Int)), .slice (some ⟨bk, o + (K + 2), none⟩) Z (c - (K + 2))]) rfl (by kernel_rfl) (by kernel_rfl) (by kernel_rfl) (by kernel_rfl) (fun _ _ _ h => h) (yieldsIf_loadA (by rfl) 64 (.tmp 11) rfl ⟨gX, 0, none⟩ _ rfl (fun w' hw' => HLX.out w' hw')) hS ?_
      simp only [Act.put, List.setIfInBounds_toArray, List.set_cons_zero, List.set_cons_succ]
      have HS5 := HSE.out wd5 hbd
      rw [HXC.out, HTT.out] at HS5
      refine wpAnyX_oneL (k := 7) rfl (by kernel_rfl) rfl ?_
      refine wp_of_call (f := 25) (args := #[.agg TT, .agg #[.slice A15 q.length c15, .int .i64 (k0 : Nat), .int .i64 ((m1 : Int) * 256 + (m2 : Int)), .slice (some ⟨bk, o + (K + 2), none⟩) Z (c - (K + 2))]]) (by go_simp) HS5 (fun e w6 hq => ?_)
      obtain ⟨gs, cs, rfl, hrs, hB6⟩ := hq
      refine ⟨_, rfl, fun _ => hB6, ?_⟩
      simp only [Act.put, List.setIfInBounds_toArray, List.set_cons_zero, List.set_cons_succ]
      have hE6 := below_tr hEd hB6
      have hRS := reads_of_rds hrs
      rw [sealF_len] at hRS
      have hSL : Reads w6 w6.heap.size 1 (some ⟨bk, o + (K + 2 + Z), none⟩) 8 (u8s sl) := by
        rw [← HSX.out]
        exact sub_reads HL.out (Nat.lt_of_lt_of_le HBK.out hE6.size) (HC.out w6 hE6) (by omega)
      have HBQ := bsame_any (some ⟨bk, o + (K + 2 + Z), none⟩) (some ⟨gs, 0, none⟩) 8 (c - (K + 2 + Z)) 8 cs sl (sealF x.e) w6 (by omega) (by omega) hSL hRS
      refine wpAnyX_oneL (k := 8) rfl (by kernel_rfl) rfl ?_
      refine wp_of_call (f := 13) (args := #[.slice (some ⟨bk, o + (K + 2 + Z), none⟩) 8 (c - (K + 2 + Z)), .slice (some ⟨gs, 0, none⟩) 8 cs]) (by go_simp) HBQ (fun e w7 hq => ?_)
      obtain ⟨rfl, k7, rfl⟩ := hq
      have hB7 := below_drN hB6 k7
      refine ⟨_, rfl, fun _ => hB7, ?_⟩
      simp only [Act.put, List.setIfInBounds_toArray, List.set_cons_zero, List.set_cons_succ]
      refine wpAnyX_tailF [9] (by kernel_rfl) (by rfl) (by rfl) (by rfl) ?_
      simp only [List.filterMap_cons, List.filterMap_nil, List.getElem?_cons_succ, List.getElem?_cons_zero]
      have hE7 := below_tr hEd hB7
      have hT7 := hTd.be hB7
      have hX7 := hXd.be hB7
      have hBr7 := below_tr hBrd hB7
      have HOK7 := Sl.mk ((HOK5.out.be hbd).be hB7)
      obtain ⟨w7, hw7⟩ : ∃ w7, w6.drewN k7 = w7 := ⟨_, rfl⟩
      rw [hw7] at hE7 hT7 hX7 hBr7 HOK7 ⊢
      clear hw7 hB7 HBQ hSL hRS hrs hB6 hE6 HS5 HLV HLX HSF hS hEd hTd hXd hBrd hbd HSE HOK5
      cases hQ : eqB sl (sealF x.e)
      · have HX := Sl.mk (HBAD.out 5 (HN4.out.trans (by rw [if_neg (by rw [hQ]; simp)])) (by decide))
        clear hQ
        go_wp2_with fail
        refine NoPanic.normal ?_
        go_wp2_with fail
        go_ret3
        exact ⟨hE7, .inl ⟨HX.out.1, i, 5, by decide, HX.out.2, rfl⟩⟩
      have HDE2 := Sl.mk (HOKK.out (HN4.out.trans (if_pos hQ)))
      clear hQ HBAD HOKK HN4
      go_wp2_with fail
      refine NoPanic.normal ?_
      go_wp2_with fail
      obtain ⟨wd7, hwd⟩ : ∃ wd7, w7.drew = wd7 := ⟨_, rfl⟩
      have hbd : Below w7.heap.size w7 wd7 := by rw [← hwd]; exact (Below.refl _ _).drew
      have hEd := below_tr hE7 hbd
      have hTd := hT7.be hbd
      have hXd := hX7.be hbd
      have hBrd := below_tr hBr7 hbd
      have HOKd := Sl.mk (HOK7.out.be hbd)
      have HLX : Sl (∀ W, Below wd7.heap.size wd7 W → (loadVar 64 ⟨gX, 0, none⟩).run Tryz.prog W = .ok (.agg #[.slice A15 q.length c15, .int .i64 (k0 : Nat), .int .i64 ((m1 : Int) * 256 + (m2 : Int)), .slice (some ⟨bk, o + (K + 2), none⟩) Z (c - (K + 2))]) W) := Sl.mk (fun W hW => by
        exact run_loadVar_at W ⟨gX, 0, none⟩ 64 [.slice A15 q.length c15, .int .i64 (k0 : Nat), .int .i64 ((m1 : Int) * 256 + (m2 : Int)), .slice (some ⟨bk, o + (K + 2), none⟩) Z (c - (K + 2))] _ (fun j v hv => by rw [addr_add0, (hXd.below hW hXd.lt).cell j]; simpa using hv) Tryz.underlying64 rfl refSize)
      have HLd := Sl.mk (fun (W : World) (hW : Below wd7.heap.size wd7 W) => HLr.out.be (below_tr hBrd hW))
      have HXL := Sl.mk (show exC x = [.slice A15 q.length c15, .int .i64 (k0 : Nat), .int .i64 ((m1 : Int) * 256 + (m2 : Int)), .slice (some ⟨bk, o + (K + 2), none⟩) Z (c - (K + 2))] by
        have := congrArg Array.toList HXC.out
        simpa using this)
      clear hE7 hT7 hX7 hBr7 HOK7 hbd
      have hHFM := HFM.out
      rw [hHFM] at HDE2
      rw [HEF.out] at HDE2
      simp only at HDE2
      clear hHFM
      refine wp_region_X (fun W => Below wd7.heap.size wd7 W) [5, 6] (by kernel_rfl) (by rw [hwd]; exact Below.refl _ _) (fun hS => ?_)
      rw [hwd] at hS ⊢
      clear hwd
      have HSF : Sl (∀ W, Below wd7.heap.size wd7 W → True) := ⟨fun _ _ => trivial⟩
      refine wpAnyX_S (i := 1) (v := ?_) rfl (by kernel_rfl) (by kernel_rfl) (by kernel_rfl) (by kernel_rfl) (fun _ _ _ h => h) (Or.inl ⟨by rfl, ?_⟩) hS ?_
      rotate_left 1
      · (intro w' hw'; (first | rw [hw'] | (have hw2 := HSF.out w' hw') | skip); go_simp; (try with_reducible rfl))
      simp only [Act.put, List.setIfInBounds_toArray, List.set_cons_zero, List.set_cons_succ]
      refine wpAnyX_S (i := 3) (v := .agg #[.slice A15 q.length c15, .int .i64 (k0 : Nat), .int .i64 ((m1 : Int) * 256 + (m2 : Int)), .slice (some ⟨bk, o + (K + 2), none⟩) Z (c - (K + 2))]) rfl (by kernel_rfl) (by kernel_rfl) (by kernel_rfl) (by kernel_rfl) (fun _ _ _ h => h) (yieldsIf_loadA (by rfl) 64 (.tmp 11) rfl ⟨gX, 0, none⟩ _ rfl (fun w' hw' => HLX.out w' hw')) hS ?_
      simp only [Act.put, List.setIfInBounds_toArray, List.set_cons_zero, List.set_cons_succ]
      refine wpAnyX_web [0, 2, 4] (fun k => k + 160) (fun k => if k = 2 then [0] else []) (RMoreP wd7.heap.size i li x) _ _ 173 2 (by kernel_rfl) (by decide) (by decide) (by kernel_rfl) (by rfl) (by decide) ?_ ?_ ?_ _ hS
      · intro k hk v W W' _ hP hb
        simp only [List.mem_cons, List.not_mem_nil, or_false] at hk
        rcases hk with rfl | rfl | rfl
        · obtain ⟨g, rfl, hg, h⟩ := hP
          exact ⟨g, rfl, hg, h.below hb h.lt⟩
        · obtain ⟨A', c', rfl, h⟩ := hP
          exact ⟨A', c', rfl, own_below h hb⟩
        · obtain ⟨g, rfl, h⟩ := hP
          exact ⟨g, rfl, (h.below hb).more hb.size⟩
      · intro k hk a W σ hW hag hdep
        simp only [List.mem_cons, List.not_mem_nil, or_false] at hk
        have e161 : a.tmps[161]?.getD undef = .slice Al i cl := ev_at ((hag 161 (by decide)).trans rfl)
        have e163 : a.tmps[163]?.getD undef = .agg #[.slice A15 q.length c15, .int .i64 (k0 : Nat), .int .i64 ((m1 : Int) * 256 + (m2 : Int)), .slice (some ⟨bk, o + (K + 2), none⟩) Z (c - (K + 2))] := ev_at ((hag 163 (by decide)).trans rfl)
        rcases hk with rfl | rfl | rfl
        all_goals simp only [List.getElem?_cons_succ, List.getElem?_cons_zero, Option.getD_some]
        · exact wp_of_run (v := .slice (some ⟨W.heap.size, 0, none⟩) 0 0) (w' := W.alloc (.cells #[] 64)) (by go_simp) ⟨_, rfl, below_al (Below.refl _ _) _, _, rfl, hW.size, Blk.new _ _ _⟩
        · obtain ⟨e160, g, h160, hg, hBk⟩ := hdep 0 (by decide)
          have e160 := ev_at (e160.trans h160)
          obtain ⟨A', c', w', hrun, ho, hb⟩ := app_empty (P := Tryz.prog) W 27 27 64 r0 _ 4 64 Tryz.underlying27 hr0 hv0 hv1 hv2 (by rfl) (by decide) wd7.heap.size g hg hBk W.heap.size i cl Al (exsC li) (HLd.out W hW).row (by unfold maxLen; omega) (by omega)
          exact wp_app (s := .tmp 160) (x := .tmp 161) rfl (by simpa [Act.eval] using e160) (by simpa [Act.eval] using e161) hrun ⟨_, rfl, hb, A', c', rfl, ho⟩
        · refine wp_of_run (v := .slice (some ⟨W.heap.size, 0, none⟩) 1 1) (w' := W.alloc (.cells #[.slice A15 q.length c15, .int .i64 (k0 : Nat), .int .i64 ((m1 : Int) * 256 + (m2 : Int)), .slice (some ⟨bk, o + (K + 2), none⟩) Z (c - (K + 2))] 64)) (by go_simp) ⟨_, rfl, below_al (Below.refl _ _) _, _, rfl, ?_⟩
          rw [HXL.out]
          have h := reads_row4 W (.slice A15 q.length c15) (.int .i64 (k0 : Nat)) (.int .i64 ((m1 : Int) * 256 + (m2 : Int))) (.slice (some ⟨bk, o + (K + 2), none⟩) Z (c - (K + 2))) 64
          simpa using h
      · intro σ W hW hP
        obtain ⟨g0, h0, -, -⟩ := hP 0 (by decide)
        obtain ⟨A2, c2, h2, ho2⟩ := hP 2 (by decide)
        obtain ⟨g7, h7, hr7⟩ := hP 4 (by decide)
        simp only [putL, List.foldl]
        rw [h0, h2, h7]
        simp only [Nat.reduceAdd]
        simp only [Act.put, List.setIfInBounds_toArray, List.set_cons_zero, List.set_cons_succ]
        refine wpAnyX_tailF [5, 6] (by kernel_rfl) (by rfl) (by rfl) (by rfl) ?_
        simp only [List.filterMap_cons, List.filterMap_nil, List.getElem?_cons_succ, List.getElem?_cons_zero]
        refine wpList_append_anyG _ rfl (.tmp 162) (.tmp 164) 27 rfl wd7.heap.size 64 r0 (.agg #[.slice none 0 0, .int .i64 0, .int .i64 0, .slice none 0 0]) 4 64 Tryz.underlying27 hr0 hv0 hv1 hv2 (by rfl) (by decide) (.slice A2 i c2) i (exsC li) rfl ho2 W.heap.size (some ⟨g7, 0, none⟩) 1 1 (exC x) rfl hr7 (exC_one x) (by unfold maxLen; omega) (by omega) hW.size ?_
        intro v9 w9 ho9 hg9 hb9
        have hE9 : Below wd7.heap.size wd7 w9 := hW.grown hg9 hW.size (fun g hg => ownGe ho2 hg)
        obtain ⟨A9, c9, rfl⟩ := ownForm ho9
        have hcap := ownCapS ho9
        have hES : Exs w9 A9 (i + 1) (li ++ [x]) := by
          refine ⟨?_, fun y hy => ?_⟩
          · have h := Reads.of_own ho9
            rw [exsC_app]
            have e : exsC [x] = exC x := by simp [exsC]
            rw [e]
            exact h
          · rcases List.mem_append.1 hy with h | h
            · exact (HLd.out w9 hE9).ok y h
            · simp at h; subst h; exact HOKd.out.be hE9
        have HES := Sl.mk hES
        have HDD := Sl.mk (show decF N (b.drop 5) [] = decF (N - (i + 1)) (b.drop (K + 2 + Z + 8)) ((li ++ [x]).map (·.e)) ∧ errK N 0 (b.drop 5) [] = errK (N - (i + 1)) (i + 1) (b.drop (K + 2 + Z + 8)) ((li ++ [x]).map (·.e)) by
          rw [List.map_append]; exact HDE2.out)
        have hTF := hTd.be hE9
        have hEF := below_tr hEd hE9
        clear hP h0 h2 h7 ho2 hr7 ho9 hg9 hb9 hES hE9 HSF HLX HLd hTd hXd hEd hBrd hW HDE2
        go_wp2_with fail
        refine NoPanic.normal ?_
        go_wp2_with fail
        go_roundw
        case rel => exact ⟨i + 1, K + 2 + Z + 8, A9, c9, li ++ [x], by omega, hz8n, by go_num, by go_num, rfl, hcap.1, hcap.2, HES.out, HDD, hTF, hEF⟩
        case measure => simp [intOf]; omega
    · obtain rfl : i = N := by omega
      rw [Nat.sub_self] at HDE
      have HD2 := Sl.mk (show decF i (b.drop 5) [] = some (li.map (·.e), b.drop at_) from HDE.out.1)
      have HE2 := Sl.mk (show errK i 0 (b.drop 5) [] = (i, if b.drop at_ = [] then 0 else 3) from HDE.out.2)
      have HLI := Sl.mk hLi
      clear HDE hLi hTr
      by_cases hlt : at_ < n
      · have hne : ¬ b.drop at_ = [] := fun e => by
          have := congrArg List.length e
          rw [List.length_drop, HL.out] at this
          simp at this
          omega
        have HX1 := Sl.mk (show decodeF b = none by rw [HD.out, HD2.out]; show (if b.drop at_ = [] then _ else _) = _; rw [if_neg hne])
        have HX2 := Sl.mk (show decodeN b = (i, 3) by rw [HDN.out, HE2.out, if_neg hne])
        have hlt' : (at_ : Int) < (n : Int) := by omega
        clear hne
        go_wp2_with fail
        go_ret3
        exact ⟨hB, .inl ⟨HX1.out, i, 3, by decide, HX2.out, rfl⟩⟩
      · have hnil : b.drop at_ = [] := List.drop_of_length_le (by rw [HL.out]; omega)
        have HX1 := Sl.mk (show decodeF b = some (li.map (·.e)) by rw [HD.out, HD2.out]; show (if b.drop at_ = [] then _ else _) = _; rw [if_pos hnil])
        have HX2 := Sl.mk (show decodeN b = (i, 0) by rw [HDN.out, HE2.out, if_pos hnil])
        have hlt' : ¬ (at_ : Int) < (n : Int) := by omega
        clear hnil
        go_wp2_with fail
        go_ret3
        exact ⟨hB, .inr ⟨Al, i, cl, li, rfl, HX2.out, HX1.out, HLI.out, hN40, hicl, hclm⟩⟩

end Go.Proofs.YticcphppnmoogaaGreatDoor
