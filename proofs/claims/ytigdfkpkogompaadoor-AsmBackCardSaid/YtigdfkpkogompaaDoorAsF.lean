/-
  The contract of asm's Assemble.
-/
import Derived.Test.YtigdfkpkogompaaDoorAsE
import Derived.Laws.OwnMore
namespace Go.Proofs.YtigdfkpkogompaaDoor
open Go.RowKit Go.Maps
attribute [local go_sem ↓] Go.wp_at_zero Go.wp_at_succ

theorem line_grow (p : Ps) (s : List UInt8) (no : Nat) : (lineF p s no).1.lab.length ≤ p.lab.length + 1 ∧ (lineF p s no).1.ask.length ≤ p.ask.length + 1 := by
  unfold lineF
  split
  · exact ⟨Nat.le_succ _, Nat.le_succ _⟩
  · split
    · split
      · exact ⟨Nat.le_succ _, Nat.le_succ _⟩
      · rename_i q hq
        unfold markF at hq
        split at hq
        · injection hq with hq
          subst hq
          exact ⟨Nat.le_refl _, Nat.le_succ _⟩
        · cases hq
    · split
      · exact ⟨Nat.le_succ _, Nat.le_succ _⟩
      · rename_i q hq
        unfold oneF at hq
        split at hq
        · cases hq
        · injection hq with hq
          subst hq
          split
          · exact ⟨Nat.le_succ _, Nat.le_succ _⟩
          · refine ⟨Nat.le_succ _, ?_⟩
            show (if _ then _ else _ : List _).length ≤ _
            split
            · simp
            · exact Nat.le_succ _
theorem rest_le (b : List UInt8) : (restF b).length ≤ b.length := by
  unfold restF Lib.trimLeftS
  have := dw_le (bl2.contains ·) (b.drop (wordAt b))
  rw [List.length_drop] at this
  omega
theorem line_names {p : Ps} {s : List UInt8} {no B : Nat} (h : ∀ a ∈ p.ask, a.2.2.length ≤ B) (hs : s.length ≤ B) : ∀ a ∈ (lineF p s no).1.ask, a.2.2.length ≤ B := by
  have hb := bare_le s
  have hr := rest_le (bareF s)
  unfold lineF
  split
  · exact h
  · split
    · split
      · exact h
      · rename_i q hq
        unfold markF at hq
        split at hq
        · injection hq with hq
          subst hq
          exact h
        · cases hq
    · split
      · exact h
      · rename_i q hq
        unfold oneF at hq
        split at hq
        · cases hq
        · injection hq with hq
          subst hq
          split
          · exact h
          · intro a ha
            simp only at ha
            split at ha
            · rcases List.mem_append.1 ha with ha | ha
              · exact h a ha
              · obtain rfl := List.mem_singleton.1 ha
                show (restF (bareF s)).length ≤ B
                omega
            · exact h a ha
theorem splitK_size (sep : List UInt8) (save : Nat) : ∀ (k : Nat) (s x : List UInt8), x ∈ Lib.splitK sep save k s → x.length ≤ s.length
  | 0, s, x, h => by
    rw [Lib.splitK] at h
    obtain rfl := List.mem_singleton.1 h
    exact Nat.le_refl _
  | k + 1, s, x, h => by
    rw [Lib.splitK] at h
    split at h
    · obtain rfl := List.mem_singleton.1 h
      exact Nat.le_refl _
    · rcases List.mem_cons.1 h with rfl | h
      · rw [List.length_take]; omega
      · have := splitK_size sep save k _ x h
        rw [List.length_drop] at this
        omega
theorem split_sz {s x : List UInt8} (h : x ∈ Lib.split s [10]) : x.length ≤ s.length := splitK_size _ _ _ _ _ h
theorem split_cnt (s : List UInt8) : (Lib.split s [10]).length ≤ s.length + 1 := by
  rw [split_len]
  have := Lib.countB_le ⟨#[10]⟩ (by decide) (bsS s).size (bsS s) (Nat.le_refl _)
  rw [bs_size] at this
  omega
theorem isC_set (l : List Ci) (i : Nat) (k : Int) : isC (l.modify i fun x => ⟨x.op, k, x.s⟩) = if i < l.length then (isC l).set (i * 3 + 1) (.int .i64 k) else isC l := by
  induction l generalizing i with
  | nil => simp [isC]
  | cons x l ih =>
    cases i with
    | zero =>
      rw [if_pos (by simp)]
      simp [isC, iC]
    | succ i =>
      have e : (x :: l).modify (i + 1) (fun x => (⟨x.op, k, x.s⟩ : Ci)) = x :: l.modify i (fun x => ⟨x.op, k, x.s⟩) := rfl
      rw [e]
      have e2 : ∀ L : List Ci, isC (x :: L) = iC x ++ isC L := fun L => by simp [isC]
      rw [e2, e2, ih i]
      by_cases h : i < l.length
      · rw [if_pos h, if_pos (by simp; omega), List.set_append_right _ _ (by rw [iC_len]; omega), iC_len, show (i + 1) * 3 + 1 - 3 = i * 3 + 1 by omega]
      · rw [if_neg h, if_neg (by simp; omega)]
theorem askR_lit {w : World} {B n : Nat} {A : Option Addr} {l : List (Nat × Nat × List UInt8)} (h : Reads w B 3 A n (asksC l)) {i : Nat} {x : Nat × Nat × List UInt8} (hi : l[i]? = some x) :
    ∃ b o, A = some ⟨b, o, none⟩ ∧ b < B ∧ ∀ j v, (askC x)[j]? = some v → w.cell? ((⟨b, o + i * 3, none⟩ : Addr).add j) = some v := by
  have hil : i < l.length := (List.getElem?_eq_some_iff.1 hi).1
  have hl : l.length = n := by have := h.1; rw [asksC_len] at this; omega
  obtain ⟨ad, e', hb, hcc⟩ := h.2 (by omega)
  have hlen : 0 < (asksC l).length := by rw [asksC_len]; omega
  have e := addr_lit (hcc 0 _ (List.getElem?_eq_getElem hlen))
  refine ⟨ad.block, ad.off, by rw [← e]; exact e', hb, fun j v hv => ?_⟩
  have h1 := hcc _ v (asksC_at l i x hi j v hv)
  rw [e, Addr.add_lit] at h1
  rw [Addr.add_lit, Nat.add_assoc]
  exact h1
/-- What is read: a program, and where it ends. -/
def AsPost (w : World) (r : List Ci × Nat × Int) (e : Ending) (w' : World) : Prop :=
  ∃ A c, e = .returned (.tuple #[.slice A r.1.length c, .int .i64 (r.2.1 : Nat), .int .i64 r.2.2]) ∧ w'.ownsRow w.heap.size 41 3 (.slice A r.1.length c) r.1.length (isC r.1) ∧ Below w.heap.size w w'
theorem as_nil {w w' : World} {n : Nat} {e : Int} {r : List Ci × Nat × Int} (hr : r = ([], n, e)) (hb : Below w.heap.size w w') : AsPost w r (.returned (.tuple #[.slice none 0 0, .int .i64 n, .int .i64 e])) w' := by
  subst hr
  exact ⟨none, 0, rfl, World.ownsRow_nil _ _ _ _, hb⟩
theorem asm_lines {s : List UInt8} (h : s.length ≤ 8192) : asmF s = if (linesF ps0 (Lib.split s [10]) 1).2.2 = 0 then resF (linesF ps0 (Lib.split s [10]) 1).1.lab (linesF ps0 (Lib.split s [10]) 1).1.ask (linesF ps0 (Lib.split s [10]) 1).1.l
    else ([], (linesF ps0 (Lib.split s [10]) 1).2.1, (linesF ps0 (Lib.split s [10]) 1).2.2) := by
  unfold asmF; rw [if_neg (by omega)]
theorem lines_cons (p : Ps) (s : List UInt8) (r : List (List UInt8)) (no : Nat) : linesF p (s :: r) no = if (lineF p s no).2 = 0 then linesF (lineF p s no).1 r (no + 1) else (p, no, (lineF p s no).2) := rfl
theorem drop_consS {l : List (List UInt8)} {i : Nat} {x : List UInt8} (h : l[i]? = some x) : l.drop i = x :: l.drop (i + 1) := by
  have hi : i < l.length := (List.getElem?_eq_some_iff.1 h).1
  rw [List.drop_eq_getElem_cons hi]
  rw [List.getElem?_eq_getElem hi] at h
  rw [Option.some.inj h]
theorem drop_consA {l : List (Nat × Nat × List UInt8)} {i : Nat} {x : Nat × Nat × List UInt8} (h : l[i]? = some x) : l.drop i = x :: l.drop (i + 1) := by
  have hi : i < l.length := (List.getElem?_eq_some_iff.1 h).1
  rw [List.drop_eq_getElem_cons hi]
  rw [List.getElem?_eq_getElem hi] at h
  rw [Option.some.inj h]
theorem strsA_at (L : List (List UInt8)) (i : Nat) (x : List UInt8) (h : L[i]? = some x) : (strsA L).toArray[i]? = some (.string (bsS x)) := by
  rw [List.getElem?_toArray]
  simp [strsA, h]

set_option maxRecDepth 100000 in
set_option maxHeartbeats 8000000 in
theorem asm_any (s : List UInt8) (w : World) (hs : s.length ≤ 1000000) (hE : Eg w w.heap.size) :
    Calls Tryd.prog 14 #[.string (bsS s)] w (AsPost w (asmF s)) := by
  have hz := bs_size s
  obtain ⟨r, hr⟩ : ∃ r, asmF s = r := ⟨_, rfl⟩
  rw [hr]
  by_cases h8 : 8192 < s.length
  · have HR := Sl.mk (show r = ([], 0, 2) by rw [← hr]; unfold asmF; rw [if_pos h8])
    clear hr
    go_enter Tryd.func14, Tryd.ntmps14
    go_wp2_with fail
    go_ret3
    exact as_nil HR.out (Below.refl _ _)
  · have HR := Sl.mk (show r = _ from hr.symm.trans (asm_lines (s := s) (by omega)))
    have hsl : s.length ≤ 8192 := by omega
    clear hr h8
    have hmm := @run_makeMap Tryd.prog
    have hM := World.ownsMap_made (H := Unit) w Tryd.prog 9 (plainElem Tryd.prog 3)
    have hB1 := Blk.new (w.alloc (.map #[] 0)) 63 #[.slice none 0 0, .map (some w.heap.size), .slice none 0 0]
    have hal := below_al (below_al (Below.refl w.heap.size w) (.map #[] 0)) (.cells #[.slice none 0 0, .map (some w.heap.size), .slice none 0 0] 63)
    have HP := Sl.mk (show Pv ((w.alloc (.map #[] 0)).alloc (.cells #[.slice none 0 0, .map (some w.heap.size), .slice none 0 0] 63)) w.heap.size (w.alloc (.map #[] 0)).heap.size w.heap.size ps0 from
      ⟨⟨none, 0, none, 0, hB1, World.ownsRow_nil _ _ _ _, World.ownsRow_nil _ _ _ _⟩, ⟨_, hM.alloc _, labIn_nil⟩, ⟨by simp, Nat.le_refl _⟩⟩)
    have HAL := Sl.mk hal
    have HSP := Sl.mk (split_any s _ hs (hE.all hal))
    have hE0 := Sl.mk hE
    clear hM hB1 hal hE
    go_enter Tryd.func14, Tryd.ntmps14
    go_wp2_with fail
    obtain ⟨w1, hw1⟩ : ∃ w1, (w.alloc (.map #[] 0)).alloc (.cells #[.slice none 0 0, .map (some w.heap.size), .slice none 0 0] 63) = w1 := ⟨_, rfl⟩
    obtain ⟨pb, hpb⟩ : ∃ pb, (w.alloc (.map #[] 0)).heap.size = pb := ⟨_, rfl⟩
    have hpb2 : w.heap.size + 1 = pb := by rw [← hpb]; simp
    rw [hw1] at HP HAL HSP ⊢
    rw [hpb] at HP
    rw [hpb2]
    clear hw1 hpb hpb2 hmm
    refine HSP.out.mono ?_
    rintro e w2 ⟨rfl, hw2⟩
    have hal2 := below_al (Below.refl w1.heap.size w1) (.cells (strsA (Lib.split s [10])).toArray 9)
    have hBs := Blk.new w1 9 (strsA (Lib.split s [10])).toArray
    rw [← hw2] at hal2 hBs
    obtain ⟨sb, hsb⟩ : ∃ sb, w1.heap.size = sb := ⟨_, rfl⟩
    rw [hsb] at hBs ⊢
    obtain ⟨LS, hLS⟩ : ∃ LS, Lib.split s [10] = LS := ⟨_, rfl⟩
    rw [hLS] at HR hBs ⊢
    have HSZ := Sl.mk (show ∀ x ∈ LS, x.length ≤ 8192 from fun x hx => by rw [← hLS] at hx; exact Nat.le_trans (split_sz hx) hsl)
    obtain ⟨n, hn⟩ : ∃ n, LS.length = n := ⟨_, rfl⟩
    have hn9 : n ≤ 8193 := by rw [← hn, ← hLS]; exact Nat.le_trans (split_cnt s) (by omega)
    rw [hn]
    have HN := Sl.mk hn
    have HBS := Sl.mk hBs
    have HP2 := Sl.mk (HP.out.be hal2)
    have HE2 := Sl.mk (below_tr HAL.out hal2)
    clear hw2 hal2 hBs hsb hLS hn HP HAL HSP
    go_wp2_with fail
    go_loopg [22] n (fun q v22 wr => ∃ (i : Nat) (p : Ps), q = n - i ∧ i ≤ n ∧ v22 = .int .i64 i ∧ Pv wr w.heap.size pb w.heap.size p ∧ Below w.heap.size w wr ∧ Blk wr sb 9 (strsA LS).toArray ∧ Sl (linesF ps0 LS 1 = linesF p (LS.drop i) (i + 1) ∧ InvP p ∧ p.lab.length ≤ i ∧ p.ask.length ≤ i ∧ ∀ a ∈ p.ask, a.2.2.length ≤ 8192))
    case atStart => exact ⟨0, ps0, rfl, Nat.zero_le _, rfl, HP2.out, HE2.out, HBS.out, ⟨rfl, inv0, Nat.le_refl _, Nat.le_refl _, fun a ha => nomatch ha⟩⟩
    case round =>
      clear HP2 HE2 HBS
      obtain ⟨i, p, hq, hi, rfl, hP, hB, hBs, HJ⟩ := hrel
      by_cases hlt : i < n
      · obtain ⟨x, hx⟩ : ∃ x, LS[i]? = some x := ⟨_, List.getElem?_eq_getElem (by rw [HN.out]; exact hlt)⟩
        have g1 := (hBs.cell i).trans (strsA_at LS i x hx)
        have hx9 := HSZ.out x (List.mem_of_getElem? hx)
        obtain ⟨m, hm⟩ : ∃ m : Nat, m = i + 1 := ⟨_, rfl⟩
        have hmi : (i : Int) + 1 = (m : Int) := by omega
        have HL := Sl.mk (line_any w.heap.size pb w.heap.size m p x wr hP (by omega) HJ.out.2.1.len (by have := HJ.out.2.2.1; omega) (by have := HJ.out.2.2.2.1; omega) hB.size (hE0.out.be hB))
        obtain ⟨q, e, hqe⟩ : ∃ q e, lineF p x m = (q, e) := ⟨_, _, rfl⟩
        unfold LnPost at HL
        rw [hqe] at HL
        have HJ2 := Sl.mk (show linesF ps0 LS 1 = if e = 0 then linesF q (LS.drop (i + 1)) (m + 1) else (p, m, e) by
          rw [HJ.out.1, drop_consS hx, lines_cons, ← hm, hqe])
        have HG := Sl.mk (show e = 0 → InvP q ∧ q.lab.length ≤ i + 1 ∧ q.ask.length ≤ i + 1 ∧ ∀ a ∈ q.ask, a.2.2.length ≤ 8192 from fun _ => by
          have h1 := line_inv (s := x) (no := m) HJ.out.2.1
          have h2 := line_grow p x m
          have h3 := line_names (no := m) HJ.out.2.2.2.2 hx9
          rw [hqe] at h1 h2 h3
          have := HJ.out.2.2
          exact ⟨h1, by simp only at h2; omega, by simp only at h2; omega, h3⟩)
        have HQ := Sl.mk (show n - (i + 1) < gk ∧ i + 1 ≤ n by omega)
        have HM := Sl.mk hm
        have HB := Sl.mk hB
        have HBs := Sl.mk hBs
        have hin : (i : Int) < (n : Int) := by omega
        clear hx hqe hP hB hBs HJ hq hm
        go_wp2_with fail
        refine HL.out.mono ?_
        rintro e4 w4 ⟨rfl, h4, hb4, hk4⟩
        have HB4 := Sl.mk (HB.out.trans hb4)
        have HS4 := Sl.mk (hk4 _ _ HBs.out)
        have H4 := Sl.mk h4
        clear h4 hb4 hk4 g1
        by_cases he : e = 0
        · subst he
          go_wp2_with fail
          go_roundg (n - (i + 1))
          case measure => exact HQ.out.1
          case rel => exact ⟨i + 1, q, rfl, HQ.out.2, by go_num, H4.out (by trivial), HB4.out, HS4.out, ⟨by rw [HJ2.out, if_pos (by trivial), HM.out], HG.out (by trivial)⟩⟩
        · have heb : (e != 0) = true := by simpa using he
          have HRR := Sl.mk (show r = ([], m, e) by rw [HR.out, HJ2.out, if_neg he, if_neg he])
          clear he
          go_wp2_with fail
          go_ret3
          exact as_nil HRR.out HB4.out
      · obtain rfl : i = n := by omega
        have HJ3 := Sl.mk (show linesF ps0 LS 1 = (p, 0, 0) by rw [HJ.out.1, List.drop_of_length_le (by rw [HN.out]; omega)]; rfl)
        have HRR := Sl.mk (show r = resF p.lab p.ask p.l by rw [HR.out, HJ3.out, if_pos rfl])
        have HINV := Sl.mk HJ.out.2.1
        have hlab := HJ.out.2.2.1
        have hask := HJ.out.2.2.2.1
        have HNM := Sl.mk HJ.out.2.2.2.2
        obtain ⟨A, c, A2, c2, hBp, hO, hO2⟩ := hP.blk
        have d2 := hBp.cell 2
        obtain ⟨N, hNN⟩ : ∃ N, p.ask.length = N := ⟨_, rfl⟩
        obtain ⟨L, hL⟩ : ∃ L, p.l.length = L := ⟨_, rfl⟩
        rw [hNN] at hBp hO2 d2 hask
        rw [hL] at hBp hO
        have HNK := Sl.mk hNN
        have HLL := Sl.mk hL
        have HBP := Sl.mk hBp
        have HO := Sl.mk hO
        have HO2 := Sl.mk hO2
        have HM := Sl.mk hP.map
        have HB := Sl.mk hB
        have HL9 := Sl.mk (show L ≤ 200 by rw [← hL]; exact HINV.out.len)
        clear hBp hO hO2 hP hB hBs HJ hq hlt hi hNN hL HJ3 HR
        go_wp2_with fail
        go_loopg [43] N (fun q v43 wr2 => ∃ (j : Nat) (l : List Ci), q = N - j ∧ j ≤ N ∧ v43 = .int .i64 j ∧ Blk wr2 pb 63 #[.slice A L c, .map (some w.heap.size), .slice A2 N c2] ∧ wr2.ownsRow w.heap.size 41 3 (.slice A L c) L (isC l) ∧ wr2.ownsRow w.heap.size 67 3 (.slice A2 N c2) N (asksC p.ask) ∧ Mp wr2 w.heap.size p.lab ∧ Below w.heap.size w wr2 ∧ Sl (r = resF p.lab (p.ask.drop j) l ∧ l.length = L))
        case atStart => exact ⟨0, p.l, rfl, Nat.zero_le _, rfl, HBP.out, HO.out, HO2.out, HM.out, HB.out, ⟨HRR.out, HLL.out⟩⟩
        case round =>
          clear HBP HO HO2 HM HB HRR d2
          obtain ⟨j, l, hq, hj, rfl, hBp, hO, hO2, hM, hB, HJ⟩ := hrel
          by_cases hlt : j < N
          · obtain ⟨⟨at_, no, nm⟩, hx⟩ : ∃ x, p.ask[j]? = some x := ⟨_, List.getElem?_eq_getElem (by rw [HNK.out]; exact hlt)⟩
            obtain ⟨b2, o2, rfl, -, hc⟩ := askR_lit (Reads.of_own hO2) hx
            obtain ⟨ax, hax, -⟩ := HINV.out.ask _ (List.mem_of_getElem? hx)
            have hatL : at_ < L := by rw [← HLL.out]; exact (List.getElem?_eq_some_iff.1 hax).1
            have HRS := Sl.mk (show r = (match p.lab.lookup nm with | none => ([], no, 7) | some k => resF p.lab (p.ask.drop (j + 1)) (l.modify at_ fun x => ⟨x.op, (k : Nat), x.s⟩)) by
              rw [HJ.out.1, drop_consA hx]; rfl)
            have k0 : wr.cell? ⟨b2, o2 + j * 3, none⟩ = some (.int .i64 at_) := by have h := hc 0 _ rfl; rw [Addr.add_lit] at h; exact h
            have k1 : wr.cell? ⟨b2, o2 + j * 3 + 1, none⟩ = some (.int .i64 no) := by have h := hc 1 _ rfl; rw [Addr.add_lit] at h; exact h
            have k2 : wr.cell? ⟨b2, o2 + j * 3 + 2, none⟩ = some (.string (bsS nm)) := by have h := hc 2 _ rfl; rw [Addr.add_lit] at h; exact h
            have hal := below_al (Below.refl wr.heap.size wr) (.cells #[.int .i64 at_, .int .i64 no, .string (bsS nm)] 67)
            have hT3 := Blk.new wr 67 #[.int .i64 at_, .int .i64 no, .string (bsS nm)]
            obtain ⟨w3, hw3⟩ : ∃ w3, wr.alloc (.cells #[.int .i64 at_, .int .i64 no, .string (bsS nm)] 67) = w3 := ⟨_, rfl⟩
            rw [hw3] at hal hT3
            have HB3 := Sl.mk (hBp.be hal)
            have HO3 := Sl.mk (own_below hO hal)
            have HO23 := Sl.mk (own_below hO2 hal)
            have HM3 := Sl.mk (show Mp w3 w.heap.size p.lab by rw [← hw3]; exact hM.kept (World.grownBy_alloc wr _ none) (by simp))
            have HE3 := Sl.mk (hB.trans (hal.mono hB.size))
            have HQ := Sl.mk (show N - (j + 1) < gk ∧ j + 1 ≤ N by omega)
            have HJL := Sl.mk HJ.out.2
            have HT3 := Sl.mk hT3
            have HW3 := Sl.mk hw3
            have hnm : nm.length ≤ 1000000 := by have := HNM.out _ (List.mem_of_getElem? hx); simp only at this; omega
            have hjN : (j : Int) < (N : Int) := by omega
            clear hx hax hal hT3 hw3 hq hBp hO hO2 hM hB HJ hc
            go_upto_region 14 with fail
            rw [HW3.out]
            obtain ⟨tb, htb⟩ : ∃ tb, wr.heap.size = tb := ⟨_, rfl⟩
            rw [htb] at HT3 ⊢
            clear htb HW3 k0 k1 k2
            obtain ⟨wd, hwd⟩ : ∃ wd, w3.drew = wd := ⟨_, rfl⟩
            have HBd := Sl.mk (show Blk wd pb 63 #[.slice A L c, .map (some w.heap.size), .slice (some ⟨b2, o2, none⟩) N c2] by rw [← hwd]; exact HB3.out.drew)
            have HTd := Sl.mk (show Blk wd tb 67 #[.int .i64 at_, .int .i64 no, .string (bsS nm)] by rw [← hwd]; exact HT3.out.drew)
            have HOd := Sl.mk (show wd.ownsRow w.heap.size 41 3 (.slice A L c) L (isC l) by rw [← hwd]; exact HO3.out)
            have HO2d := Sl.mk (show wd.ownsRow w.heap.size 67 3 (.slice (some ⟨b2, o2, none⟩) N c2) N (asksC p.ask) by rw [← hwd]; exact HO23.out)
            have HMd := Sl.mk (show Mp wd w.heap.size p.lab by rw [← hwd]; exact HM3.out)
            have HEd := Sl.mk (show Below w.heap.size w wd by rw [← hwd]; exact HE3.out.drew)
            have HSF : Sl (∀ W, Blk W pb 63 #[.slice A L c, .map (some w.heap.size), .slice (some ⟨b2, o2, none⟩) N c2] ∧ Blk W tb 67 #[.int .i64 at_, .int .i64 no, .string (bsS nm)] → W.cell? ⟨pb, 1, none⟩ = some (.map (some w.heap.size)) ∧ W.cell? ⟨tb, 2, none⟩ = some (.string (bsS nm))) := Sl.mk (fun W hW => ⟨hW.1.cell 1, hW.2.cell 2⟩)
            refine wp_region_X (fun W => Blk W pb 63 #[.slice A L c, .map (some w.heap.size), .slice (some ⟨b2, o2, none⟩) N c2] ∧ Blk W tb 67 #[.int .i64 at_, .int .i64 no, .string (bsS nm)]) [6, 7, 8, 9, 10, 11] (by kernel_rfl) (by rw [hwd]; exact ⟨HBd.out, HTd.out⟩) (fun hS => ?_)
            rw [hwd] at hS ⊢
            clear hwd HB3 HO3 HO23 HM3 HE3 HT3
            refine wpAnyX_S (i := 0) (v := ?_) rfl (by kernel_rfl) (by kernel_rfl) (by kernel_rfl) (by kernel_rfl) (fun _ _ _ h => h) (Or.inl ⟨by rfl, ?_⟩) hS ?_
            rotate_left 1
            · (intro w' hw'; (first | rw [hw'] | (have hw2 := HSF.out w' hw'; (try obtain ⟨hw2, hw3⟩ := hw2)) | skip); go_simp; (try with_reducible rfl))
            simp only [Act.put, List.setIfInBounds_toArray, List.set_cons_zero, List.set_cons_succ]
            refine wpAnyX_S (i := 1) (v := ?_) rfl (by kernel_rfl) (by kernel_rfl) (by kernel_rfl) (by kernel_rfl) (fun _ _ _ h => h) (Or.inl ⟨by rfl, ?_⟩) hS ?_
            rotate_left 1
            · (intro w' hw'; (first | rw [hw'] | (have hw2 := HSF.out w' hw'; (try obtain ⟨hw2, hw3⟩ := hw2)) | skip); go_simp; (try with_reducible rfl))
            simp only [Act.put, List.setIfInBounds_toArray, List.set_cons_zero, List.set_cons_succ]
            refine wpAnyX_S (i := 2) (v := ?_) rfl (by kernel_rfl) (by kernel_rfl) (by kernel_rfl) (by kernel_rfl) (fun _ _ _ h => h) (Or.inl ⟨by rfl, ?_⟩) hS ?_
            rotate_left 1
            · (intro w' hw'; (first | rw [hw'] | (have hw2 := HSF.out w' hw'; (try obtain ⟨hw2, hw3⟩ := hw2)) | skip); go_simp; (try with_reducible rfl))
            simp only [Act.put, List.setIfInBounds_toArray, List.set_cons_zero, List.set_cons_succ]
            refine wpAnyX_S (i := 3) (v := ?_) rfl (by kernel_rfl) (by kernel_rfl) (by kernel_rfl) (by kernel_rfl) (fun _ _ _ h => h) (Or.inl ⟨by rfl, ?_⟩) hS ?_
            rotate_left 1
            · (intro w' hw'; (first | rw [hw'] | (have hw2 := HSF.out w' hw'; (try obtain ⟨hw2, hw3⟩ := hw2)) | skip); go_simp; (try with_reducible rfl))
            simp only [Act.put, List.setIfInBounds_toArray, List.set_cons_zero, List.set_cons_succ]
            refine wpAnyX_S (i := 4) (v := ?_) rfl (by kernel_rfl) (by kernel_rfl) (by kernel_rfl) (by kernel_rfl) (fun _ _ _ h => h) (Or.inl ⟨by rfl, ?_⟩) hS ?_
            rotate_left 1
            · (intro w' hw'; (first | rw [hw'] | (have hw2 := HSF.out w' hw'; (try obtain ⟨hw2, hw3⟩ := hw2)) | skip); go_simp; (try with_reducible rfl))
            simp only [Act.put, List.setIfInBounds_toArray, List.set_cons_zero, List.set_cons_succ]
            refine wpAnyX_S (i := 5) (v := ?_) rfl (by kernel_rfl) (by kernel_rfl) (by kernel_rfl) (by kernel_rfl) (fun _ _ _ h => h) (Or.inl ⟨by rfl, ?_⟩) hS ?_
            rotate_left 1
            · (intro w' hw'; (first | rw [hw'] | (have hw2 := HSF.out w' hw'; (try obtain ⟨hw2, hw3⟩ := hw2)) | skip); go_simp; (try with_reducible rfl))
            simp only [Act.put, List.setIfInBounds_toArray, List.set_cons_zero, List.set_cons_succ]
            obtain ⟨cv, hlk, hcv⟩ := HMd.out.look nm hnm
            obtain ⟨lk, hlke⟩ : ∃ lk, p.lab.lookup nm = lk := ⟨_, rfl⟩
            rw [hlke] at HRS hlk hcv
            refine wpAnyX_oneL (k := 6) rfl (by kernel_rfl) rfl ?_
            refine wp_of_run (v := .tuple #[.int .i64 cv, .bool lk.isSome]) (w' := wd) (by
              unfold execOp
              simp [Act.eval, hlk]) ⟨fun h => absurd h (by decide), ?_⟩
            simp only [Act.put, List.setIfInBounds_toArray, List.set_cons_zero, List.set_cons_succ]
            clear hlk HSF hS hlke
            refine wpAnyX_P (i := 7) (v := ?_) rfl (by kernel_rfl) (by kernel_rfl) (by kernel_rfl) (by kernel_rfl) (fun _ _ _ h => h) (Or.inl ⟨by rfl, ?_⟩) ?_
            rotate_left 1
            · (intro w' hw'; (first | rw [hw'] | (have hw2 := HSF.out w' hw'; (try obtain ⟨hw2, hw3⟩ := hw2)) | skip); go_simp; (try with_reducible rfl))
            simp only [Act.put, List.setIfInBounds_toArray, List.set_cons_zero, List.set_cons_succ]
            refine wpAnyX_P (i := 8) (v := ?_) rfl (by kernel_rfl) (by kernel_rfl) (by kernel_rfl) (by kernel_rfl) (fun _ _ _ h => h) (Or.inl ⟨by rfl, ?_⟩) ?_
            rotate_left 1
            · (intro w' hw'; (first | rw [hw'] | (have hw2 := HSF.out w' hw'; (try obtain ⟨hw2, hw3⟩ := hw2)) | skip); go_simp; (try with_reducible rfl))
            simp only [Act.put, List.setIfInBounds_toArray, List.set_cons_zero, List.set_cons_succ]
            refine wpAnyX_P (i := 9) (v := ?_) rfl (by kernel_rfl) (by kernel_rfl) (by kernel_rfl) (by kernel_rfl) (fun _ _ _ h => h) (Or.inl ⟨by rfl, ?_⟩) ?_
            rotate_left 1
            · (intro w' hw'; (first | rw [hw'] | (have hw2 := HSF.out w' hw'; (try obtain ⟨hw2, hw3⟩ := hw2)) | skip); go_simp; (try with_reducible rfl))
            simp only [Act.put, List.setIfInBounds_toArray, List.set_cons_zero, List.set_cons_succ]
            refine wpAnyX_tailF [10, 11] (by kernel_rfl) (by rfl) (by rfl) (by rfl) ?_
            simp only [List.filterMap_cons, List.filterMap_nil, List.getElem?_cons_succ, List.getElem?_cons_zero]
            have t1 := HTd.out.cell 1
            cases lk with
            | none =>
              have HF := Sl.mk (show r = ([], no, 7) from HRS.out)
              clear hcv
              go_wp2_with fail
              refine NoPanic.normal ?_
              go_wp2_with fail
              go_quiet (fail)
              go_wp2_with fail
              go_ret3
              exact as_nil HF.out (below_drN HEd.out _)
            | some kk =>
              have hck := hcv kk rfl
              subst hck
              have HRS2 := Sl.mk (show r = resF p.lab (p.ask.drop (j + 1)) (l.modify at_ fun x => ⟨x.op, ((kk : Nat) : Int), x.s⟩) from HRS.out)
              clear hcv HRS t1
              go_wp2_with fail
              refine NoPanic.normal ?_
              go_wp2_with fail
              obtain ⟨g, cg, hA, -, -, hgc⟩ := ownCells HOd.out (by omega)
              injection hA with hA _ hcc
              subst hA
              subst hcc
              have hat3 : at_ * 3 + 1 < (isC l).length := by rw [isC_len, HJL.out]; omega
              obtain ⟨cu, hcu⟩ : ∃ cu, (isC l)[at_ * 3 + 1]? = some cu := ⟨_, List.getElem?_eq_getElem hat3⟩
              have HGC := Sl.mk (hgc (at_ * 3 + 1) cu hcu)
              have HGF := Sl.mk (HOd.out.frozenAt (at_ * 3 + 1))
              have hpg : pb ≠ g := fun e => own_blk_ne HOd.out HBd.out (by decide) (by simp [Value.ownBlock, e])
              obtain ⟨we, hwe⟩ : ∃ we, wd.drew = we := ⟨_, rfl⟩
              have HBe := Sl.mk (show Blk we pb 63 #[.slice (some ⟨g, 0, none⟩) L c, .map (some w.heap.size), .slice (some ⟨b2, o2, none⟩) N c2] by rw [← hwe]; exact HBd.out.drew)
              have HTe := Sl.mk (show Blk we tb 67 #[.int .i64 at_, .int .i64 no, .string (bsS nm)] by rw [← hwe]; exact HTd.out.drew)
              have HOe := Sl.mk (show we.ownsRow w.heap.size 41 3 (.slice (some ⟨g, 0, none⟩) L c) L (isC l) by rw [← hwe]; exact HOd.out)
              have HO2e := Sl.mk (show we.ownsRow w.heap.size 67 3 (.slice (some ⟨b2, o2, none⟩) N c2) N (asksC p.ask) by rw [← hwe]; exact HO2d.out)
              have HMe := Sl.mk (show Mp we w.heap.size p.lab by rw [← hwe]; exact HMd.out)
              have HEe := Sl.mk (show Below w.heap.size w we by rw [← hwe]; exact HEd.out.drew)
              have HGCe := Sl.mk (show we.cell? ⟨g, at_ * 3 + 1, none⟩ = some cu from (by rw [← hwe]; exact HGC.out))
              have HGFe := Sl.mk (show we.frozen? ⟨g, at_ * 3 + 1, none⟩ = false by rw [← hwe]; exact HGF.out)
              have hgb := (HOe.out.lt g rfl).1
              have HSF : Sl (∀ W, Blk W pb 63 #[.slice (some ⟨g, 0, none⟩) L c, .map (some w.heap.size), .slice (some ⟨b2, o2, none⟩) N c2] ∧ Blk W tb 67 #[.int .i64 at_, .int .i64 no, .string (bsS nm)] → W.cell? ⟨pb, 0, none⟩ = some (.slice (some ⟨g, 0, none⟩) L c) ∧ W.cell? ⟨tb, 0, none⟩ = some (.int .i64 at_)) := Sl.mk (fun W hW => ⟨hW.1.cell 0, hW.2.cell 0⟩)
              have hatI : (at_ : Int) < (L : Int) := by omega
              clear hgc hat3 HGC HGF hcu
              refine wp_region_X (fun W => Blk W pb 63 #[.slice (some ⟨g, 0, none⟩) L c, .map (some w.heap.size), .slice (some ⟨b2, o2, none⟩) N c2] ∧ Blk W tb 67 #[.int .i64 at_, .int .i64 no, .string (bsS nm)]) [9] (by kernel_rfl) (by rw [hwe]; exact ⟨HBe.out, HTe.out⟩) (fun hS => ?_)
              rw [hwe] at hS ⊢
              clear hwe HBd HTd HOd HO2d HMd HEd
              refine wpAnyX_S (i := 0) (v := ?_) rfl (by kernel_rfl) (by kernel_rfl) (by kernel_rfl) (by kernel_rfl) (fun _ _ _ h => h) (Or.inl ⟨by rfl, ?_⟩) hS ?_
              rotate_left 1
              · (intro w' hw'; (first | rw [hw'] | (have hw2 := HSF.out w' hw'; (try obtain ⟨hw2, hw3⟩ := hw2)) | skip); go_simp; (try with_reducible rfl))
              simp only [Act.put, List.setIfInBounds_toArray, List.set_cons_zero, List.set_cons_succ]
              refine wpAnyX_S (i := 1) (v := ?_) rfl (by kernel_rfl) (by kernel_rfl) (by kernel_rfl) (by kernel_rfl) (fun _ _ _ h => h) (Or.inl ⟨by rfl, ?_⟩) hS ?_
              rotate_left 1
              · (intro w' hw'; (first | rw [hw'] | (have hw2 := HSF.out w' hw'; (try obtain ⟨hw2, hw3⟩ := hw2)) | skip); go_simp; (try with_reducible rfl))
              simp only [Act.put, List.setIfInBounds_toArray, List.set_cons_zero, List.set_cons_succ]
              refine wpAnyX_S (i := 2) (v := ?_) rfl (by kernel_rfl) (by kernel_rfl) (by kernel_rfl) (by kernel_rfl) (fun _ _ _ h => h) (Or.inl ⟨by rfl, ?_⟩) hS ?_
              rotate_left 1
              · (intro w' hw'; (first | rw [hw'] | (have hw2 := HSF.out w' hw'; (try obtain ⟨hw2, hw3⟩ := hw2)) | skip); go_simp; (try with_reducible rfl))
              simp only [Act.put, List.setIfInBounds_toArray, List.set_cons_zero, List.set_cons_succ]
              refine wpAnyX_S (i := 3) (v := ?_) rfl (by kernel_rfl) (by kernel_rfl) (by kernel_rfl) (by kernel_rfl) (fun _ _ _ h => h) (Or.inl ⟨by rfl, ?_⟩) hS ?_
              rotate_left 1
              · (intro w' hw'; (first | rw [hw'] | (have hw2 := HSF.out w' hw'; (try obtain ⟨hw2, hw3⟩ := hw2)) | skip); go_simp; (try with_reducible rfl))
              simp only [Act.put, List.setIfInBounds_toArray, List.set_cons_zero, List.set_cons_succ]
              refine wpAnyX_S (i := 4) (v := ?_) rfl (by kernel_rfl) (by kernel_rfl) (by kernel_rfl) (by kernel_rfl) (fun _ _ _ h => h) (Or.inl ⟨by rfl, ?_⟩) hS ?_
              rotate_left 1
              · (intro w' hw'; (first | rw [hw'] | (have hw2 := HSF.out w' hw'; (try obtain ⟨hw2, hw3⟩ := hw2)) | skip); go_simp; (try with_reducible rfl))
              simp only [Act.put, List.setIfInBounds_toArray, List.set_cons_zero, List.set_cons_succ]
              refine wpAnyX_S (i := 5) (v := ?_) rfl (by kernel_rfl) (by kernel_rfl) (by kernel_rfl) (by kernel_rfl) (fun _ _ _ h => h) (Or.inl ⟨by rfl, ?_⟩) hS ?_
              rotate_left 1
              · (intro w' hw'; (first | rw [hw'] | (have hw2 := HSF.out w' hw'; (try obtain ⟨hw2, hw3⟩ := hw2)) | skip); go_simp; (try with_reducible rfl))
              simp only [Act.put, List.setIfInBounds_toArray, List.set_cons_zero, List.set_cons_succ]
              refine wpAnyX_S (i := 6) (v := ?_) rfl (by kernel_rfl) (by kernel_rfl) (by kernel_rfl) (by kernel_rfl) (fun _ _ _ h => h) (Or.inl ⟨by rfl, ?_⟩) hS ?_
              rotate_left 1
              · (intro w' hw'; (first | rw [hw'] | (have hw2 := HSF.out w' hw'; (try obtain ⟨hw2, hw3⟩ := hw2)) | skip); go_simp; (try with_reducible rfl))
              simp only [Act.put, List.setIfInBounds_toArray, List.set_cons_zero, List.set_cons_succ]
              refine wpAnyX_S (i := 7) (v := ?_) rfl (by kernel_rfl) (by kernel_rfl) (by kernel_rfl) (by kernel_rfl) (fun _ _ _ h => h) (Or.inl ⟨by rfl, ?_⟩) hS ?_
              rotate_left 1
              · (intro w' hw'; (first | rw [hw'] | (have hw2 := HSF.out w' hw'; (try obtain ⟨hw2, hw3⟩ := hw2)) | skip); go_simp; (try with_reducible rfl))
              simp only [Act.put, List.setIfInBounds_toArray, List.set_cons_zero, List.set_cons_succ]
              refine wpAnyX_S (i := 8) (v := ?_) rfl (by kernel_rfl) (by kernel_rfl) (by kernel_rfl) (by kernel_rfl) (fun _ _ _ h => h) (Or.inl ⟨by rfl, ?_⟩) hS ?_
              rotate_left 1
              · (intro w' hw'; (first | rw [hw'] | (have hw2 := HSF.out w' hw'; (try obtain ⟨hw2, hw3⟩ := hw2)) | skip); go_simp; (try with_reducible rfl))
              simp only [Act.put, List.setIfInBounds_toArray, List.set_cons_zero, List.set_cons_succ]
              clear hS HSF
              have k1 := HGCe.out
              have f1 := HGFe.out
              have hst := (HOe.out.stored (at_ * 3 + 1) (.int .i64 kk)).1
              have hgr := (HOe.out.stored (at_ * 3 + 1) (.int .i64 kk)).2
              have HST := Sl.mk (show (we.setCell ⟨g, at_ * 3 + 1, none⟩ (.int .i64 kk)).ownsRow w.heap.size 41 3 (.slice (some ⟨g, 0, none⟩) L c) L (isC (l.modify at_ fun x => ⟨x.op, ((kk : Nat) : Int), x.s⟩)) by
                rw [isC_set, if_pos (by rw [HJL.out]; exact hatL)]; exact hst)
              have HBS := Sl.mk (blk_only HBe.out hgr hpg)
              have HO2S := Sl.mk (HO2e.out.kept hgr (by
                have := ownApartA HO2e.out HOe.out (by decide)
                simpa [Value.ownBlock] using this))
              have HMS := Sl.mk (HMe.out.kept hgr (fun e => own_mp_ne HOe.out HMe.out (by simpa [Value.ownBlock] using e.symm)))
              have HES := Sl.mk (HEe.out.setCell (p := ⟨g, at_ * 3 + 1, none⟩) hgb (.int .i64 kk))
              have HLM := Sl.mk (show (l.modify at_ fun x => (⟨x.op, ((kk : Nat) : Int), x.s⟩ : Ci)).length = L by rw [List.length_modify]; exact HJL.out)
              clear hst hgr hpg
              refine wpAnyX_tailF [9] (by kernel_rfl) (by rfl) (by rfl) (by rfl) ?_
              simp only [List.filterMap_cons, List.filterMap_nil, List.getElem?_cons_succ, List.getElem?_cons_zero]
              go_wp2_with fail
              refine NoPanic.normal ?_
              go_wp2_with fail
              go_roundg (N - (j + 1))
              case measure => exact HQ.out.1
              case rel => exact ⟨j + 1, _, rfl, HQ.out.2, by go_num, HBS.out, HST.out, HO2S.out, HMS.out, HES.out, ⟨HRS2.out, HLM.out⟩⟩
          · obtain rfl : j = N := by omega
            have HF := Sl.mk (show r = (l, 0, 0) by rw [HJ.out.1, List.drop_of_length_le (by rw [HNK.out]; exact Nat.le_refl _)]; rfl)
            have HLN := Sl.mk HJ.out.2
            have d0 := hBp.cell 0
            have HO := Sl.mk hO
            have HB := Sl.mk hB
            clear HJ hBp hO hO2 hM hB hq hlt hj
            go_wp2_with fail
            go_ret3
            refine ⟨A, c, ?_, ?_, HB.out⟩
            · rw [HF.out]; simp only [HLN.out]; rfl
            · rw [HF.out]; simp only [HLN.out]; exact HO.out
end Go.Proofs.YtigdfkpkogompaaDoor
