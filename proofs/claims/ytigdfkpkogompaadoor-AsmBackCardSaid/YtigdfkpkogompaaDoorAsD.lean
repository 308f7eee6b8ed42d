/-
  The contract of asm's one: an instruction, of a word and what is behind it.
-/
import Derived.Test.YtigdfkpkogompaaDoorAsC
namespace Go.Proofs.YtigdfkpkogompaaDoor
open Go.RowKit Go.Maps
attribute [local go_sem ↓] Go.wp_at_zero Go.wp_at_succ

def OnPost (w : World) (base pb mb : Nat) (p : Ps) (word rest : List UInt8) (no : Nat) (e : Ending) (w' : World) : Prop :=
  e = .returned (.bool (oneF p word rest no).isSome) ∧ (∀ q, oneF p word rest no = some q → Pv w' base pb mb q) ∧ Below base w w' ∧ Kps w w'
theorem op_getD (L : List (List UInt8)) (j : Nat) (h : j < L.length) : (L.map bsS).getD j ByteArray.empty = bsS (L.getD j []) := by
  rw [List.getD_eq_getElem?_getD, List.getD_eq_getElem?_getD, List.getElem?_map, List.getElem?_eq_getElem h]
  rfl
theorem index_words (b : Nat) (x : List UInt8) (w : World) (h : Blk w b 9 (wordsL.map fun l => Value.string ⟨l.toArray⟩).toArray) :
    Calls Tryd.prog 59 #[.slice (some ⟨b, 0, none⟩) 22 22, .string (bsS x)] w fun e w' => e = .returned (.int .i64 (opOf x)) ∧ w' = w := by
  have h1 := slices_Index_string b 0 22 22 (wordsL.map bsS) (bsS x) w (by decide) (by decide) (fun j hj => by
    have hj2 : j < wordsL.length := by simpa using hj
    rw [op_getD wordsL j hj2, Nat.zero_add, h.cell j]
    rw [List.getElem?_toArray, List.getElem?_map, List.getElem?_eq_getElem hj2, List.getD_eq_getElem?_getD, List.getElem?_eq_getElem hj2]
    rfl)
  have e1 : Lib.idxOfS ((wordsL.map bsS).take 22) (bsS x) = opOf x := by
    rw [show (wordsL.map bsS).take 22 = wordsL.map bsS by rw [List.take_of_length_le]; decide]
    unfold Lib.idxOfS opOf
    rw [idx_find]
    cases wordsL.findIdx? (· == x) with
    | none => rfl
    | some i => simp
  rw [e1] at h1
  exact h1
theorem one_none {p : Ps} {word rest : List UInt8} {no : Nat} (h : oneI word rest = none) : oneF p word rest no = none := by unfold oneF; rw [h]
theorem one_some {p : Ps} {word rest : List UInt8} {no : Nat} {x : Ci} {a : Bool} (h : oneI word rest = some (x, a)) : oneF p word rest no = some ⟨p.l ++ [x], p.lab, if a = true then p.ask ++ [(p.l.length, no, rest)] else p.ask⟩ := by unfold oneF; rw [h]

theorem aInfo : (Tryd.prog.info? 67).map (fun i => (i.zero, i.size, i.bytes)) = some (some (.agg #[.int .i64 0, .int .i64 0, .string ⟨#[]⟩]), 3, 32) := by kernel_rfl
theorem ownApartA {w : World} {b b' n n' s s' : Nat} {e e' : TypeId} {v v' : Value} {xs xs' : List Value} (h : w.ownsRow b e s v n xs) (h' : w.ownsRow b' e' s' v' n' xs') (hne : e ≠ e') : v.ownBlock = none ∨ v.ownBlock ≠ v'.ownBlock := by
  rcases h.2 with ⟨rfl, _⟩ | ⟨g, cap, cur, rfl, _, hh, _⟩
  · exact .inl rfl
  · right
    intro q
    have hb : v'.ownBlock = some g := q.symm
    rcases h'.2 with ⟨rfl, _⟩ | ⟨g', cap', cur', rfl, _, hh', _⟩
    · simp [Value.ownBlock] at hb
    · have e2 : g' = g := by simpa [Value.ownBlock] using hb
      subst e2
      rw [hh] at hh'
      injection hh' with hh'
      injection hh' with _ hh'
      exact hne hh'
theorem own_at {w w' : World} {base size n g : Nat} {e : TypeId} {v : Value} {xs : List Value} (h : w.ownsRow base e size v n xs) (hg : w.grownBy w' (some g)) (hne : ∀ k, v.ownBlock = some k → k ≠ g) : w'.ownsRow base e size v n xs :=
  h.kept hg (by
    cases e1 : v.ownBlock with
    | none => exact .inl rfl
    | some k => exact .inr (fun e2 => hne k e1 (by injection e2)))
theorem yieldsIf_loadD {P : Program} {ops : Array Oper} {S : World → Prop} {o : Oper} {a : Act} {v : Value} (hw : Region.wanted o (yielded ops a.tmps) = true) (ty : TypeId) (x : Operand) (ho : o.op = .load ty x) (ad : Addr) (u : Value) (hx : a.eval x = .pointer (some ad))
    (hL : ∀ w, S w → (loadVar ty ad).run P w = .ok u w) (hv : v = u := by rfl) : YieldsIf P ops S o v a := by
  subst hv
  exact .inl ⟨hw, fun w hS => by unfold execOp; simp only [ho, hx, Instr.loadAt, Instr.sureAddr, Sem.run_bind, Sem.run_pure, Result.andThen_ok, hL w hS]⟩
theorem adz (g j : Nat) : (⟨g, 0, none⟩ : Addr).add j = ⟨g, j, none⟩ := by unfold Addr.add; split <;> simp_all
theorem num_le (s : List UInt8) : (numF s).1 ≤ 9999 := by
  unfold numF
  split
  · rename_i hk
    unfold numOk at hk
    simp only [Bool.and_eq_true, decide_eq_true_eq] at hk
    obtain ⟨⟨⟨k1, k2⟩, _⟩, k3⟩ := hk
    show decF s ≤ 9999
    rw [List.all_eq_true] at k3
    have dg : ∀ c ∈ s, c.toNat - 48 ≤ 9 := fun c hc => by
      have := k3 c hc; unfold digB at this; simp at this; omega
    match s, k1, k2, dg with
    | [a], _, _, dg => have := dg a (by simp); simp [decF]; omega
    | [a, b], _, _, dg => have := dg a (by simp); have := dg b (by simp); simp [decF]; omega
    | [a, b, c], _, _, dg => have := dg a (by simp); have := dg b (by simp); have := dg c (by simp); simp [decF]; omega
    | [a, b, c, d], _, _, dg => have := dg a (by simp); have := dg b (by simp); have := dg c (by simp); have := dg d (by simp); simp [decF]; omega
  · exact Nat.zero_le _
theorem op_m1 {word rest : List UInt8} (h : opOf word = -1) : oneI word rest = none := by
  unfold opOf at h
  unfold oneI
  cases e : wordsL.findIdx? (· == word) with
  | none => rfl
  | some i => rw [e] at h; simp at h
theorem op_k {word : List UInt8} {k : Nat} (h : opOf word = (k : Int)) : wordsL.findIdx? (· == word) = some k := by
  unfold opOf at h
  cases e : wordsL.findIdx? (· == word) with
  | none => rw [e] at h; simp at h
  | some i => rw [e] at h; simp at h; congr 1; omega
theorem op_range (word : List UInt8) : opOf word = -1 ∨ ∃ k : Nat, k ≤ 21 ∧ opOf word = (k : Int) := by
  unfold opOf
  cases e : wordsL.findIdx? (· == word) with
  | none => exact .inl rfl
  | some i => exact .inr ⟨i, find_lt e, rfl⟩
theorem oneI_num {word rest : List UInt8} {k : Nat} (h : opOf word = (k : Int)) (hk : k = 1 ∨ k = 21) : oneI word rest = (if (numF rest).2 = true ∧ (k = 1 ∨ rightI ⟨21, ((numF rest).1 : Nat), []⟩ 0 = true) then some (⟨(k : Nat), ((numF rest).1 : Nat), []⟩, false) else none) := by
  unfold oneI
  rw [op_k h]
  simp only [hk, if_true]
theorem oneI_text {word rest : List UInt8} (h : opOf word = ((2 : Nat) : Int)) : oneI word rest = (if quotF rest = true then some (⟨2, 0, (rest.drop 1).dropLast⟩, false) else none) := by
  unfold oneI
  rw [op_k h]
  rfl
theorem oneI_jump {word rest : List UInt8} {k : Nat} (h : opOf word = (k : Int)) (hk : k = 11 ∨ k = 12) : oneI word rest = (if labF rest = true then some (⟨(k : Nat), 0, []⟩, true) else none) := by
  unfold oneI
  rw [op_k h]
  rcases hk with rfl | rfl <;> rfl
theorem oneI_else {word rest : List UInt8} {k : Nat} (h : opOf word = (k : Int)) (h1 : k ≠ 1) (h2 : k ≠ 2) (h3 : k ≠ 11) (h4 : k ≠ 12) (h5 : k ≠ 21) : oneI word rest = (if rest = [] then some (⟨(k : Nat), 0, []⟩, false) else none) := by
  unfold oneI
  rw [op_k h]
  simp only [h1, h2, h3, h4, h5, or_self, if_false]

/-- Where the kinds meet: the instruction, and whether it is one. -/
def OnR (w : World) (base pb mb tb : Nat) (p : Ps) (word rest : List UInt8) (no : Nat) (v : Value) (wx : World) : Prop :=
  ∃ (ok : Bool) (x : Ci) (K : List (Nat × Nat × List UInt8)), v = .bool ok ∧ Blk wx tb 41 #[.int .i64 x.op, .int .i64 x.n, .string (bsS x.s)] ∧ Pv wx base pb mb ⟨p.l, p.lab, K⟩ ∧
    (ok = true → ∃ a, oneI word rest = some (x, a) ∧ K = if a = true then p.ask ++ [(p.l.length, no, rest)] else p.ask) ∧ (ok = false → oneI word rest = none) ∧ Below base w wx ∧ Kps w wx
set_option maxRecDepth 100000 in
set_option maxHeartbeats 8000000 in
theorem one_any (base pb mb no : Nat) (p : Ps) (word rest : List UInt8) (w : World) (h : Pv w base pb mb p) (hrs : rest.length ≤ 1000000) (hl : p.l.length ≤ 1000) (hlab : p.ask.length ≤ 1000000) (hbw : base ≤ w.heap.size) (hE : Eg w base) :
    Calls Tryd.prog 38 #[.pointer (some ⟨pb, 0, none⟩), .string (bsS word), .string (bsS rest), .int .i64 no] w (OnPost w base pb mb p word rest no) := by
  have HF := Sl.mk (strings_Fields (bsS wordsS) w (by decide) ascii_words hE.sp.tab)
  rw [show (bsS wordsS).data.toList = wordsS from rfl, fields_words, show wordsL.length = 22 from rfl] at HF
  have HB := Sl.mk (below_al (Below.refl w.heap.size w) (.cells (wordsL.map fun l => Value.string ⟨l.toArray⟩).toArray 9))
  have HB1 := Sl.mk (Blk.new w 9 (wordsL.map fun l => Value.string ⟨l.toArray⟩).toArray)
  have HX := Sl.mk (index_words w.heap.size word _ HB1.out)
  have hem := emp_list rest
  obtain ⟨re, hre⟩ : ∃ re, rest.isEmpty = re := ⟨_, rfl⟩
  rw [hre] at hem
  obtain ⟨w1, hw1⟩ : ∃ w1, w.alloc (.cells (wordsL.map fun l => Value.string ⟨l.toArray⟩).toArray 9) = w1 := ⟨_, rfl⟩
  rw [hw1] at HB HB1 HX
  have HW1 := Sl.mk hw1
  have HRE := Sl.mk hre
  have HH := Sl.mk (h.be HB.out)
  have hE0 := Sl.mk hE
  clear hw1 hre h hE
  obtain ⟨op, hop⟩ : ∃ op, opOf word = op := ⟨_, rfl⟩
  rw [hop] at HX
  have HOP := Sl.mk hop
  clear hop
  go_enter Tryd.func38, Tryd.ntmps38
  go_upto_block 0 with (first | (go_at_call 22; refine HF.out.mono ?_; rintro e w2 ⟨rfl, hw2⟩; rw [HW1.out] at hw2; subst hw2) | (go_at_call 59; refine HX.out.mono ?_; rintro e w3 ⟨rfl, rfl⟩))
  have hal := below_al (Below.refl w3.heap.size w3) (.cells #[.int .i64 op, .int .i64 0, .string { data := #[] }] 41)
  have hB4 := Blk.new w3 41 #[.int .i64 op, .int .i64 0, .string { data := #[] }]
  obtain ⟨w4, hw4⟩ : ∃ w4, w3.alloc (.cells #[.int .i64 op, .int .i64 0, .string { data := #[] }] 41) = w4 := ⟨_, rfl⟩
  rw [hw4] at hal hB4 ⊢
  have HEB := Sl.mk (show ∀ wx, Below w3.heap.size w3 wx → Pv wx base pb mb p ∧ Below base w wx ∧ Kps w wx from fun wx hx => ⟨HH.out.be hx, (HB.out.mono hbw).trans (hx.mono (Nat.le_trans hbw HB.out.size)), (Kps.be HB.out).trans (Kps.be hx)⟩)
  obtain ⟨tb, htb⟩ : ∃ tb, w3.heap.size = tb := ⟨_, rfl⟩
  rw [htb] at hal hB4 HEB ⊢
  have HAL := Sl.mk hal
  have HB4 := Sl.mk hB4
  have HTB := Sl.mk htb
  have HBT := Sl.mk (show base ≤ tb by rw [← htb]; exact Nat.le_trans hbw HB.out.size)
  clear hal hB4 htb hw4 HF HX HB1 HW1
  go_cut [11] (fun v11 wx => OnR w base pb mb tb p word rest no v11 wx)
  case first =>
    have q0 := HB4.out.cell 0
    have q1 := HB4.out.cell 1
    have q2 := HB4.out.cell 2
    have f1 := HB4.out.frozen 1
    have f2 := HB4.out.frozen 2
    rcases op_range word with hm | ⟨k, hk, hm⟩
    · rw [HOP.out] at hm
      subst hm
      have HN := Sl.mk (one_none (p := p) (no := no) (op_m1 (rest := rest) HOP.out))
      have HD := Sl.mk (HEB.out _ HAL.out)
      go_wp2_with fail
      go_ret
      exact ⟨by rw [HN.out]; rfl, fun q hq => (by rw [HN.out] at hq; cases hq), HD.out.2⟩
    · rw [HOP.out] at hm
      subst hm
      by_cases h1 : k = 1 ∨ k = 21
      · have HI := Sl.mk (oneI_num (rest := rest) HOP.out h1)
        have HNU := Sl.mk (fun W => number_any rest W hrs)
        obtain ⟨n, ok, hno2⟩ : ∃ n ok, numF rest = (n, ok) := ⟨_, _, rfl⟩
        rw [hno2] at HNU HI
        have hn9 : n ≤ 9999 := by have := num_le rest; rw [hno2] at this; exact this
        have HSW := Sl.mk ((Below.refl tb w4).setCell (p := ⟨tb, 1, none⟩) (Nat.le_refl _) (.int .i64 n))
        have HBS := Sl.mk (show Blk (w4.setCell ⟨tb, 1, none⟩ (.int .i64 n)) tb 41 #[.int .i64 k, .int .i64 n, .string { data := #[] }] from HB4.out.set_ 1 (.int .i64 n))
        clear hno2
        cases ok with
        | false =>
          have HN := Sl.mk (show oneI word rest = none by rw [HI.out]; simp)
          have HD := Sl.mk (HEB.out _ (HAL.out.trans HSW.out))
          rcases h1 with rfl | rfl
          all_goals
            go_wp2_with fail
            refine (HNU.out _).mono ?_
            rintro e w5 ⟨rfl, rfl⟩
            go_wp2_with fail
            go_meet
            exact ⟨false, ⟨_, n, []⟩, p.ask, rfl, HBS.out, HD.out.1, fun h => (by cases h), fun _ => HN.out, HD.out.2⟩
        | true =>
          rcases h1 with rfl | rfl
          · have HN := Sl.mk (show oneI word rest = some (⟨1, (n : Nat), []⟩, false) by rw [HI.out]; simp)
            have HD := Sl.mk (HEB.out _ (HAL.out.trans HSW.out))
            go_wp2_with fail
            refine (HNU.out _).mono ?_
            rintro e w5 ⟨rfl, rfl⟩
            go_wp2_with fail
            go_meet
            exact ⟨true, ⟨1, n, []⟩, p.ask, rfl, HBS.out, HD.out.1, fun _ => ⟨false, HN.out, rfl⟩, fun h => (by cases h), HD.out.2⟩
          · have HSP := Sl.mk (show Spw (w4.setCell ⟨tb, 1, none⟩ (.int .i64 n)) (w4.setCell ⟨tb, 1, none⟩ (.int .i64 n)).heap.size by
              have hx := (HEB.out _ (HAL.out.trans HSW.out)).2.1
              exact ((hE0.out.sp.be hx)).mono (Nat.le_trans HBT.out (Nat.le_of_lt HBS.out.lt)))
            have HRI := Sl.mk (right_i 21 n 0 [] _ (by simp) HSP.out)
            unfold RPost at HRI
            obtain ⟨rt, hrt⟩ : ∃ rt, rightI ⟨21, (n : Nat), []⟩ 0 = rt := ⟨_, rfl⟩
            rw [hrt] at HRI
            have HRT := Sl.mk hrt
            clear hrt
            have HLV : Sl (∀ W, Blk W tb 41 #[.int .i64 (21 : Nat), .int .i64 n, .string { data := #[] }] → (loadVar 41 ⟨tb, 0, none⟩).run Tryd.prog W = .ok (.agg #[.int .i64 21, .int .i64 n, .string { data := #[] }]) W) := Sl.mk (fun W hW => run_loadVar_at W ⟨tb, 0, none⟩ 41 [.int .i64 21, .int .i64 n, .string { data := #[] }] _ (fun j v hv => by
              rw [adz tb j, hW.cell j]; simpa using hv) Tryd.underlying41 rfl iSize)
            have hlv := HLV.out _ HBS.out
            go_wp2_with fail
            refine (HNU.out _).mono ?_
            rintro e w5 ⟨rfl, rfl⟩
            go_wp2_with fail
            refine HRI.out.mono ?_
            rintro e w6 ⟨rfl, hb6⟩
            have HB6 := Sl.mk (HBS.out.be hb6)
            have HD := Sl.mk (HEB.out _ ((HAL.out.trans HSW.out).trans (hb6.mono (Nat.le_of_lt HBS.out.lt))))
            clear hb6
            go_wp2_with fail
            go_meet
            refine ⟨rt, ⟨21, n, []⟩, p.ask, rfl, HB6.out, HD.out.1, fun h => ⟨false, ?_, rfl⟩, fun h => ?_, HD.out.2⟩
            · rw [HI.out, HRT.out, h]; simp
            · rw [HI.out, HRT.out, h]; simp
      · by_cases h2 : k = 2
        · subst h2
          have HI := Sl.mk (oneI_text (rest := rest) HOP.out)
          obtain ⟨bp, hbp⟩ : ∃ bp, [34].isPrefixOf rest = bp := ⟨_, rfl⟩
          obtain ⟨s1, hs1⟩ : ∃ s1, (if bp = true then rest.drop 1 else rest) = s1 := ⟨_, rfl⟩
          obtain ⟨bs, hbs⟩ : ∃ bs, [34].isSuffixOf s1 = bs := ⟨_, rfl⟩
          obtain ⟨s2, hs2⟩ : ∃ s2, (if bs = true then s1.dropLast else s1) = s2 := ⟨_, rfl⟩
          have hl1 : s1.length ≤ rest.length := by rw [← hs1]; split <;> simp
          have hl2 : s2.length ≤ s1.length := by rw [← hs2]; split <;> simp
          have HCP := Sl.mk (fun W => cutp_any rest 34 W)
          rw [hbp, hs1] at HCP
          have HCS := Sl.mk (fun W => cuts_any s1 34 W (by omega))
          rw [hbs, hs2] at HCS
          have HTX := Sl.mk (fun W => text_any s2 W (by omega))
          obtain ⟨tx, htx⟩ : ∃ tx, txS s2 = tx := ⟨_, rfl⟩
          rw [htx] at HTX
          have HQ := Sl.mk (show bp = true → bs = true → quotF rest = tx ∧ (rest.drop 1).dropLast = s2 from fun e1 e2 => by
            rw [if_pos e1] at hs1
            rw [if_pos e2] at hs2
            unfold quotF
            rw [hbp, e1, hs1, hbs, e2, hs2, htx]
            exact ⟨rfl, rfl⟩)
          have HQF := Sl.mk (show bp = false ∨ bs = false → quotF rest = false from fun e => by
            unfold quotF
            rcases e with e | e
            · rw [hbp, e]; rfl
            · cases bp with
              | false => rw [hbp]; rfl
              | true =>
                rw [if_pos rfl] at hs1
                rw [hs1, hbs, e]; simp)
          have HSW := Sl.mk ((Below.refl tb w4).setCell (p := ⟨tb, 2, none⟩) (Nat.le_refl _) (.string (bsS s2)))
          have HBS := Sl.mk (show Blk (w4.setCell ⟨tb, 2, none⟩ (.string (bsS s2))) tb 41 #[.int .i64 (2 : Nat), .int .i64 0, .string (bsS s2)] from HB4.out.set_ 2 (.string (bsS s2)))
          have HD := Sl.mk (HEB.out _ (HAL.out.trans HSW.out))
          clear hbp hs1 hbs hs2 htx h1 hl1 hl2
          cases bp with
          | false =>
            have HN := Sl.mk (show oneI word rest = none by rw [HI.out, HQF.out (.inl rfl)]; rfl)
            go_wp2_with fail
            refine (HCP.out _).mono ?_
            rintro e w5 ⟨rfl, rfl⟩
            go_wp2_with fail
            refine (HCS.out _).mono ?_
            rintro e w6 ⟨rfl, rfl⟩
            go_wp2_with fail
            go_meet
            exact ⟨false, ⟨2, 0, s2⟩, p.ask, rfl, HBS.out, HD.out.1, fun h => (by cases h), fun _ => HN.out, HD.out.2⟩
          | true =>
            cases bs with
            | false =>
              have HN := Sl.mk (show oneI word rest = none by rw [HI.out, HQF.out (.inr rfl)]; rfl)
              go_wp2_with fail
              refine (HCP.out _).mono ?_
              rintro e w5 ⟨rfl, rfl⟩
              go_wp2_with fail
              refine (HCS.out _).mono ?_
              rintro e w6 ⟨rfl, rfl⟩
              go_wp2_with fail
              go_meet
              exact ⟨false, ⟨2, 0, s2⟩, p.ask, rfl, HBS.out, HD.out.1, fun h => (by cases h), fun _ => HN.out, HD.out.2⟩
            | true =>
              go_wp2_with fail
              refine (HCP.out _).mono ?_
              rintro e w5 ⟨rfl, rfl⟩
              go_wp2_with fail
              refine (HCS.out _).mono ?_
              rintro e w6 ⟨rfl, rfl⟩
              go_wp2_with fail
              refine (HTX.out _).mono ?_
              rintro e w7 ⟨rfl, rfl⟩
              go_wp2_with fail
              go_meet
              refine ⟨tx, ⟨2, 0, s2⟩, p.ask, rfl, HBS.out, HD.out.1, fun h => ⟨false, ?_, rfl⟩, fun h => ?_, HD.out.2⟩
              · rw [HI.out, (HQ.out (by trivial) (by trivial)).1, h, (HQ.out (by trivial) (by trivial)).2]; rfl
              · rw [HI.out, (HQ.out (by trivial) (by trivial)).1, h]; rfl
        · by_cases h3 : k = 11 ∨ k = 12
          · have HI := Sl.mk (oneI_jump (rest := rest) HOP.out h3)
            have HLA := Sl.mk (fun W => label_any rest W hrs)
            obtain ⟨lb, hlb⟩ : ∃ lb, labF rest = lb := ⟨_, rfl⟩
            rw [hlb] at HLA HI
            clear hlb h1 h2
            have HP4 := (HEB.out _ HAL.out).1
            have hal4 : Below w3.heap.size w3 w4 := HAL.out.mono (Nat.le_of_eq HTB.out)
            obtain ⟨A, c, A2, c2, hBp, hO, hO2⟩ := HH.out.blk
            have HLT := Sl.mk (show ∀ k, (Value.slice A p.l.length c).ownBlock = some k → k ≠ tb from fun k hk e => by have := (hO.lt k hk).2; have := HTB.out; omega)
            replace hBp := hBp.be hal4
            replace hO := own_below hO hal4
            replace hO2 := own_below hO2 hal4
            have HMP := Sl.mk HP4.map
            have HPB := Sl.mk HP4.bb
            obtain ⟨L, hL⟩ : ∃ L, p.l.length = L := ⟨_, rfl⟩
            obtain ⟨N, hN⟩ : ∃ N, p.ask.length = N := ⟨_, rfl⟩
            rw [hL] at hBp hO hl HLT
            rw [hN] at hBp hO2 hlab
            have HL := Sl.mk hL
            have HNN := Sl.mk hN
            have HPT := Sl.mk (show pb ≠ tb from fun e => by
              have h5 := hBp
              have h6 := HB4.out
              rw [e] at h5
              unfold Blk at h5 h6
              rw [h5] at h6
              injection h6 with h6
              injection h6 with _ h6
              exact absurd h6 (by decide))
            have HBP := Sl.mk hBp
            have HO := Sl.mk hO
            have HO2 := Sl.mk hO2
            clear hL hN hBp hO hO2 HP4 hal4
            obtain ⟨j1, hj1, hy0, hy1, hy2⟩ := info_parts aInfo
            have step : ∀ kk : Int, kk = 11 ∨ kk = 12 → True := fun _ _ => trivial
            clear step
            rcases h3 with rfl | rfl
            all_goals
              go_wp2_with fail
              obtain ⟨wd, hwd⟩ : ∃ wd, w4.drew = wd := ⟨_, rfl⟩
              have HBd := Sl.mk (show Blk wd pb 63 #[.slice A L c, .map (some mb), .slice A2 N c2] by rw [← hwd]; exact HBP.out.drew)
              have HTd := Sl.mk (show Blk wd tb 41 _ by rw [← hwd]; exact HB4.out.drew)
              have HOd := Sl.mk (show wd.ownsRow base 41 3 (.slice A L c) L (isC p.l) by rw [← hwd]; exact HO.out)
              have HO2d := Sl.mk (show wd.ownsRow base 67 3 (.slice A2 N c2) N (asksC p.ask) by rw [← hwd]; exact HO2.out)
              have HMd := Sl.mk (show Mp wd mb p.lab by rw [← hwd]; exact HMP.out)
              have HEd := Sl.mk (show Below base w wd ∧ Kps w wd by rw [← hwd]; exact ⟨(HEB.out _ HAL.out).2.1.drew, (HEB.out _ HAL.out).2.2⟩)
              have HSF : Sl (∀ W, Blk W pb 63 #[.slice A L c, .map (some mb), .slice A2 N c2] → W.cell? ⟨pb, 0, none⟩ = some (.slice A L c) ∧ W.cell? ⟨pb, 2, none⟩ = some (.slice A2 N c2)) := Sl.mk (fun W hW => ⟨hW.cell 0, hW.cell 2⟩)
              have hS0 := Below.refl wd.heap.size wd
              refine wp_region_X (fun W => Blk W pb 63 #[.slice A L c, .map (some mb), .slice A2 N c2]) [15, 16, 17] (by kernel_rfl) (by rw [hwd]; exact HBd.out) (fun hS => ?_)
              rw [hwd] at hS ⊢
              clear hwd q0 f1 f2 q1 q2
              refine wpAnyX_S (i := 0) (v := ?_) rfl (by kernel_rfl) (by kernel_rfl) (by kernel_rfl) (by kernel_rfl) (fun _ _ _ h => h) (Or.inl ⟨by rfl, ?_⟩) hS ?_
              rotate_left 1
              · (intro w' hw'; (first | rw [hw'] | (have hw2 := HSF.out w' hw'; (try obtain ⟨hw2, hw3⟩ := hw2)) | skip); go_simp; (try with_reducible rfl))
              simp only [Act.put, List.setIfInBounds_toArray, List.set_cons_zero, List.set_cons_succ]
              refine wpAnyX_S (i := 1) (v := ?_) rfl (by kernel_rfl) (by kernel_rfl) (by kernel_rfl) (by kernel_rfl) (fun _ _ _ h => h) (Or.inl ⟨by rfl, ?_⟩) hS ?_
              rotate_left 1
              · (intro w' hw'; (first | rw [hw'] | (have hw2 := HSF.out w' hw'; (try obtain ⟨hw2, hw3⟩ := hw2)) | skip); go_simp; (try with_reducible rfl))
              simp only [Act.put, List.setIfInBounds_toArray, List.set_cons_zero, List.set_cons_succ]
              refine wpAnyX_S (i := 2) (v := ?_) rfl (by kernel_rfl) (by kernel_rfl) (by kernel_rfl) (by kernel_rfl) (fun _ _ _ h => h) (Or.inl ⟨by rfl, ?_⟩) hS ?_
              rotate_left 1
              · (intro w' hw'; (first | rw [hw'] | (have hw2 := HSF.out w' hw'; (try obtain ⟨hw2, hw3⟩ := hw2)) | skip); go_simp; (try with_reducible rfl))
              simp only [Act.put, List.setIfInBounds_toArray, List.set_cons_zero, List.set_cons_succ]
              refine wpAnyX_S (i := 3) (v := ?_) rfl (by kernel_rfl) (by kernel_rfl) (by kernel_rfl) (by kernel_rfl) (fun _ _ _ h => h) (Or.inl ⟨by rfl, ?_⟩) hS ?_
              rotate_left 1
              · (intro w' hw'; (first | rw [hw'] | (have hw2 := HSF.out w' hw'; (try obtain ⟨hw2, hw3⟩ := hw2)) | skip); go_simp; (try with_reducible rfl))
              simp only [Act.put, List.setIfInBounds_toArray, List.set_cons_zero, List.set_cons_succ]
              refine wpAnyX_S (i := 4) (v := ?_) rfl (by kernel_rfl) (by kernel_rfl) (by kernel_rfl) (by kernel_rfl) (fun _ _ _ h => h) (Or.inl ⟨by rfl, ?_⟩) hS ?_
              rotate_left 1
              · (intro w' hw'; (first | rw [hw'] | (have hw2 := HSF.out w' hw'; (try obtain ⟨hw2, hw3⟩ := hw2)) | skip); go_simp; (try with_reducible rfl))
              simp only [Act.put, List.setIfInBounds_toArray, List.set_cons_zero, List.set_cons_succ]
              refine wpAnyX_S (i := 5) (v := ?_) rfl (by kernel_rfl) (by kernel_rfl) (by kernel_rfl) (by kernel_rfl) (fun _ _ _ h => h) (Or.inl ⟨by rfl, ?_⟩) hS ?_
              rotate_left 1
              · (intro w' hw'; (first | rw [hw'] | (have hw2 := HSF.out w' hw'; (try obtain ⟨hw2, hw3⟩ := hw2)) | skip); go_simp; (try with_reducible rfl))
              simp only [Act.put, List.setIfInBounds_toArray, List.set_cons_zero, List.set_cons_succ]
              refine wpAnyX_S (i := 6) (v := ?_) rfl (by kernel_rfl) (by kernel_rfl) (by kernel_rfl) (by kernel_rfl) (fun _ _ _ h => h) (Or.inl ⟨by rfl, ?_⟩) hS ?_
              rotate_left 1
              · (intro w' hw'; (first | rw [hw'] | (have hw2 := HSF.out w' hw'; (try obtain ⟨hw2, hw3⟩ := hw2)) | skip); go_simp; (try with_reducible rfl))
              simp only [Act.put, List.setIfInBounds_toArray, List.set_cons_zero, List.set_cons_succ]
              refine wpAnyX_S (i := 7) (v := ?_) rfl (by kernel_rfl) (by kernel_rfl) (by kernel_rfl) (by kernel_rfl) (fun _ _ _ h => h) (Or.inl ⟨by rfl, ?_⟩) hS ?_
              rotate_left 1
              · (intro w' hw'; (first | rw [hw'] | (have hw2 := HSF.out w' hw'; (try obtain ⟨hw2, hw3⟩ := hw2)) | skip); go_simp; (try with_reducible rfl))
              simp only [Act.put, List.setIfInBounds_toArray, List.set_cons_zero, List.set_cons_succ]
              refine wpAnyX_S (i := 8) (v := ?_) rfl (by kernel_rfl) (by kernel_rfl) (by kernel_rfl) (by kernel_rfl) (fun _ _ _ h => h) (Or.inl ⟨by rfl, ?_⟩) hS ?_
              rotate_left 1
              · (intro w' hw'; (first | rw [hw'] | (have hw2 := HSF.out w' hw'; (try obtain ⟨hw2, hw3⟩ := hw2)) | skip); go_simp; (try with_reducible rfl))
              simp only [Act.put, List.setIfInBounds_toArray, List.set_cons_zero, List.set_cons_succ]
              refine wpAnyX_S (i := 9) (v := ?_) rfl (by kernel_rfl) (by kernel_rfl) (by kernel_rfl) (by kernel_rfl) (fun _ _ _ h => h) (Or.inl ⟨by rfl, ?_⟩) hS ?_
              rotate_left 1
              · (intro w' hw'; (first | rw [hw'] | (have hw2 := HSF.out w' hw'; (try obtain ⟨hw2, hw3⟩ := hw2)) | skip); go_simp; (try with_reducible rfl))
              simp only [Act.put, List.setIfInBounds_toArray, List.set_cons_zero, List.set_cons_succ]
              refine wpAnyX_S (i := 10) (v := ?_) rfl (by kernel_rfl) (by kernel_rfl) (by kernel_rfl) (by kernel_rfl) (fun _ _ _ h => h) (Or.inl ⟨by rfl, ?_⟩) hS ?_
              rotate_left 1
              · (intro w' hw'; (first | rw [hw'] | (have hw2 := HSF.out w' hw'; (try obtain ⟨hw2, hw3⟩ := hw2)) | skip); go_simp; (try with_reducible rfl))
              simp only [Act.put, List.setIfInBounds_toArray, List.set_cons_zero, List.set_cons_succ]
              refine wpAnyX_S (i := 11) (v := ?_) rfl (by kernel_rfl) (by kernel_rfl) (by kernel_rfl) (by kernel_rfl) (fun _ _ _ h => h) (Or.inl ⟨by rfl, ?_⟩) hS ?_
              rotate_left 1
              · (intro w' hw'; (first | rw [hw'] | (have hw2 := HSF.out w' hw'; (try obtain ⟨hw2, hw3⟩ := hw2)) | skip); go_simp; (try with_reducible rfl))
              simp only [Act.put, List.setIfInBounds_toArray, List.set_cons_zero, List.set_cons_succ]
              refine wpAnyX_S (i := 12) (v := ?_) rfl (by kernel_rfl) (by kernel_rfl) (by kernel_rfl) (by kernel_rfl) (fun _ _ _ h => h) (Or.inl ⟨by rfl, ?_⟩) hS ?_
              rotate_left 1
              · (intro w' hw'; (first | rw [hw'] | (have hw2 := HSF.out w' hw'; (try obtain ⟨hw2, hw3⟩ := hw2)) | skip); go_simp; (try with_reducible rfl))
              simp only [Act.put, List.setIfInBounds_toArray, List.set_cons_zero, List.set_cons_succ]
              refine wpAnyX_oneL (k := 13) rfl (by kernel_rfl) rfl ?_
              refine wp_of_run (v := .slice (some ⟨wd.heap.size, 0, none⟩) 1 1) (w' := wd.alloc (.cells #[.int .i64 L, .int .i64 no, .string (bsS rest)] 67)) (by go_simp) ⟨fun _ => hS.alloc _, ?_⟩
              simp only [Act.put, List.setIfInBounds_toArray, List.set_cons_zero, List.set_cons_succ]
              refine wpAnyX_oneL (k := 14) rfl (by kernel_rfl) rfl ?_
              have hbd : base ≤ (wd.alloc (.cells #[.int .i64 L, .int .i64 no, .string (bsS rest)] 67)).heap.size := Nat.le_trans (Nat.le_trans hbw HEd.out.1.size) (below_al hS0 (.cells #[.int .i64 L, .int .i64 no, .string (bsS rest)] 67)).size
              refine wp_append_any _ (.tmp 72) (.tmp 81) 61 rfl base 67 j1 (.agg #[.int .i64 0, .int .i64 0, .string ⟨#[]⟩]) 3 32 Tryd.underlying61 hj1 hy0 hy1 hy2 rfl (by decide) _ _ _ rfl (HO2d.out.alloc _) (wd.heap.size + 1) _ 1 1 [.int .i64 L, .int .i64 no, .string (bsS rest)] rfl (reads_row3 wd _ _ _ _ (Nat.lt_succ_self _)) (by intro u hu; simp at hu; rcases hu with rfl | rfl | rfl <;> rfl) (by unfold maxLen; omega) (by omega) hbd ?_
              intro v9 w9 ho9 hg9 _
              have hal9 := below_al hS0 (.cells #[.int .i64 L, .int .i64 no, .string (bsS rest)] 67)
              have hB9 : Blk w9 pb 63 #[.slice A L c, .map (some mb), .slice A2 N c2] := (HBd.out.be hal9).grown hg9 (fun e => own_blk_ne HO2d.out HBd.out (by decide) e.symm)
              have hT9 : Blk w9 tb 41 _ := (HTd.out.be hal9).grown hg9 (fun e => own_blk_ne HO2d.out HTd.out (by decide) e.symm)
              have hO9 : w9.ownsRow base 41 3 (.slice A L c) L (isC p.l) := (own_below HOd.out hal9).kept hg9 (ownApartA HOd.out HO2d.out (by decide))
              have hM9 : Mp w9 mb p.lab := (HMd.out.kept (World.grownBy_alloc wd _ none) (by simp)).kept hg9 (fun e => own_mp_ne HO2d.out HMd.out e.symm)
              have hE9 : Below base w w9 := (HEd.out.1.trans (hal9.mono (Nat.le_trans hbw HEd.out.1.size))).grown hg9 hbd (fun q hq => ownGe HO2d.out hq)
              have hK9 : Kps w w9 := (HEd.out.2.trans (Kps.be hal9)).trans (Kps.grown hg9 fun g cs hg e => own_blk_ne (HO2d.out.alloc _) hg (by decide) e.symm)
              obtain ⟨A9, c9, hv9⟩ := ownForm ho9
              subst hv9
              have hw1 := only_setCell (only_refl w9 (some pb)) 2 (.slice A9 (N + 1) c9)
              have hBw : Blk (w9.setCell ⟨pb, 2, none⟩ (.slice A9 (N + 1) c9)) pb 63 #[.slice A L c, .map (some mb), .slice A9 (N + 1) c9] := hB9.set_ 2 (.slice A9 (N + 1) c9)
              have hTw : Blk (w9.setCell ⟨pb, 2, none⟩ (.slice A9 (N + 1) c9)) tb 41 _ := blk_only hT9 hw1 (fun e => HPT.out e.symm)
              have hMw := hM9.kept hw1 (fun e => blk_mp_ne hB9 hM9 (by injection e with e; exact e.symm))
              have hOw := hO9.kept hw1 (.inr (own_blk_ne hO9 hB9 (by decide)))
              have hO2w := ho9.kept hw1 (.inr (own_blk_ne ho9 hB9 (by decide)))
              have hPw : ∀ W, (w9.setCell ⟨pb, 2, none⟩ (.slice A9 (N + 1) c9)).grownBy W (some tb) → Pv W base pb mb ⟨p.l, p.lab, p.ask ++ [(p.l.length, no, rest)]⟩ := fun W hW => by
                refine ⟨⟨A, c, A9, c9, ?_, ?_, ?_⟩, hMw.kept hW (fun e => blk_mp_ne hTw hMw (by injection e with e; exact e.symm)), HPB.out⟩
                · show Blk _ _ _ #[.slice A p.l.length c, .map (some mb), .slice A9 (p.ask ++ [(p.l.length, no, rest)]).length c9]
                  rw [HL.out, List.length_append, HNN.out]; exact blk_only hBw hW HPT.out
                · show World.ownsRow _ _ _ _ (.slice A p.l.length c) _ _
                  rw [HL.out]; exact own_at hOw hW HLT.out
                · show World.ownsRow _ _ _ _ (.slice A9 (p.ask ++ [(p.l.length, no, rest)]).length c9) (p.ask ++ [(p.l.length, no, rest)]).length _
                  rw [List.length_append, HNN.out, asksC_app, asksC_sing]
                  have e8 : askC (p.l.length, no, rest) = [.int .i64 L, .int .i64 no, .string (bsS rest)] := by unfold askC; rw [HL.out]
                  rw [e8]; exact hO2w.kept hW (.inr (own_blk_ne hO2w hTw (by decide)))
              have HEw := Sl.mk (show Below base w (w9.setCell ⟨pb, 2, none⟩ (.slice A9 (N + 1) c9)) ∧ Kps w (w9.setCell ⟨pb, 2, none⟩ (.slice A9 (N + 1) c9)) from ⟨hE9.setCell (p := ⟨pb, 2, none⟩) HPB.out.1 _, hK9.trans (Kps.grown hw1 fun g cs hg e => by
                injection e with e
                subst e
                have h6 := hB9
                unfold Blk at h6 hg
                rw [h6] at hg
                injection hg with hg
                injection hg with _ hg
                exact absurd hg (by decide))⟩)
              have HTw := Sl.mk hTw
              have HPw := Sl.mk hPw
              have HB9 := Sl.mk hB9
              have HALx := Sl.mk hal9
              have HG9 := Sl.mk hg9
              refine ⟨fun _ => HB9.out, ?_⟩
              simp only [Act.put, List.setIfInBounds_toArray, List.set_cons_zero, List.set_cons_succ]
              clear hbd hal9 hT9 hO9 hM9 hE9 hK9 hw1 hBw hTw hPw hMw hOw hO2w hB9 hg9 ho9 hS HSF hS0
              have d2 := HB9.out.cell 2
              have f9 := HB9.out.frozen 2
              refine wpAnyX_tailF [15, 16, 17] (by kernel_rfl) (by rfl) (by rfl) (by rfl) ?_
              simp only [List.filterMap_cons, List.filterMap_nil, List.getElem?_cons_succ, List.getElem?_cons_zero]
              go_wp2_with fail
              refine NoPanic.normal ?_
              obtain ⟨wf, hwf⟩ : ∃ wf, w9.setCell ⟨pb, 2, none⟩ (.slice A9 (N + 1) c9) = wf := ⟨_, rfl⟩
              rw [hwf] at HTw HPw HEw ⊢
              clear hwf d2 f9 HB9 HG9 HALx
              have k2 := HTw.out.cell 2
              have f2 := HTw.out.frozen 2
              have hw2 := only_setCell (only_refl wf (some tb)) 2 (.string { data := #[] })
              have HBS := Sl.mk (HTw.out.set_ 2 (.string { data := #[] }))
              have HPS := Sl.mk (HPw.out _ hw2)
              have HES := Sl.mk (show Below base w (wf.setCell ⟨tb, 2, none⟩ (.string { data := #[] })) ∧ Kps w (wf.setCell ⟨tb, 2, none⟩ (.string { data := #[] })) from ⟨HEw.out.1.setCell (p := ⟨tb, 2, none⟩) HBT.out _, HEw.out.2.trans (Kps.grown hw2 fun g cs hg e => by
                injection e with e
                subst e
                have h6 := HTw.out
                unfold Blk at h6 hg
                rw [h6] at hg
                injection hg with hg
                injection hg with _ hg
                exact absurd hg (by decide))⟩)
              clear hw2
              go_wp2_with fail
              refine (HLA.out _).mono ?_
              rintro e w12 ⟨rfl, hw12⟩
              subst hw12
              go_wp2_with fail
              go_meet
              refine ⟨lb, ⟨_, 0, []⟩, _, rfl, HBS.out, HPS.out, fun h => ⟨true, ?_, rfl⟩, fun h => ?_, HES.out⟩
              · rw [HI.out, h]; rfl
              · rw [HI.out, h]; rfl
          · have e1 : ((k : Int) == 1) = false := by simp; omega
            have e2 : ((k : Int) == 2) = false := by simp; omega
            have e3 : ((k : Int) == 21) = false := by simp; omega
            have e4 : ((k : Int) == 11) = false := by simp; omega
            have e5 : ((k : Int) == 12) = false := by simp; omega
            have e6 : ((k : Int) == -1) = false := beq_eq_false_iff_ne.2 (by omega)
            have HI := Sl.mk (oneI_else (rest := rest) HOP.out (by omega) h2 (by omega) (by omega) (by omega))
            have HSW := Sl.mk ((Below.refl tb w4).setCell (p := ⟨tb, 2, none⟩) (Nat.le_refl _) (.string { data := #[] }))
            have HBS := Sl.mk (show Blk (w4.setCell ⟨tb, 2, none⟩ (.string { data := #[] })) tb 41 #[.int .i64 k, .int .i64 0, .string { data := #[] }] from HB4.out.set_ 2 (.string { data := #[] }))
            have HD := Sl.mk (HEB.out _ (HAL.out.trans HSW.out))
            clear h1 h2 h3
            go_wp2_with fail
            go_meet
            refine ⟨re, ⟨k, 0, []⟩, p.ask, rfl, HBS.out, HD.out.1, fun h => ⟨false, ?_, rfl⟩, fun h => ?_, HD.out.2⟩
            · rw [HI.out, if_pos]
              have := HRE.out
              rw [h] at this
              cases rest with | nil => rfl | cons _ _ => cases this
            · rw [HI.out, if_neg]
              have := HRE.out
              rw [h] at this
              intro e; subst e; cases this
  case rest =>
    obtain ⟨ok, x, K, rfl, hT, hP, hok, hno3, hE, hK⟩ := hcut
    have HR := Sl.mk (show (oneF p word rest no).isSome = ok ∧ ∀ q, oneF p word rest no = some q → q = ⟨p.l ++ [x], p.lab, K⟩ by
      cases ok with
      | true =>
        obtain ⟨a, ha, hk⟩ := hok rfl
        rw [one_some ha, hk]
        exact ⟨rfl, fun q hq => by injection hq with hq; exact hq.symm⟩
      | false =>
        rw [one_none (hno3 rfl)]
        exact ⟨rfl, fun q hq => by cases hq⟩)
    obtain ⟨A, c, A2, c2, hBp, hO, hO2⟩ := hP.blk
    simp only at hBp hO hO2
    obtain ⟨L, hL⟩ : ∃ L, p.l.length = L := ⟨_, rfl⟩
    obtain ⟨N, hN⟩ : ∃ N, K.length = N := ⟨_, rfl⟩
    rw [hL] at hBp hO hl
    rw [hN] at hBp hO2
    obtain ⟨op2, n2, s2⟩ := x
    obtain ⟨j0, hj0, hy0, hy1, hy2⟩ := info_parts iInfo
    have HL := Sl.mk hL
    have HNN := Sl.mk hN
    have HPB := Sl.mk hP.bb
    obtain ⟨wd, hwd⟩ : ∃ wd, wc.drew = wd := ⟨_, rfl⟩
    have HBd := Sl.mk (show Blk wd pb 63 #[.slice A L c, .map (some mb), .slice A2 N c2] by rw [← hwd]; exact hBp.drew)
    have HTd := Sl.mk (show Blk wd tb 41 #[.int .i64 op2, .int .i64 n2, .string (bsS s2)] by rw [← hwd]; exact hT.drew)
    have HOd := Sl.mk (show wd.ownsRow base 41 3 (.slice A L c) L (isC p.l) by rw [← hwd]; exact hO)
    have HO2d := Sl.mk (show wd.ownsRow base 67 3 (.slice A2 N c2) N (asksC K) by rw [← hwd]; exact hO2)
    have HMd := Sl.mk (show Mp wd mb p.lab by rw [← hwd]; exact hP.map)
    have HEd := Sl.mk (show Below base w wd ∧ Kps w wd by rw [← hwd]; exact ⟨hE.drew, hK⟩)
    have HSF : Sl (∀ W, Blk W pb 63 #[.slice A L c, .map (some mb), .slice A2 N c2] ∧ Blk W tb 41 #[.int .i64 op2, .int .i64 n2, .string (bsS s2)] → W.cell? ⟨pb, 0, none⟩ = some (.slice A L c)) := Sl.mk (fun W hW => hW.1.cell 0)
    have hS0 := Below.refl wd.heap.size wd
    clear hBp hO hO2 hT hP hok hno3 hE hK hL hN
    go_wp2_with fail
    refine wp_region_X (fun W => Blk W pb 63 #[.slice A L c, .map (some mb), .slice A2 N c2] ∧ Blk W tb 41 #[.int .i64 op2, .int .i64 n2, .string (bsS s2)]) [0, 7, 8, 9, 10] (by kernel_rfl) (by rw [hwd]; exact ⟨HBd.out, HTd.out⟩) (fun hS => ?_)
    rw [hwd] at hS ⊢
    clear hwd
    refine wpAnyX_P (i := 0) (v := ?_) rfl (by kernel_rfl) (by kernel_rfl) (by kernel_rfl) (by kernel_rfl) (fun _ _ _ h => h) (Or.inl ⟨by rfl, ?_⟩) ?_
    rotate_left 1
    · (intro w' hw'; (first | rw [hw'] | (have hw2 := HSF.out w' hw'; (try obtain ⟨hw2, hw3⟩ := hw2)) | skip); go_simp; (try with_reducible rfl))
    simp only [Act.put, List.setIfInBounds_toArray, List.set_cons_zero, List.set_cons_succ]
    refine wpAnyX_S (i := 1) (v := ?_) rfl (by kernel_rfl) (by kernel_rfl) (by kernel_rfl) (by kernel_rfl) (fun _ _ _ h => h) (Or.inl ⟨by rfl, ?_⟩) hS ?_
    rotate_left 1
    · (intro w' hw'; (first | rw [hw'] | (have hw2 := HSF.out w' hw'; (try obtain ⟨hw2, hw3⟩ := hw2)) | skip); go_simp; (try with_reducible rfl))
    simp only [Act.put, List.setIfInBounds_toArray, List.set_cons_zero, List.set_cons_succ]
    refine wpAnyX_S (i := 2) (v := ?_) rfl (by kernel_rfl) (by kernel_rfl) (by kernel_rfl) (by kernel_rfl) (fun _ _ _ h => h) (Or.inl ⟨by rfl, ?_⟩) hS ?_
    rotate_left 1
    · (intro w' hw'; (first | rw [hw'] | (have hw2 := HSF.out w' hw'; (try obtain ⟨hw2, hw3⟩ := hw2)) | skip); go_simp; (try with_reducible rfl))
    simp only [Act.put, List.setIfInBounds_toArray, List.set_cons_zero, List.set_cons_succ]
    refine wpAnyX_S (i := 3) (v := ?_) rfl (by kernel_rfl) (by kernel_rfl) (by kernel_rfl) (by kernel_rfl) (fun _ _ _ h => h) (Or.inl ⟨by rfl, ?_⟩) hS ?_
    rotate_left 1
    · (intro w' hw'; (first | rw [hw'] | (have hw2 := HSF.out w' hw'; (try obtain ⟨hw2, hw3⟩ := hw2)) | skip); go_simp; (try with_reducible rfl))
    simp only [Act.put, List.setIfInBounds_toArray, List.set_cons_zero, List.set_cons_succ]
    refine wpAnyX_S (i := 4) (v := ?_) rfl (by kernel_rfl) (by kernel_rfl) (by kernel_rfl) (by kernel_rfl) (fun _ _ _ h => h) (Or.inl ⟨by rfl, ?_⟩) hS ?_
    rotate_left 1
    · (intro w' hw'; (first | rw [hw'] | (have hw2 := HSF.out w' hw'; (try obtain ⟨hw2, hw3⟩ := hw2)) | skip); go_simp; (try with_reducible rfl))
    simp only [Act.put, List.setIfInBounds_toArray, List.set_cons_zero, List.set_cons_succ]
    refine wpAnyX_S (i := 5) (v := .agg #[.int .i64 op2, .int .i64 n2, .string (bsS s2)]) rfl (by kernel_rfl) (by kernel_rfl) (by kernel_rfl) (by kernel_rfl) (fun _ _ _ h => h) (yieldsIf_loadD (by rfl) 41 (.tmp 10) rfl ⟨tb, 0, none⟩ _ rfl (fun W hW => run_loadVar_at W ⟨tb, 0, none⟩ 41 [.int .i64 op2, .int .i64 n2, .string (bsS s2)] _ (fun j v hv => by rw [adz tb j, hW.2.cell j]; simpa using hv) Tryd.underlying41 rfl iSize)) hS ?_
    simp only [Act.put, List.setIfInBounds_toArray, List.set_cons_zero, List.set_cons_succ]
    refine wpAnyX_oneL (k := 6) rfl (by kernel_rfl) rfl ?_
    refine wp_of_run (v := .slice (some ⟨wd.heap.size, 0, none⟩) 1 1) (w' := wd.alloc (.cells #[.int .i64 op2, .int .i64 n2, .string (bsS s2)] 41)) (by go_simp) ⟨fun _ => ⟨hS.1.alloc _, hS.2.alloc _⟩, ?_⟩
    simp only [Act.put, List.setIfInBounds_toArray, List.set_cons_zero, List.set_cons_succ]
    refine wpAnyX_oneL (k := 7) rfl (by kernel_rfl) rfl ?_
    have hal9 := below_al hS0 (.cells #[.int .i64 op2, .int .i64 n2, .string (bsS s2)] 41)
    have hbd : base ≤ (wd.alloc (.cells #[.int .i64 op2, .int .i64 n2, .string (bsS s2)] 41)).heap.size := Nat.le_trans (Nat.le_trans hbw HEd.out.1.size) hal9.size
    refine wp_append_any _ (.tmp 92) (.tmp 94) 23 rfl base 41 j0 (.agg #[.int .i64 0, .int .i64 0, .string ⟨#[]⟩]) 3 32 Tryd.underlying23 hj0 hy0 hy1 hy2 rfl (by decide) _ _ _ rfl (HOd.out.alloc _) (wd.heap.size + 1) _ 1 1 [.int .i64 op2, .int .i64 n2, .string (bsS s2)] rfl (reads_row3 wd _ _ _ _ (Nat.lt_succ_self _)) (by intro u hu; simp at hu; rcases hu with rfl | rfl | rfl <;> rfl) (by unfold maxLen; omega) (by omega) hbd ?_
    intro v9 w9 ho9 hg9 _
    have hB9 : Blk w9 pb 63 #[.slice A L c, .map (some mb), .slice A2 N c2] := (HBd.out.be hal9).grown hg9 (fun e => own_blk_ne HOd.out HBd.out (by decide) e.symm)
    have hO9 : w9.ownsRow base 67 3 (.slice A2 N c2) N (asksC K) := (own_below HO2d.out hal9).kept hg9 (ownApartA HO2d.out HOd.out (by decide))
    have hM9 : Mp w9 mb p.lab := (HMd.out.kept (World.grownBy_alloc wd _ none) (by simp)).kept hg9 (fun e => own_mp_ne HOd.out HMd.out e.symm)
    have hE9 : Below base w w9 := (HEd.out.1.trans (hal9.mono (Nat.le_trans hbw HEd.out.1.size))).grown hg9 hbd (fun q hq => ownGe HOd.out hq)
    have hK9 : Kps w w9 := (HEd.out.2.trans (Kps.be hal9)).trans (Kps.grown hg9 fun g cs hg e => own_blk_ne (HOd.out.alloc _) hg (by decide) e.symm)
    obtain ⟨A9, c9, hv9⟩ := ownForm ho9
    subst hv9
    have hw1 := only_setCell (only_refl w9 (some pb)) 0 (.slice A9 (L + 1) c9)
    have hBw : Blk (w9.setCell ⟨pb, 0, none⟩ (.slice A9 (L + 1) c9)) pb 63 #[.slice A9 (L + 1) c9, .map (some mb), .slice A2 N c2] := hB9.set_ 0 (.slice A9 (L + 1) c9)
    have HPw := Sl.mk (show Pv (w9.setCell ⟨pb, 0, none⟩ (.slice A9 (L + 1) c9)) base pb mb ⟨p.l ++ [⟨op2, n2, s2⟩], p.lab, K⟩ by
      refine ⟨⟨A9, c9, A2, c2, ?_, ?_, ?_⟩, hM9.kept hw1 (fun e => blk_mp_ne hB9 hM9 (by injection e with e; exact e.symm)), HPB.out⟩
      · show Blk _ _ _ #[.slice A9 (p.l ++ [(⟨op2, n2, s2⟩ : Ci)]).length c9, .map (some mb), .slice A2 K.length c2]
        rw [HNN.out, List.length_append, HL.out]; exact hBw
      · show World.ownsRow _ _ _ _ (.slice A9 (p.l ++ [(⟨op2, n2, s2⟩ : Ci)]).length c9) (p.l ++ [(⟨op2, n2, s2⟩ : Ci)]).length _
        rw [List.length_append, HL.out, isC_app, isC_sing]
        exact ho9.kept hw1 (.inr (own_blk_ne ho9 hB9 (by decide)))
      · show World.ownsRow _ _ _ _ (.slice A2 K.length c2) _ _
        rw [HNN.out]; exact hO9.kept hw1 (.inr (own_blk_ne hO9 hB9 (by decide))))
    have HEw := Sl.mk (show Below base w (w9.setCell ⟨pb, 0, none⟩ (.slice A9 (L + 1) c9)) ∧ Kps w (w9.setCell ⟨pb, 0, none⟩ (.slice A9 (L + 1) c9)) from ⟨hE9.setCell (p := ⟨pb, 0, none⟩) HPB.out.1 _, hK9.trans (Kps.grown hw1 fun g cs hg e => by
      injection e with e
      subst e
      have h6 := hB9
      unfold Blk at h6 hg
      rw [h6] at hg
      injection hg with hg
      injection hg with _ hg
      exact absurd hg (by decide))⟩)
    have HB9 := Sl.mk hB9
    refine ⟨fun h => absurd h (by decide), ?_⟩
    simp only [Act.put, List.setIfInBounds_toArray, List.set_cons_zero, List.set_cons_succ]
    clear hbd hal9 hO9 hM9 hE9 hK9 hw1 hBw hB9 hg9 ho9 hS HSF hS0
    have d0 := HB9.out.cell 0
    have f9 := HB9.out.frozen 0
    refine wpAnyX_tailF [8, 9, 10] (by kernel_rfl) (by rfl) (by rfl) (by rfl) ?_
    simp only [List.filterMap_cons, List.filterMap_nil, List.getElem?_cons_succ, List.getElem?_cons_zero]
    go_wp2_with fail
    refine NoPanic.normal ?_
    go_wp2_with fail
    go_ret
    exact ⟨by rw [HR.out.1]; rfl, fun q hq => (by rw [HR.out.2 q hq]; exact HPw.out), HEw.out⟩
end Go.Proofs.YtigdfkpkogompaaDoor
