/-
  The contract of asm's Print.
-/
import Derived.Test.YtigdfkpkogompaaDoorAsG
import Derived.Test.YtigdfkpkogompaaDoorBld
namespace Go.Proofs.YtigdfkpkogompaaDoor
open Go.RowKit Go.Maps
attribute [local go_sem ↓] Go.wp_at_zero Go.wp_at_succ

theorem find_none_allA {α : Type} (p : α → Bool) : ∀ (l : List α), l.findIdx? p = none → ∀ x ∈ l, p x = false
  | [], _, x, hx => nomatch hx
  | a :: r, h, x, hx => by
    rw [List.findIdx?_cons] at h
    cases hp : p a
    · rw [hp, if_neg (by simp)] at h
      rcases List.mem_cons.1 hx with rfl | hx
      · exact hp
      · refine find_none_allA p r ?_ x hx
        cases e : r.findIdx? p with
        | none => rfl
        | some k => rw [e] at h; cases h
    · rw [hp, if_pos rfl] at h; cases h
theorem chk_zeroA {l : List Ci} (h : (chkF l).2 = 0) : l.length ≤ 200 ∧ (∀ (j : Nat) (y : Ci), l[j]? = some y → rightI y (l.length : Nat) = true) ∧ chkF l = (((l.length : Nat) : Int), 0) := by
  by_cases h2 : 200 < l.length
  · rw [chk_long h2] at h; cases h
  · refine ⟨by omega, ?_⟩
    have h0 : chkF l = match l.findIdx? fun x => !rightI x l.length with
      | some i => ((i : Nat), 3)
      | none => ((l.length : Nat), 0) := by unfold chkF; rw [if_neg h2]; rfl
    cases e : l.findIdx? fun x => !rightI x l.length with
    | some k => rw [h0, e] at h; cases h
    | none =>
      refine ⟨fun j y hy => ?_, by rw [h0, e]⟩
      have := find_none_allA _ _ e y (List.mem_of_getElem? hy)
      simpa using this
theorem bc_app (a b : List UInt8) : Lib.byteCells a ++ Lib.strCells (bsS b) = Lib.byteCells (a ++ b) := by
  simp [Lib.byteCells, Lib.strCells, bsS]
theorem _root_.Go.Lib.IsBuilder.be {T e : TypeId} {B b : Nat} {bs : List Value} {w w' : World} (h : Lib.IsBuilder T e B b bs w) (hb : Below w.heap.size w w') : Lib.IsBuilder T e B b bs w' := by
  rcases h with ⟨hB, v, hh, hown, hne⟩ | ⟨hB, v, hh, hown, hne⟩
  · exact .inl ⟨hB, v, (hb.block b (Blk.lt (t := T) (cs := _) hh)).trans hh, own_below hown hb, hne⟩
  · exact .inr ⟨hB, v, (hb.block b (Blk.lt (t := T) (cs := _) hh)).trans hh, own_below hown hb, hne⟩
theorem bc_len (a : List UInt8) : (Lib.byteCells a).length = a.length := by simp [Lib.byteCells]
theorem endL_app (a b : List (List UInt8)) : endL (a ++ b) = endL a ++ endL b := by simp [endL]
theorem prN_succ (l : List Ci) (i : Nat) : prN l (i + 1) = prN l i ++ prAt l i := by
  unfold prN
  rw [List.range_succ, List.flatMap_append]
  simp
theorem isPl_snoc (l : List Ci) (j : Nat) (x : Ci) (h : l[j]? = some x) (i : Nat) : isPl (l.take (j + 1)) i = (isPl (l.take j) i || (jumpI x && x.n == (i : Int))) := by
  unfold isPl
  rw [List.take_add_one, h, List.any_append]
  simp
/-- The places that are asked for, as a map reads. -/
def Pm (w : World) (mb n : Nat) (l : List Ci) : Prop :=
  ∃ D : DataW Unit, w.ownsMap Tryd.prog 3 (plainElem Tryd.prog 4) mb n D ∧ ∀ i : Nat, D.atKey (.int .i64 (i : Nat)) (.lit (.bool false)) = .lit (.bool (isPl l i))
theorem mapLawI : Keyed Tryd.prog 3 := int_keyed Tryd.underlying3
theorem zeroBool (w : World) : (zeroValue 4).run Tryd.prog w = .ok (.bool false) w := by kernel_rfl
theorem plainElem_bool_inv {P : Program} {e : TypeId} (he : P.underlying e = some .bool) {v : Value} {z : DataW Unit × List MemPlace} (h : plainElem P e v = some z) : ∃ b, v = .bool b ∧ z = (.lit (.bool b), []) := by
  unfold plainElem at h
  rw [he] at h
  cases v <;> simp at h
  exact ⟨_, rfl, h.symm⟩
theorem Pm.look {w : World} {mb n : Nat} {l : List Ci} (h : Pm w mb n l) (i : Nat) (hi : i ≤ 1000000) :
    (Instr.lookup 46 (.map (some mb)) (.int .i64 (i : Nat)) false).run Tryd.prog w = .ok (.bool (isPl l i)) w := by
  obtain ⟨D, h1, h2⟩ := h
  obtain ⟨v, ps, hrun, hv⟩ := h1.lookup mapLawI Tryd.underlying46 (zeroBool w) (plainElem_bool Tryd.underlying4 false) (keyOf_int_mk Tryd.underlying3 (litWf hi))
  obtain ⟨b, rfl, hb⟩ := plainElem_bool_inv Tryd.underlying4 hv
  have h3 : (DataW.lit (.bool b) : DataW Unit) = .lit (.bool (isPl l i)) := (congrArg Prod.fst hb).symm.trans (h2 i)
  simp only [DataW.lit.injEq, Lit.bool.injEq] at h3
  rw [hrun, h3]
theorem Pm.heap {w w' : World} {mb n : Nat} {l : List Ci} (h : Pm w mb n l) (hh : ∀ o, w.heap[mb]? = some o → (∀ c t fz, o ≠ .cells c t fz) → w'.heap[mb]? = some o) : Pm w' mb n l := by
  obtain ⟨D, ⟨es, cl, he, hr⟩, h2⟩ := h
  exact ⟨D, ⟨es, cl, hh _ he (fun c t fz e => by cases e), hr⟩, h2⟩
theorem Pm.lt {w : World} {mb n : Nat} {l : List Ci} (h : Pm w mb n l) : mb < w.heap.size := by
  obtain ⟨D, h1, _⟩ := h
  exact h1.lt
theorem Pm.be {w w' : World} {mb n : Nat} {l : List Ci} (h : Pm w mb n l) (hb : Below w.heap.size w w') : Pm w' mb n l :=
  h.heap fun _ ho _ => (hb.block mb h.lt).trans ho
theorem Pm.others {w w' : World} {mb n b : Nat} {l : List Ci} {e : TypeId} (h : Pm w mb n l) (hk : Lib.OthersKept e (some b) w w') (hne : mb ≠ b) : Pm w' mb n l :=
  h.heap fun o ho hc => hk mb o ho (fun e => hne (by injection e)) (fun c fz e => hc c _ fz e)
theorem Pm.same {w : World} {mb n : Nat} {l : List Ci} (h : Pm w mb n l) (l2 : List Ci) (he : ∀ i, isPl l2 i = isPl l i) : Pm w mb n l2 := by
  obtain ⟨D, h1, h2⟩ := h
  exact ⟨D, h1, fun i => by rw [he]; exact h2 i⟩
theorem isPl_nil (i : Nat) : isPl [] i = false := rfl

def PrPost (w : World) (l : List Ci) (e : Ending) (w' : World) : Prop :=
  e = .returned (.tuple #[.string (bsS (if (chkF l).2 = 0 then prF l else [])), .int .i64 (chkF l).2]) ∧ Below w.heap.size w w'
theorem prAt_len {l : List Ci} (h : ∀ x ∈ l, rightI x (l.length : Nat) = true) (hl : l.length ≤ 200) (i : Nat) (hi : i ≤ 200) : (endL (prAt l i)).length ≤ 80 := by
  unfold prAt endL
  have h1 := namF_len (n := i) (by omega)
  rw [List.flatMap_append, List.length_append]
  have h2 : (List.flatMap (fun x => x ++ [10]) (if isPl l i = true then [namF i ++ [58]] else [])).length ≤ 7 := by
    split
    · simp; omega
    · simp
  refine Nat.le_trans (Nat.add_le_add h2 (?_ : _ ≤ 71)) (by omega)
  split
  · rename_i x e
    have := ins_len (h x (List.mem_of_getElem? e)) (by omega)
    simp; omega
  · simp
theorem prN_len {l : List Ci} (h : ∀ x ∈ l, rightI x (l.length : Nat) = true) (hl : l.length ≤ 200) : ∀ i, i ≤ 201 → (endL (prN l i)).length ≤ 80 * i
  | 0, _ => by simp [prN, endL]
  | i + 1, hi => by
    rw [prN_succ, endL_app, List.length_append]
    have := prN_len h hl i (by omega)
    have := prAt_len h hl i (by omega)
    omega
set_option maxRecDepth 100000 in
set_option maxHeartbeats 8000000 in
theorem print_any (A : Option Addr) (n c : Nat) (l : List Ci) (w : World) (hn : n ≤ 1000000) (hI : Is w A n l) (hE : Eg w w.heap.size) :
    Calls Tryd.prog 9 #[.slice A n c] w (PrPost w l) := by
  have HC := Sl.mk (check_any A n c l w hn hI hE.sp)
  unfold CkPost at HC
  obtain ⟨ci, ce, hce⟩ : ∃ ci ce, chkF l = (ci, ce) := ⟨_, _, rfl⟩
  rw [hce] at HC
  obtain ⟨T, hT⟩ : ∃ T, (if ce = 0 then prF l else []) = T := ⟨_, rfl⟩
  have hpost : ∀ e w', (e = .returned (.tuple #[.string (bsS T), .int .i64 ce]) ∧ Below w.heap.size w w') → PrPost w l e w' := fun e w' h => by
    unfold PrPost
    rw [hce]
    show e = .returned (.tuple #[.string (bsS (if ce = 0 then prF l else [])), .int .i64 ce]) ∧ _
    rw [hT]; exact h
  refine Calls.mono (R := fun e w' => e = .returned (.tuple #[.string (bsS T), .int .i64 ce]) ∧ Below w.heap.size w w') ?_ hpost
  clear hpost
  by_cases h0 : ce = 0
  · subst h0
    rw [if_pos rfl] at hT
    have HTT := Sl.mk hT
    clear hT
    have hmm := @run_makeMap Tryd.prog
    obtain ⟨hl200, hri, hchk⟩ := chk_zeroA (l := l) (by rw [hce])
    have HN := Sl.mk hI.n_
    have HRI := Sl.mk (show ∀ x ∈ l, rightI x (l.length : Nat) = true from fun x hx => by
      obtain ⟨j, hj⟩ := List.mem_iff_getElem?.1 hx
      exact hri j x hj)
    have HI := Sl.mk hI
    have HL2 := Sl.mk hl200
    have hn200 : n ≤ 200 := by rw [← HN.out]; exact hl200
    have hE0 := Sl.mk hE
    clear hI hE hce hri hchk hl200
    go_enter Tryd.func9, Tryd.ntmps9
    go_wp2_with fail
    refine HC.out.mono ?_
    rintro e w1 ⟨rfl, hb1⟩
    have HB1 := Sl.mk hb1
    clear hb1
    go_wp2_with fail
    have hMd : Pm (w1.alloc (.map #[] 0)) w1.heap.size 0 [] := ⟨_, World.ownsMap_made (H := Unit) w1 Tryd.prog 3 (plainElem Tryd.prog 4), fun i => rfl⟩
    have HE2 := Sl.mk (below_al HB1.out (.map #[] 0))
    obtain ⟨w2, hw2⟩ : ∃ w2, w1.alloc (.map #[] 0) = w2 := ⟨_, rfl⟩
    have HMB := Sl.mk (show w.heap.size ≤ w1.heap.size from HB1.out.size)
    obtain ⟨mb, hmb⟩ : ∃ mb, w1.heap.size = mb := ⟨_, rfl⟩
    rw [hw2, hmb] at hMd
    rw [hw2] at HE2
    rw [hmb] at HMB
    have HMD := Sl.mk hMd
    rw [hw2, hmb]
    clear hMd hw2 hmb hmm HB1
    go_loopg [22] n (fun q v22 wr => ∃ j : Nat, q = n - j ∧ j ≤ n ∧ v22 = .int .i64 j ∧ Pm wr mb j (l.take j) ∧ Below w.heap.size w wr)
    case atStart => exact ⟨0, rfl, Nat.zero_le _, rfl, HMD.out, HE2.out⟩
    case round =>
      clear HMD HE2
      obtain ⟨j, hq, hj, rfl, hM, hB⟩ := hrel
      by_cases hlt : j < n
      · obtain ⟨x, hx⟩ : ∃ x, l[j]? = some x := ⟨_, List.getElem?_eq_getElem (by rw [HN.out]; exact hlt)⟩
        obtain ⟨ab, ao, rfl, hbl, hld, -⟩ := (HI.out.be hB).lit hx
        have hxr := HRI.out x (List.mem_of_getElem? hx)
        have HSN := Sl.mk (isPl_snoc l j x hx)
        have h9 := right_num hxr (by rw [HN.out]; omega)
        obtain ⟨op, m, s⟩ := x
        replace h9 : 0 ≤ m ∧ m ≤ 9999 := h9
        obtain ⟨k, rfl⟩ : ∃ k : Nat, m = k := ⟨m.toNat, by omega⟩
        have hk : k ≤ 9999 := by omega
        have HQ := Sl.mk (show n - (j + 1) < gk ∧ j + 1 ≤ n by omega)
        have c0 : wr.cell? ⟨ab, ao + j * 3, none⟩ = some (.int .i64 op) := by have h := hld 0 _ rfl; rw [Addr.add_lit] at h; exact h
        have c1 : wr.cell? ⟨ab, ao + j * 3 + 1, none⟩ = some (.int .i64 k) := by have h := hld 1 _ rfl; rw [Addr.add_lit] at h; exact h
        have c2 : wr.cell? ⟨ab, ao + j * 3 + 2, none⟩ = some (.string (bsS s)) := by have h := hld 2 _ rfl; rw [Addr.add_lit] at h; exact h
        have hal := below_al (Below.refl wr.heap.size wr) (.cells #[.int .i64 op, .int .i64 k, .string (bsS s)] 41)
        have hB3 := Blk.new wr 41 #[.int .i64 op, .int .i64 k, .string (bsS s)]
        obtain ⟨w3, hw3⟩ : ∃ w3, wr.alloc (.cells #[.int .i64 op, .int .i64 k, .string (bsS s)] 41) = w3 := ⟨_, rfl⟩
        rw [hw3] at hal hB3
        have HM3 := Sl.mk (hM.be hal)
        have HE3 := Sl.mk (hB.trans (hal.mono hB.size))
        have HW3 := Sl.mk hw3
        obtain ⟨tb, htb⟩ : ∃ tb, wr.heap.size = tb := ⟨_, rfl⟩
        have HTB := Sl.mk htb
        rw [htb] at hB3
        have d0 := hB3.cell 0
        have d1 := hB3.cell 1
        have hjn : (j : Int) < (n : Int) := by omega
        clear hx hxr hM hB hal hB3 hw3 htb hld hq h9
        go_upto_region 8 with fail
        rw [HW3.out, HTB.out]
        clear HW3 HTB c0 c1 c2 hbl
        by_cases hjm : op = 11 ∨ op = 12
        · obtain ⟨D, hown, hat⟩ := HM3.out
          have HIM := Sl.mk hown.isMap
          have HAT := Sl.mk hat
          have HPM : Sl (∀ W, W.ownsMap Tryd.prog 3 (plainElem Tryd.prog 4) mb (j + 1) (D.put (.int .i64 k) (.lit (.bool true))) → Pm W mb (j + 1) (l.take (j + 1))) := Sl.mk (fun W hW => ⟨_, hW, fun i => by
            rw [HSN.out]
            have hji : jumpI ⟨op, (k : Nat), s⟩ = true := by unfold jumpI; rcases hjm with rfl | rfl <;> rfl
            by_cases hik : i = k
            · subst hik
              rw [Maps.atKey_put_same HIM.out (by trivial), hji]; simp
            · rw [Maps.atKey_put_other (by intro e; injection e with _ e; omega), HAT.out]
              have : ((k : Int) == (i : Int)) = false := by simp; omega
              rw [hji]
              simp only [this, Bool.and_false, Bool.or_false]⟩)
          clear hat
          rcases hjm with rfl | rfl
          all_goals
            go_wp2_with (at_mapUpdate; refine wpList_mapUpdate_own _ rfl _ _ _ 46 rfl 3 4 mapLawI Tryd.underlying46 _ mb j D rfl hown (by unfold maxLen; omega) _ _ (.int .i64 k) rfl rfl (keyOf_int_mk Tryd.underlying3 (litWf (by omega))) _ [] (plainElem_bool Tryd.underlying4 true) ?_; intro w4 hown4 hg4; have HM4 := Sl.mk (HPM.out w4 hown4); have HE4 := Sl.mk (HE3.out.grown hg4 HE3.out.size (fun g hg => by injection hg with hg; rw [← hg]; exact HMB.out)); clear hown4 hg4)
            go_roundg (n - (j + 1))
            case measure => exact HQ.out.1
            case rel => exact ⟨j + 1, rfl, HQ.out.2, by go_num, HM4.out, HE4.out⟩
        · have e4 : (op == 11) = false := beq_eq_false_iff_ne.2 (by omega)
          have e5 : (op == 12) = false := beq_eq_false_iff_ne.2 (by omega)
          have HM4 := Sl.mk (show Pm w3 mb (j + 1) (l.take (j + 1)) by
            obtain ⟨D, h1, h2⟩ := HM3.out
            refine ⟨D, h1.mono (Nat.le_succ _), fun i => ?_⟩
            rw [HSN.out, h2]
            have hji : jumpI ⟨op, (k : Nat), s⟩ = false := by unfold jumpI; rw [e4, e5]; rfl
            rw [hji]; simp)
          clear hjm
          go_wp2_with fail
          go_roundg (n - (j + 1))
          case measure => exact HQ.out.1
          case rel => exact ⟨j + 1, rfl, HQ.out.2, by go_num, HM4.out, HE3.out⟩
      · obtain rfl : j = n := by omega
        have htk : l.take j = l := by rw [← HN.out, List.take_length]
        rw [htk] at hM
        have HM := Sl.mk hM
        have HB := Sl.mk hB
        clear hM hB htk hq hlt hj
        have HBN := Sl.mk (builder_new wr)
        have hal := below_al (Below.refl wr.heap.size wr) (.cells #[.pointer none, .slice none 0 0] 50)
        have HMW := Sl.mk (HM.out.be hal)
        have HEW := Sl.mk (HB.out.trans (hal.mono HB.out.size))
        obtain ⟨wb, hwb⟩ : ∃ wb, wr.alloc (.cells #[.pointer none, .slice none 0 0] 50) = wb := ⟨_, rfl⟩
        have HBG := Sl.mk (show w.heap.size ≤ wr.heap.size ∧ mb ≠ wr.heap.size from ⟨HB.out.size, by have := HM.out.lt; omega⟩)
        obtain ⟨bb, hbb⟩ : ∃ bb, wr.heap.size = bb := ⟨_, rfl⟩
        have HSB := Sl.mk (show bb < wb.heap.size by rw [← hwb, ← hbb]; simp)
        rw [hwb, hbb] at HBN
        rw [hwb] at HMW HEW
        rw [hbb] at HBG
        have HWB := Sl.mk hwb
        have HBB := Sl.mk hbb
        clear hal hwb hbb HM HB
        go_wp2_with fail
        rw [HWB.out, HBB.out]
        clear HWB HBB
        go_loopg [41] (j + 1) (fun q v41 wx => ∃ i : Nat, q = j + 1 - i ∧ i ≤ j + 1 ∧ v41 = .int .i64 i ∧ Lib.IsBuilder 50 5 bb bb (Lib.byteCells (endL (prN l i))) wx ∧ Pm wx mb j l ∧ Below w.heap.size w wx ∧ bb ≤ wx.heap.size)
        case atStart => exact ⟨0, rfl, Nat.zero_le _, rfl, HBN.out, HMW.out, HEW.out, Nat.le_of_lt HSB.out⟩
        case round =>
          clear HBN HMW HEW HSB
          obtain ⟨i, hq, hi, rfl, hBu, hM, hE, hS⟩ := hrel
          by_cases hlt : i < j + 1
          · have hlk := hM.look i (by omega)
            obtain ⟨pl, hpl⟩ : ∃ pl, isPl l i = pl := ⟨_, rfl⟩
            rw [hpl] at hlk
            have HPL := Sl.mk hpl
            have HTL := Sl.mk (prN_len HRI.out (by rw [HN.out]; omega) i (by omega))
            obtain ⟨T0, hT0⟩ : ∃ T0, endL (prN l i) = T0 := ⟨_, rfl⟩
            rw [hT0] at hBu HTL
            have HNX := Sl.mk (show endL (prN l (i + 1)) = T0 ++ endL (prAt l i) by rw [prN_succ, endL_app, hT0])
            have HBu := Sl.mk hBu
            have HM := Sl.mk hM
            have HE := Sl.mk hE
            have HS := Sl.mk hS
            have HQ := Sl.mk (show j + 1 - (i + 1) < gk ∧ i + 1 ≤ j + 1 by omega)
            have hij : (i : Int) < (j : Int) + 1 := by omega
            clear hpl hT0 hBu hM hE hS hq
            go_upto_if 46 with fail
            go_cut [] (fun wx => Lib.IsBuilder 50 5 bb bb (Lib.byteCells (T0 ++ endL (if pl = true then [namF i ++ [58]] else []))) wx ∧ Pm wx mb j l ∧ Below w.heap.size w wx ∧ bb ≤ wx.heap.size)
            case first =>
              cases pl with
              | false =>
                go_wp2_with fail
                go_meet
                exact ⟨by simpa [endL] using HBu.out, HM.out, HE.out, HS.out⟩
              | true =>
                have HNM := Sl.mk (named_any i wr (by omega) (hE0.out.at_ HE.out HE.out.size))
                have hnl := namF_len (n := i) (by omega)
                obtain ⟨F, hF⟩ : ∃ F, namF i = F := ⟨_, rfl⟩
                rw [hF] at HNM hnl
                have hFz := bs_size F
                obtain ⟨F2, hF2⟩ : ∃ F2, F ++ [58, 10] = F2 := ⟨_, rfl⟩
                have hap : bsS F ++ ⟨#[58, 10]⟩ = bsS F2 := by rw [← hF2]; exact bs_app F [58, 10]
                have hF2l : F2.length ≤ 7 := by rw [← hF2]; simp; omega
                have HF2 := Sl.mk (show endL [namF i ++ [58]] = F2 by rw [hF, ← hF2]; simp [endL])
                clear hF hF2 hlk
                go_wp2_with fail
                refine HNM.out.mono ?_
                rintro e w5 ⟨rfl, hb5⟩
                have HWS := Sl.mk (wstring_any bb bb (Lib.byteCells T0) (bsS F2) w5 (HBu.out.be hb5) (by rw [bc_len, bs_size]; have := HTL.out; omega) (Nat.le_trans HS.out hb5.size))
                have HM5 := Sl.mk (HM.out.be hb5)
                have HE5 := Sl.mk (HE.out.trans (hb5.mono HE.out.size))
                have HS5 := Sl.mk (Nat.le_trans HS.out hb5.size)
                clear hb5
                go_wp2_with fail
                refine HWS.out.mono ?_
                rintro e w6 ⟨rfl, hB6, hb6, hk6⟩
                rw [bc_app] at hB6
                have HD := Sl.mk (show Lib.IsBuilder 50 5 bb bb (Lib.byteCells (T0 ++ F2)) w6 ∧ Pm w6 mb j l ∧ Below w.heap.size w w6 ∧ bb ≤ w6.heap.size from ⟨.inr hB6, HM5.out.others hk6 HBG.out.2, HE5.out.trans (hb6.mono HBG.out.1), Nat.le_trans HS5.out hb6.size⟩)
                clear hB6 hb6 hk6
                go_wp2_with fail
                go_meet
                rw [if_pos (by trivial), HF2.out]
                exact HD.out
            case rest =>
              obtain ⟨hB2, hM2, hE2, hS2⟩ := hcut
              obtain ⟨T1, hT1⟩ : ∃ T1, T0 ++ endL (if pl = true then [namF i ++ [58]] else []) = T1 := ⟨_, rfl⟩
              rw [hT1] at hB2
              have HT1 := Sl.mk (show ∀ L, prAt l i = (if pl = true then [namF i ++ [58]] else []) ++ L → endL (prN l (i + 1)) = T1 ++ endL L from fun L hL => by
                rw [HNX.out, hL, endL_app, ← List.append_assoc, hT1])
              have hT1l : T1.length ≤ 20000 := by
                rw [← hT1, List.length_append]
                have h1 := HTL.out
                have h2 := namF_len (n := i) (by omega)
                have h3 : (endL (if pl = true then [namF i ++ [58]] else [])).length ≤ 7 := by
                  split
                  · simp [endL]; omega
                  · simp [endL]
                omega
              clear hT1 HNX HTL hlk HBu HM HE HS
              by_cases hin : i < j
              · obtain ⟨x, hx⟩ : ∃ x, l[i]? = some x := ⟨_, List.getElem?_eq_getElem (by rw [HN.out]; exact hin)⟩
                obtain ⟨ab, ao, rfl, hbl, hld, -⟩ := (HI.out.be hE2).lit hx
                have hxr := HRI.out x (List.mem_of_getElem? hx)
                have HIA := Sl.mk (ins_any x (l.length : Nat) wc hxr (by rw [HN.out]; omega) (hE0.out.at_ hE2 hE2.size))
                have hil := ins_len hxr (by rw [HN.out]; omega)
                obtain ⟨F, hF⟩ : ∃ F, insF x = F := ⟨_, rfl⟩
                rw [hF] at HIA hil
                have HPA := Sl.mk (show endL (prN l (i + 1)) = T1 ++ (F ++ [10]) by
                  rw [HT1.out [insF x] (by unfold prAt; rw [hx, HPL.out])]
                  rw [hF]; simp [endL])
                obtain ⟨op, m, s⟩ := x
                have c0 : wc.cell? ⟨ab, ao + i * 3, none⟩ = some (.int .i64 op) := by have h := hld 0 _ rfl; rw [Addr.add_lit] at h; exact h
                have c1 : wc.cell? ⟨ab, ao + i * 3 + 1, none⟩ = some (.int .i64 m) := by have h := hld 1 _ rfl; rw [Addr.add_lit] at h; exact h
                have c2 : wc.cell? ⟨ab, ao + i * 3 + 2, none⟩ = some (.string (bsS s)) := by have h := hld 2 _ rfl; rw [Addr.add_lit] at h; exact h
                have hFz := bs_size F
                obtain ⟨F2, hF2⟩ : ∃ F2, F ++ [10] = F2 := ⟨_, rfl⟩
                rw [hF2] at HPA
                have hap : bsS F ++ ⟨#[10]⟩ = bsS F2 := by rw [← hF2]; exact bs_app F [10]
                have hF2l : F2.length ≤ 71 := by rw [← hF2]; simp; omega
                have HB2 := Sl.mk hB2
                have HM2 := Sl.mk hM2
                have HE2 := Sl.mk hE2
                have HS2 := Sl.mk hS2
                have hijn : (i : Int) < (j : Int) := by omega
                clear hx hld hxr hbl hF hF2 hB2 hM2 hE2 hS2
                go_wp2_with fail
                refine HIA.out.mono ?_
                rintro e w5 ⟨rfl, hb5⟩
                have HWS := Sl.mk (wstring_any bb bb (Lib.byteCells T1) (bsS F2) w5 (HB2.out.be hb5) (by rw [bc_len, bs_size]; omega) (Nat.le_trans HS2.out hb5.size))
                have HM5 := Sl.mk (HM2.out.be hb5)
                have HE5 := Sl.mk (HE2.out.trans (hb5.mono HE2.out.size))
                have HS5 := Sl.mk (Nat.le_trans HS2.out hb5.size)
                clear hb5 c0 c1 c2
                go_wp2_with fail
                refine HWS.out.mono ?_
                rintro e w6 ⟨rfl, hB6, hb6, hk6⟩
                rw [bc_app] at hB6
                have HD := Sl.mk (show Lib.IsBuilder 50 5 bb bb (Lib.byteCells (endL (prN l (i + 1)))) w6 ∧ Pm w6 mb j l ∧ Below w.heap.size w w6 ∧ bb ≤ w6.heap.size from ⟨.inr (by rw [HPA.out]; exact hB6), HM5.out.others hk6 HBG.out.2, HE5.out.trans (hb6.mono HBG.out.1), Nat.le_trans HS5.out hb6.size⟩)
                clear hB6 hb6 hk6
                go_wp2_with fail
                go_roundg (j + 1 - (i + 1))
                case measure => exact HQ.out.1
                case rel => exact ⟨i + 1, rfl, HQ.out.2, by go_num, HD.out⟩
              · have HPA := Sl.mk (show endL (prN l (i + 1)) = T1 by
                  rw [HT1.out [] (by unfold prAt; rw [HPL.out, List.getElem?_eq_none (by rw [HN.out]; omega)])]
                  simp [endL])
                have HD := Sl.mk (show Lib.IsBuilder 50 5 bb bb (Lib.byteCells (endL (prN l (i + 1)))) wc ∧ Pm wc mb j l ∧ Below w.heap.size w wc ∧ bb ≤ wc.heap.size from ⟨by rw [HPA.out]; exact hB2, hM2, hE2, hS2⟩)
                have hijn : ¬ (i : Int) < (j : Int) := by omega
                clear hB2 hM2 hE2 hS2
                go_wp2_with fail
                go_roundg (j + 1 - (i + 1))
                case measure => exact HQ.out.1
                case rel => exact ⟨i + 1, rfl, HQ.out.2, by go_num, HD.out⟩
          · obtain rfl : i = j + 1 := by omega
            have HST := Sl.mk (bstring_any bb bb (endL (prN l (j + 1))) wr hBu hS)
            have HF := Sl.mk (show T = endL (prN l (j + 1)) by rw [← HTT.out]; unfold prF; rw [HN.out])
            have HE := Sl.mk hE
            clear hBu hM hE hS hq hlt hi
            go_wp2_with fail
            refine HST.out.mono ?_
            rintro e w6 ⟨rfl, hb6⟩
            have HE6 := Sl.mk (HE.out.trans (hb6.mono HBG.out.1))
            clear hb6
            go_wp2_with fail
            go_ret2
            exact ⟨by rw [HF.out]; rfl, HE6.out⟩
  · have hb : (ce != 0) = true := by simpa using h0
    have HTT := Sl.mk (show T = [] by rw [← hT, if_neg h0])
    clear hI hE hce h0 hT
    go_enter Tryd.func9, Tryd.ntmps9
    go_wp2_with fail
    refine HC.out.mono ?_
    rintro e w1 ⟨rfl, hb1⟩
    have HB1 := Sl.mk hb1
    clear hb1
    go_wp2_with fail
    go_ret2
    exact ⟨by rw [HTT.out]; rfl, HB1.out⟩
end Go.Proofs.YtigdfkpkogompaaDoor
