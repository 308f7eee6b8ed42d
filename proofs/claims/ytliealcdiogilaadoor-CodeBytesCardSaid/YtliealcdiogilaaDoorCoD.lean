/-
  The contract of code's Behind.
-/
import Derived.Test.YtliealcdiogilaaDoorCoC
namespace Go.Proofs.YtliealcdiogilaaDoor
open Go.RowKit
attribute [local go_sem ↓] Go.wp_at_zero Go.wp_at_succ

theorem effZero : (Tryd.prog.info? 60).map (fun i => (i.zero, i.size)) = some (some (.agg #[.string ⟨#[]⟩, .string ⟨#[]⟩]), 2) := by kernel_rfl
theorem effR_inv {v : Value} {ps : List MemPlace} {a b : List UInt8} (h : effR v = some (effD (a, b), ps)) : v = .agg #[.string (bsS a), .string (bsS b)] := by
  unfold effR at h
  split at h
  · rename_i cs
    split at h
    · rename_i x y hcs
      simp only [effD, Option.some.injEq, Prod.mk.injEq, DataW.agg.injEq, List.cons.injEq, DataW.lit.injEq, Lit.string.injEq] at h
      obtain ⟨⟨h1, h2, _⟩, _⟩ := h
      subst h1; subst h2
      rw [show cs = #[.string x, .string y] from Array.ext' hcs]
      rfl
    · cases h
  · cases h
/-- 'x, ok := effects()[op]' at the operation. -/
theorem wpList_look {w W : World} {ops : Array Oper} {rest : List Oper} {o : Oper} {act : Act} {Q : Exit → Act → World → Prop} (hE : EffW w W 18 effAll)
    (hg : o.guard = none) (m x : Operand) (hop : o.op = Op.lookup 62 m x true) (hm : act.eval m = .map (some w.heap.size)) (k : Int) (hx : act.eval x = .int .i64 k) (hw : (Lit.int .i64 k).wf = true)
    (t l : List UInt8) (ok : Bool) (h1 : effAll.atKey (.int .i64 k) (effD ([], [])) = effD (t, l)) (h2 : Go.Maps.has effAll (.int .i64 k) = ok)
    (hK : wpList Tryd.prog ops Q rest (act.put o.dst (.tuple #[.agg #[.string (bsS t), .string (bsS l)], .bool ok])) W) :
    wpList Tryd.prog ops Q (o :: rest) act W :=
  wpList_lookup_own_ok W hg m x _ hop 3 60 (Go.Maps.int_keyed Tryd.underlying3) Tryd.underlying62 effR ((zero_of_info effZero).1 W) (effD ([], [])) [] rfl w.heap.size 18 effAll hm hE.own _ _ hx (Go.Maps.keyOf_int_mk Tryd.underlying3 hw)
    fun v ps hv => by
      rw [h1] at hv
      rw [effR_inv hv, h2]
      exact hK

theorem eff_fix : ∀ k : Nat, k < 22 → ∀ t l, fixT k = some (t, l) → effAll.atKey (.int .i64 (k : Nat)) (effD ([], [])) = effD (t, l) ∧ Go.Maps.has effAll (.int .i64 (k : Nat)) = true
  | 0, _, _, _, h => by cases h; exact ⟨by kernel_rfl, by kernel_rfl⟩
  | 1, _, _, _, h => by cases h; exact ⟨by kernel_rfl, by kernel_rfl⟩
  | 2, _, _, _, h => by cases h; exact ⟨by kernel_rfl, by kernel_rfl⟩
  | 3, _, _, _, h => by cases h
  | 4, _, _, _, h => by cases h
  | 5, _, _, _, h => by cases h
  | 6, _, _, _, h => by cases h; exact ⟨by kernel_rfl, by kernel_rfl⟩
  | 7, _, _, _, h => by cases h; exact ⟨by kernel_rfl, by kernel_rfl⟩
  | 8, _, _, _, h => by cases h; exact ⟨by kernel_rfl, by kernel_rfl⟩
  | 9, _, _, _, h => by cases h
  | 10, _, _, _, h => by cases h; exact ⟨by kernel_rfl, by kernel_rfl⟩
  | 11, _, _, _, h => by cases h; exact ⟨by kernel_rfl, by kernel_rfl⟩
  | 12, _, _, _, h => by cases h; exact ⟨by kernel_rfl, by kernel_rfl⟩
  | 13, _, _, _, h => by cases h; exact ⟨by kernel_rfl, by kernel_rfl⟩
  | 14, _, _, _, h => by cases h; exact ⟨by kernel_rfl, by kernel_rfl⟩
  | 15, _, _, _, h => by cases h; exact ⟨by kernel_rfl, by kernel_rfl⟩
  | 16, _, _, _, h => by cases h; exact ⟨by kernel_rfl, by kernel_rfl⟩
  | 17, _, _, _, h => by cases h; exact ⟨by kernel_rfl, by kernel_rfl⟩
  | 18, _, _, _, h => by cases h; exact ⟨by kernel_rfl, by kernel_rfl⟩
  | 19, _, _, _, h => by cases h; exact ⟨by kernel_rfl, by kernel_rfl⟩
  | 20, _, _, _, h => by cases h; exact ⟨by kernel_rfl, by kernel_rfl⟩
  | 21, _, _, _, h => by cases h; exact ⟨by kernel_rfl, by kernel_rfl⟩
  | k + 22, hk, _, _, _ => absurd hk (by omega)
theorem eff_turn : ∀ k : Nat, k = 3 ∨ k = 4 ∨ k = 5 ∨ k = 9 → effAll.atKey (.int .i64 (k : Nat)) (effD ([], [])) = effD ([], []) ∧ Go.Maps.has effAll (.int .i64 (k : Nat)) = false := by
  intro k hk
  rcases hk with rfl | rfl | rfl | rfl <;> exact ⟨by kernel_rfl, by kernel_rfl⟩

def BehPost (w : World) (r : List UInt8 × Int) (e : Ending) (w' : World) : Prop := e = .returned (.tuple #[.string (bsS r.1), .int .i64 r.2]) ∧ Below w.heap.size w w'
theorem trim_suf (s p : List UInt8) : (⟨(Lib.trimSuffix (bsS s).data.toList (bsS p).data.toList).toArray⟩ : ByteArray) = bsS (if p.isSuffixOf s then s.take (s.length - p.length) else s) := by
  show bsS (Lib.trimSuffix s p) = _
  unfold Lib.trimSuffix Lib.hasSuffix
  rfl
theorem word_empty (op : Int) : (bsS (wordF op)).toList.isEmpty = !(decide (0 ≤ op) && decide (op ≤ 21)) := by rw [bs_empty, wordF_ne]

theorem wf_small (k : Nat) (h : k ≤ 1000) : (Lit.int .i64 (k : Int)).wf = true := by
  have h1 : IntKind.i64.min = -9223372036854775808 := by decide
  have h2 : IntKind.i64.max = 9223372036854775807 := by decide
  simp [Lit.wf, h1, h2]; omega
theorem wrap_sum (a b : Nat) (h : a + b ≤ 1000000) : wrap64 ((a : Int) + b) = ((a + b : Nat) : Int) := by unfold wrap64; omega
theorem suf_len (t s : List UInt8) : t.isSuffixOf s = true → t.length ≤ s.length := fun h => (List.isSuffixOf_iff_suffix.1 h).length_le
theorem fix_len : ∀ k : Nat, k < 22 → ∀ t l, fixT k = some (t, l) → l.length ≤ 2
  | 0, _, _, _, h => by cases h; decide
  | 1, _, _, _, h => by cases h; decide
  | 2, _, _, _, h => by cases h; decide
  | 3, _, _, _, h => by cases h
  | 4, _, _, _, h => by cases h
  | 5, _, _, _, h => by cases h
  | 6, _, _, _, h => by cases h; decide
  | 7, _, _, _, h => by cases h; decide
  | 8, _, _, _, h => by cases h; decide
  | 9, _, _, _, h => by cases h
  | 10, _, _, _, h => by cases h; decide
  | 11, _, _, _, h => by cases h; decide
  | 12, _, _, _, h => by cases h; decide
  | 13, _, _, _, h => by cases h; decide
  | 14, _, _, _, h => by cases h; decide
  | 15, _, _, _, h => by cases h; decide
  | 16, _, _, _, h => by cases h; decide
  | 17, _, _, _, h => by cases h; decide
  | 18, _, _, _, h => by cases h; decide
  | 19, _, _, _, h => by cases h; decide
  | 20, _, _, _, h => by cases h; decide
  | 21, _, _, _, h => by cases h; decide
  | k + 22, hk, _, _, _ => absurd hk (by omega)
theorem cut_no (s t : List UInt8) (W : World) (hs : s.length ≤ 9223372036854775807) (h : t.isSuffixOf s = false) :
    Calls Tryd.prog 27 #[.string (bsS s), .string (bsS t)] W fun e w' => e = .returned (.tuple #[.string (bsS s), .bool false]) ∧ w' = W := by
  have H := strings_CutSuffix (bsS s) (bsS t) W (by rw [bs_size]; exact hs)
  rw [trim_suf, show Lib.hasSuffix (bsS s).data.toList (bsS t).data.toList = t.isSuffixOf s from rfl, h] at H
  exact H
theorem cut_yes (s t : List UInt8) (W : World) (hs : s.length ≤ 9223372036854775807) (h : t.isSuffixOf s = true) :
    Calls Tryd.prog 27 #[.string (bsS s), .string (bsS t)] W fun e w' => e = .returned (.tuple #[.string (bsS (s.take (s.length - t.length))), .bool true]) ∧ w' = W := by
  have H := strings_CutSuffix (bsS s) (bsS t) W (by rw [bs_size]; exact hs)
  rw [trim_suf, show Lib.hasSuffix (bsS s).data.toList (bsS t).data.toList = t.isSuffixOf s from rfl, h] at H
  exact H

set_option maxHeartbeats 4000000 in
theorem behind_wrong (s : List UInt8) (op : Int) (w : World) (hs : s.length ≤ 9223372036854775807) (h : Spw w w.heap.size) (hb : rightS s = false ∨ ¬ (0 ≤ op ∧ op ≤ 21)) :
    Calls Tryd.prog 7 #[.string (bsS s), .int .i64 op] w (BehPost w (behF s op)) := by
  have HF := Sl.mk (show behF s op = ([], 1) by unfold behF; rw [if_pos hb])
  have HR := Sl.mk (fun W => right_any s W hs)
  cases hr : rightS s
  · rw [hr] at HR
    clear hb hr h
    go_enter Tryd.func7, Tryd.ntmps7
    go_wp2_with (go_at_call 23; refine (HR.out _).mono ?_; rintro e w1 ⟨rfl, hb1⟩; have HB1 := Sl.mk hb1; clear hb1)
    go_ret2
    exact ⟨by rw [HF.out]; rfl, HB1.out⟩
  · rw [hr] at HR
    have HS := Sl.mk (fun (W : World) (hb : Below w.heap.size w W) => word_any op W (h.all hb))
    have HE := (word_empty op).trans (show (!(decide (0 ≤ op) && decide (op ≤ 21))) = true by
      rcases hb with hb | hb
      · rw [hr] at hb; cases hb
      · cases h0 : decide (0 ≤ op)
        · rfl
        · cases h1 : decide (op ≤ 21)
          · rfl
          · exact absurd ⟨of_decide_eq_true h0, of_decide_eq_true h1⟩ hb)
    clear hb hr h
    go_enter Tryd.func7, Tryd.ntmps7
    go_wp2_with (first
      | (go_at_call 23; refine (HR.out _).mono ?_; rintro e w1 ⟨rfl, hb1⟩; have HB1 := Sl.mk hb1; clear hb1)
      | (go_at_call 24; refine (HS.out _ HB1.out).mono ?_; rintro e w2 ⟨rfl, hb2⟩; have HB2 := Sl.mk (below_tr HB1.out hb2); clear hb2))
    go_ret2
    exact ⟨by rw [HF.out]; rfl, HB2.out⟩

set_option maxHeartbeats 4000000 in
theorem behind_fix (s : List UInt8) (k : Nat) (hk : k < 22) (t l : List UInt8) (hf : fixT k = some (t, l)) (w : World) (hr : rightS s = true) (h : Spw w w.heap.size) :
    Calls Tryd.prog 7 #[.string (bsS s), .int .i64 k] w (BehPost w (behF s k)) := by
  have hs : s.length ≤ 16 := by unfold rightS at hr; exact of_decide_eq_true (Bool.and_eq_true _ _ ▸ hr).1
  have HF := Sl.mk (show behF s k = (if t.isSuffixOf s then (if s.length - t.length + l.length ≤ 16 then (s.take (s.length - t.length) ++ l, 0) else ([], 6)) else ([], 16)) by
    unfold behF effF
    rw [if_neg (by rw [hr]; simp; omega), Int.toNat_natCast, hf])
  have HR := Sl.mk (fun W => right_any s W (by omega))
  rw [hr] at HR
  have HS := Sl.mk (fun (W : World) (hb : Below w.heap.size w W) => word_any k W (h.all hb))
  have HE : (bsS (wordF k)).toList.isEmpty = false := (word_empty k).trans (by simp; omega)
  have HL := Sl.mk (eff_fix k hk t l hf)
  have hwf : (Lit.int .i64 (k : Int)).wf = true := wf_small k (by omega)
  have hzl := suf_len t s
  cases hsf : t.isSuffixOf s
  · have HC := Sl.mk (fun W => cut_no s t W (by omega) hsf)
    rw [hsf, if_neg (by simp)] at HF
    clear hsf hzl hr h
    go_enter Tryd.func7, Tryd.ntmps7
    go_wp2_with (first
        | (go_at_call 23; refine (HR.out _).mono ?_; rintro e w1 ⟨rfl, hb1⟩; have HB1 := Sl.mk hb1; clear hb1)
        | (go_at_call 24; refine (HS.out _ HB1.out).mono ?_; rintro e w2 ⟨rfl, hb2⟩; have HB2 := Sl.mk (below_tr HB1.out hb2); clear hb2)
        | (go_at_call 25; refine (effects_any _).mono ?_; rintro e w3 ⟨rfl, hb3⟩; have HB3 := Sl.mk (below_tr HB2.out hb3.bel); have HE3 := Sl.mk hb3; clear hb3)
        | (refine wpList_look HE3.out rfl _ _ rfl rfl k rfl hwf t l true HL.out.1 HL.out.2 ?_)
        | (go_at_call 27; refine (HC.out _).mono ?_; rintro e w4 ⟨rfl, rfl⟩; have HB4 := Sl.mk (below_al HB3.out (.cells #[.string (bsS t), .string (bsS l)] 60))))
    go_ret2
    exact ⟨by rw [HF.out]; rfl, HB4.out⟩
  · have HC := Sl.mk (fun W => cut_yes s t W (by omega) hsf)
    rw [hsf, if_pos rfl] at HF
    have hpl : (s.take (s.length - t.length)).length = s.length - t.length := by rw [List.length_take]; omega
    obtain ⟨p, hp⟩ : ∃ p, p = s.take (s.length - t.length) := ⟨_, rfl⟩
    rw [← hp] at HC HF hpl
    have hl2 : l.length ≤ 2 := fix_len k hk t l hf
    have hq : (9223372036854775807 < (bsS p).size + (bsS l).size) = False := eq_false (by rw [bs_size, bs_size]; omega)
    have hw : wrap64 (((bsS p).size : Int) + (bsS l).size) = ((p.length + l.length : Nat) : Int) := by rw [bs_size, bs_size]; exact wrap_sum _ _ (by omega)
    rw [← hpl] at HF
    clear hsf hzl hr h hp hpl
    by_cases h16 : p.length + l.length ≤ 16
    · rw [if_pos h16] at HF
      have hd : (16 < wrap64 (((bsS p).size : Int) + (bsS l).size)) = False := eq_false (by rw [hw]; omega)
      have HA := Sl.mk (bs_app p l)
      clear h16 hw
      go_enter Tryd.func7, Tryd.ntmps7
      go_wp2_with (first
        | (go_at_call 23; refine (HR.out _).mono ?_; rintro e w1 ⟨rfl, hb1⟩; have HB1 := Sl.mk hb1; clear hb1)
        | (go_at_call 24; refine (HS.out _ HB1.out).mono ?_; rintro e w2 ⟨rfl, hb2⟩; have HB2 := Sl.mk (below_tr HB1.out hb2); clear hb2)
        | (go_at_call 25; refine (effects_any _).mono ?_; rintro e w3 ⟨rfl, hb3⟩; have HB3 := Sl.mk (below_tr HB2.out hb3.bel); have HE3 := Sl.mk hb3; clear hb3)
        | (refine wpList_look HE3.out rfl _ _ rfl rfl k rfl hwf t l true HL.out.1 HL.out.2 ?_)
        | (go_at_call 27; refine (HC.out _).mono ?_; rintro e w4 ⟨rfl, rfl⟩; have HB4 := Sl.mk (below_al HB3.out (.cells #[.string (bsS t), .string (bsS l)] 60))))
      go_ret2
      exact ⟨by rw [HF.out, ← HA.out]; rfl, HB4.out⟩
    · rw [if_neg h16] at HF
      have hd : (16 < wrap64 (((bsS p).size : Int) + (bsS l).size)) = True := eq_true (by rw [hw]; omega)
      clear h16 hw
      go_enter Tryd.func7, Tryd.ntmps7
      go_wp2_with (first
        | (go_at_call 23; refine (HR.out _).mono ?_; rintro e w1 ⟨rfl, hb1⟩; have HB1 := Sl.mk hb1; clear hb1)
        | (go_at_call 24; refine (HS.out _ HB1.out).mono ?_; rintro e w2 ⟨rfl, hb2⟩; have HB2 := Sl.mk (below_tr HB1.out hb2); clear hb2)
        | (go_at_call 25; refine (effects_any _).mono ?_; rintro e w3 ⟨rfl, hb3⟩; have HB3 := Sl.mk (below_tr HB2.out hb3.bel); have HE3 := Sl.mk hb3; clear hb3)
        | (refine wpList_look HE3.out rfl _ _ rfl rfl k rfl hwf t l true HL.out.1 HL.out.2 ?_)
        | (go_at_call 27; refine (HC.out _).mono ?_; rintro e w4 ⟨rfl, rfl⟩; have HB4 := Sl.mk (below_al HB3.out (.cells #[.string (bsS t), .string (bsS l)] 60))))
      go_ret2
      exact ⟨by rw [HF.out]; rfl, HB4.out⟩
theorem turn_none (k : Nat) (hk : k = 3 ∨ k = 4 ∨ k = 5 ∨ k = 9) : fixT k = none := by rcases hk with rfl | rfl | rfl | rfl <;> rfl
theorem turn_len (s : List UInt8) (k : Nat) (t l : List UInt8) (h : turnF s k = some (t, l)) : l.length ≤ 2 := by
  have h1 : ∀ n, n ≤ 2 → (lastN s n).length ≤ n := fun n _ => by unfold lastN; rw [List.length_drop]; omega
  have a1 := h1 1 (by omega)
  have a2 := h1 2 (by omega)
  unfold turnF at h
  split at h
  · split at h
    · cases h; simp
    · cases h
  · split at h
    · split at h
      · cases h; rw [List.length_append]; omega
      · cases h
    · split at h
      · split at h
        · cases h; rw [List.length_reverse]; omega
        · cases h
      · split at h
        · cases h; simp
        · cases h

set_option maxHeartbeats 4000000 in
theorem behind_turn (s : List UInt8) (k : Nat) (hk : k = 3 ∨ k = 4 ∨ k = 5 ∨ k = 9) (t l : List UInt8) (hf : turnF s k = some (t, l)) (w : World) (hr : rightS s = true) (h : Spw w w.heap.size) :
    Calls Tryd.prog 7 #[.string (bsS s), .int .i64 k] w (BehPost w (behF s k)) := by
  have hs : s.length ≤ 16 := by unfold rightS at hr; exact of_decide_eq_true (Bool.and_eq_true _ _ ▸ hr).1
  have HF := Sl.mk (show behF s k = (if t.isSuffixOf s then (if s.length - t.length + l.length ≤ 16 then (s.take (s.length - t.length) ++ l, 0) else ([], 6)) else ([], 16)) by
    unfold behF effF
    rw [if_neg (by rw [hr]; simp; omega), Int.toNat_natCast, turn_none k hk]; simp only; rw [hf])
  have HR := Sl.mk (fun W => right_any s W (by omega))
  rw [hr] at HR
  have HS := Sl.mk (fun (W : World) (hb : Below w.heap.size w W) => word_any k W (h.all hb))
  have HE : (bsS (wordF k)).toList.isEmpty = false := (word_empty k).trans (by simp; omega)
  have HL := Sl.mk (eff_turn k hk)
  have HT := Sl.mk (fun W => hf ▸ turned_any s k hk W hs (by unfold rightS at hr; exact (Bool.and_eq_true _ _ ▸ hr).2))
  have hwf : (Lit.int .i64 (k : Int)).wf = true := wf_small k (by omega)
  have hzl := suf_len t s
  cases hsf : t.isSuffixOf s
  · have HC := Sl.mk (fun W => cut_no s t W (by omega) hsf)
    rw [hsf, if_neg (by simp)] at HF
    clear hsf hzl hr h
    go_enter Tryd.func7, Tryd.ntmps7
    go_wp2_with (first
        | (go_at_call 23; refine (HR.out _).mono ?_; rintro e w1 ⟨rfl, hb1⟩; have HB1 := Sl.mk hb1; clear hb1)
        | (go_at_call 24; refine (HS.out _ HB1.out).mono ?_; rintro e w2 ⟨rfl, hb2⟩; have HB2 := Sl.mk (below_tr HB1.out hb2); clear hb2)
        | (go_at_call 25; refine (effects_any _).mono ?_; rintro e w3 ⟨rfl, hb3⟩; have HB3 := Sl.mk (below_tr HB2.out hb3.bel); have HE3 := Sl.mk hb3; clear hb3)
        | (refine wpList_look HE3.out rfl _ _ rfl rfl k rfl hwf [] [] false HL.out.1 HL.out.2 ?_)
        | (go_at_call 26; refine (HT.out _).mono ?_; rintro e w5 ⟨hb5, rfl⟩; have HB5 := Sl.mk (below_tr (below_al HB3.out (.cells #[.string (bsS []), .string (bsS [])] 60)) hb5); have HX5 := Sl.mk ((Blk.new w3 60 #[.string (bsS []), .string (bsS [])]).be hb5); have c0 := HX5.out.cell 0; have c1 := HX5.out.cell 1; have f0 := HX5.out.frozen 0; have f1 := HX5.out.frozen 1; clear hb5)
        | (go_at_call 27; refine (HC.out _).mono ?_; rintro e w4 ⟨rfl, rfl⟩; have HB4 := Sl.mk ((HB5.out.setCell (p := ⟨w3.heap.size, 0, none⟩) HB3.out.size (.string (bsS t))).setCell (p := ⟨w3.heap.size, 1, none⟩) HB3.out.size (.string (bsS l)))))
    go_ret2
    exact ⟨by rw [HF.out]; rfl, HB4.out⟩
  · have HC := Sl.mk (fun W => cut_yes s t W (by omega) hsf)
    rw [hsf, if_pos rfl] at HF
    have hpl : (s.take (s.length - t.length)).length = s.length - t.length := by rw [List.length_take]; omega
    obtain ⟨p, hp⟩ : ∃ p, p = s.take (s.length - t.length) := ⟨_, rfl⟩
    rw [← hp] at HC HF hpl
    have hl2 : l.length ≤ 2 := turn_len s k t l hf
    have hq : (9223372036854775807 < (bsS p).size + (bsS l).size) = False := eq_false (by rw [bs_size, bs_size]; omega)
    have hw : wrap64 (((bsS p).size : Int) + (bsS l).size) = ((p.length + l.length : Nat) : Int) := by rw [bs_size, bs_size]; exact wrap_sum _ _ (by omega)
    rw [← hpl] at HF
    clear hsf hzl hr h hp hpl
    by_cases h16 : p.length + l.length ≤ 16
    · rw [if_pos h16] at HF
      have hd : (16 < wrap64 (((bsS p).size : Int) + (bsS l).size)) = False := eq_false (by rw [hw]; omega)
      have HA := Sl.mk (bs_app p l)
      clear h16 hw
      go_enter Tryd.func7, Tryd.ntmps7
      go_wp2_with (first
        | (go_at_call 23; refine (HR.out _).mono ?_; rintro e w1 ⟨rfl, hb1⟩; have HB1 := Sl.mk hb1; clear hb1)
        | (go_at_call 24; refine (HS.out _ HB1.out).mono ?_; rintro e w2 ⟨rfl, hb2⟩; have HB2 := Sl.mk (below_tr HB1.out hb2); clear hb2)
        | (go_at_call 25; refine (effects_any _).mono ?_; rintro e w3 ⟨rfl, hb3⟩; have HB3 := Sl.mk (below_tr HB2.out hb3.bel); have HE3 := Sl.mk hb3; clear hb3)
        | (refine wpList_look HE3.out rfl _ _ rfl rfl k rfl hwf [] [] false HL.out.1 HL.out.2 ?_)
        | (go_at_call 26; refine (HT.out _).mono ?_; rintro e w5 ⟨hb5, rfl⟩; have HB5 := Sl.mk (below_tr (below_al HB3.out (.cells #[.string (bsS []), .string (bsS [])] 60)) hb5); have HX5 := Sl.mk ((Blk.new w3 60 #[.string (bsS []), .string (bsS [])]).be hb5); have c0 := HX5.out.cell 0; have c1 := HX5.out.cell 1; have f0 := HX5.out.frozen 0; have f1 := HX5.out.frozen 1; clear hb5)
        | (go_at_call 27; refine (HC.out _).mono ?_; rintro e w4 ⟨rfl, rfl⟩; have HB4 := Sl.mk ((HB5.out.setCell (p := ⟨w3.heap.size, 0, none⟩) HB3.out.size (.string (bsS t))).setCell (p := ⟨w3.heap.size, 1, none⟩) HB3.out.size (.string (bsS l)))))
      go_ret2
      exact ⟨by rw [HF.out, ← HA.out]; rfl, HB4.out⟩
    · rw [if_neg h16] at HF
      have hd : (16 < wrap64 (((bsS p).size : Int) + (bsS l).size)) = True := eq_true (by rw [hw]; omega)
      clear h16 hw
      go_enter Tryd.func7, Tryd.ntmps7
      go_wp2_with (first
        | (go_at_call 23; refine (HR.out _).mono ?_; rintro e w1 ⟨rfl, hb1⟩; have HB1 := Sl.mk hb1; clear hb1)
        | (go_at_call 24; refine (HS.out _ HB1.out).mono ?_; rintro e w2 ⟨rfl, hb2⟩; have HB2 := Sl.mk (below_tr HB1.out hb2); clear hb2)
        | (go_at_call 25; refine (effects_any _).mono ?_; rintro e w3 ⟨rfl, hb3⟩; have HB3 := Sl.mk (below_tr HB2.out hb3.bel); have HE3 := Sl.mk hb3; clear hb3)
        | (refine wpList_look HE3.out rfl _ _ rfl rfl k rfl hwf [] [] false HL.out.1 HL.out.2 ?_)
        | (go_at_call 26; refine (HT.out _).mono ?_; rintro e w5 ⟨hb5, rfl⟩; have HB5 := Sl.mk (below_tr (below_al HB3.out (.cells #[.string (bsS []), .string (bsS [])] 60)) hb5); have HX5 := Sl.mk ((Blk.new w3 60 #[.string (bsS []), .string (bsS [])]).be hb5); have c0 := HX5.out.cell 0; have c1 := HX5.out.cell 1; have f0 := HX5.out.frozen 0; have f1 := HX5.out.frozen 1; clear hb5)
        | (go_at_call 27; refine (HC.out _).mono ?_; rintro e w4 ⟨rfl, rfl⟩; have HB4 := Sl.mk ((HB5.out.setCell (p := ⟨w3.heap.size, 0, none⟩) HB3.out.size (.string (bsS t))).setCell (p := ⟨w3.heap.size, 1, none⟩) HB3.out.size (.string (bsS l)))))
      go_ret2
      exact ⟨by rw [HF.out]; rfl, HB4.out⟩
set_option maxHeartbeats 4000000 in
theorem behind_none (s : List UInt8) (k : Nat) (hk : k = 3 ∨ k = 4 ∨ k = 5 ∨ k = 9) (hf : turnF s k = none) (w : World) (hr : rightS s = true) (h : Spw w w.heap.size) :
    Calls Tryd.prog 7 #[.string (bsS s), .int .i64 k] w (BehPost w (behF s k)) := by
  have hs : s.length ≤ 16 := by unfold rightS at hr; exact of_decide_eq_true (Bool.and_eq_true _ _ ▸ hr).1
  have HF := Sl.mk (show behF s k = ([], 16) by
    unfold behF effF
    rw [if_neg (by rw [hr]; simp; omega), Int.toNat_natCast, turn_none k hk]; simp only; rw [hf])
  have HR := Sl.mk (fun W => right_any s W (by omega))
  rw [hr] at HR
  have HS := Sl.mk (fun (W : World) (hb : Below w.heap.size w W) => word_any k W (h.all hb))
  have HE : (bsS (wordF k)).toList.isEmpty = false := (word_empty k).trans (by simp; omega)
  have HL := Sl.mk (eff_turn k hk)
  have HT := Sl.mk (fun W => hf ▸ turned_any s k hk W hs (by unfold rightS at hr; exact (Bool.and_eq_true _ _ ▸ hr).2))
  have hwf : (Lit.int .i64 (k : Int)).wf = true := wf_small k (by omega)
  have HC := Sl.mk (fun (p : ByteArray) W => strings_CutSuffix (bsS s) p W (by rw [bs_size]; omega))
  clear hr h
  go_enter Tryd.func7, Tryd.ntmps7
  go_wp2_with (first
        | (go_at_call 23; refine (HR.out _).mono ?_; rintro e w1 ⟨rfl, hb1⟩; have HB1 := Sl.mk hb1; clear hb1)
        | (go_at_call 24; refine (HS.out _ HB1.out).mono ?_; rintro e w2 ⟨rfl, hb2⟩; have HB2 := Sl.mk (below_tr HB1.out hb2); clear hb2)
        | (go_at_call 25; refine (effects_any _).mono ?_; rintro e w3 ⟨rfl, hb3⟩; have HB3 := Sl.mk (below_tr HB2.out hb3.bel); have HE3 := Sl.mk hb3; clear hb3)
        | (refine wpList_look HE3.out rfl _ _ rfl rfl k rfl hwf [] [] false HL.out.1 HL.out.2 ?_)
        | (go_at_call 26; refine (HT.out _).mono ?_; rintro e w5 ⟨hb5, ta, la, rfl⟩; have HB5 := Sl.mk (below_tr (below_al HB3.out (.cells #[.string (bsS []), .string (bsS [])] 60)) hb5); have HX5 := Sl.mk ((Blk.new w3 60 #[.string (bsS []), .string (bsS [])]).be hb5); have c0 := HX5.out.cell 0; have c1 := HX5.out.cell 1; have f0 := HX5.out.frozen 0; have f1 := HX5.out.frozen 1; clear hb5)
        | (go_at_call 27; refine (HC.out _ _).mono ?_; rintro e w4 ⟨rfl, rfl⟩; have HB4 := Sl.mk ((HB5.out.setCell (p := ⟨w3.heap.size, 0, none⟩) HB3.out.size (.string ta)).setCell (p := ⟨w3.heap.size, 1, none⟩) HB3.out.size (.string la))))
  go_ret2
  exact ⟨by rw [HF.out]; rfl, HB4.out⟩

theorem behind_any (s : List UInt8) (op : Int) (w : World) (hs : s.length ≤ 9223372036854775807) (h : Spw w w.heap.size) :
    Calls Tryd.prog 7 #[.string (bsS s), .int .i64 op] w (BehPost w (behF s op)) := by
  by_cases hb : rightS s = false ∨ ¬ (0 ≤ op ∧ op ≤ 21)
  · exact behind_wrong s op w hs h hb
  · have hr : rightS s = true := by cases e : rightS s; exact absurd (Or.inl e) hb; rfl
    have ho : 0 ≤ op ∧ op ≤ 21 := Decidable.byContradiction fun e => hb (Or.inr e)
    obtain ⟨k, rfl⟩ : ∃ k : Nat, op = k := ⟨op.toNat, by omega⟩
    cases hf : fixT k
    · have hk : k = 3 ∨ k = 4 ∨ k = 5 ∨ k = 9 := by
        have : ∀ k, k < 22 → fixT k = none → k = 3 ∨ k = 4 ∨ k = 5 ∨ k = 9 := by decide
        exact this k (by omega) hf
      cases ht : turnF s k
      · exact behind_none s k hk ht w hr h
      · rename_i e
        exact behind_turn s k hk e.1 e.2 ht w hr h
    · rename_i e
      exact behind_fix s k (by omega) e.1 e.2 hf w hr h
end Go.Proofs.YtliealcdiogilaaDoor
