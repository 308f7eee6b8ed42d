/-
  The contracts of code's reversed and turned.
-/
import Derived.Test.YtliealcdiogilaaDoorCoB
import Derived.Test.YtliealcdiogilaaDoorWordsV
import Derived.Test.YtliealcdiogilaaDoorWordsW
namespace Go.Proofs.YtliealcdiogilaaDoor
open Go.RowKit Go.Sort
attribute [local go_sem ↓] Go.wp_at_zero Go.wp_at_succ

theorem chars2 (a b : UInt8) : Lib.charsB (bsS [a, b]) = [bsS [a], bsS [b]] := by
  show [(bsS [a, b]).extract 0 1, (bsS [a, b]).extract 1 2] = _
  rw [bs_cut, bs_cut]; rfl
theorem ascii2 {a b : UInt8} (ha : a.toNat < 128) (hb : b.toNat < 128) : ∀ (j : Nat) c, (bsS [a, b]).data.toList[j]? = some c → c.toNat < 128 := fun j c h => by
  have := List.mem_of_getElem? h
  simp only [bsS, List.mem_cons, List.not_mem_nil, or_false] at this
  rcases this with rfl | rfl <;> assumption

set_option maxHeartbeats 1000000 in
theorem rev2_any (a b : UInt8) (ha : a.toNat < 128) (hb : b.toNat < 128) (w : World) :
    Calls Tryd.prog 40 #[.string (bsS [a, b])] w fun e w' => ∃ B, e = .returned (.slice (some ⟨B, 0, none⟩) 2 2) ∧ w.heap.size ≤ B ∧ B < w'.heap.size ∧ w'.cell? ⟨B, 0, none⟩ = some (.string (bsS [b])) ∧ w'.cell? ⟨B, 1, none⟩ = some (.string (bsS [a])) ∧ Below w.heap.size w w' := by
  have HS := Sl.mk (strings_Split_chars (bsS [a, b]) ⟨#[]⟩ w rfl (by rw [bs_size, List.length_cons, List.length_cons, List.length_nil]; decide) (ascii2 ha hb))
  rw [chars2, show (bsS [a, b]).size = 2 from rfl] at HS
  obtain ⟨wv, hwv⟩ : ∃ wv, wv = w.iter (bsS [a, b]) 2 := ⟨_, rfl⟩
  have hbv : Below w.heap.size w wv := by rw [hwv]; exact below_al (Below.refl w.heap.size w) _
  rw [← hwv] at HS
  obtain ⟨w1, hw1⟩ : ∃ w1, w1 = wv.alloc (.cells (([bsS [a], bsS [b]] : List ByteArray).map Value.string).toArray 9) := ⟨_, rfl⟩
  have hb1 : Below w.heap.size w w1 := by rw [hw1]; exact below_al hbv _
  rw [← hw1] at HS
  have HC := Sl.mk (slices_Reverse_string_cells wv.heap.size 0 2 2 (fun i => if i = 0 then bsS [a] else bsS [b]) w1 (by decide)
    (fun i hi => by
      rw [hw1]
      rcases (show i = 0 ∨ i = 1 by omega) with rfl | rfl <;> simp)
    (fun j hj => by rw [hw1]; simp))
  have hE : List.map encStr (Lib.strsOf (fun i => if i = 0 then bsS [a] else bsS [b]) 2).reverse = [.string (bsS [b]), .string (bsS [a])] := rfl
  rw [hE] at HC
  have hX : Blk w1 wv.heap.size 9 #[.string (bsS [a]), .string (bsS [b])] := by rw [hw1]; exact Blk.new wv 9 _
  have hP : ∀ q, Blk ((w1.drewN q).setCells wv.heap.size 0 [.string (bsS [b]), .string (bsS [a])]) wv.heap.size 9 #[.string (bsS [b]), .string (bsS [a])] ∧ Below w.heap.size w ((w1.drewN q).setCells wv.heap.size 0 [.string (bsS [b]), .string (bsS [a])]) := fun q =>
    ⟨((hX.drewN q).set_ 0 _).set_ 1 _, ((below_drN hb1 q).setCell (hbv.size) _).setCell (hbv.size) _⟩
  have HP := Sl.mk hP
  have HV := Sl.mk hbv.size
  clear hP hX hE hw1 hb1 hbv hwv
  go_enter Tryd.func40, Tryd.ntmps40
  go_wp2_with (first
    | (go_at_call 64; refine HS.out.mono ?_; rintro e w2 ⟨rfl, rfl⟩)
    | (go_at_call 65; refine HC.out.mono ?_; rintro e w2 ⟨rfl, q, rfl⟩))
  go_ret
  exact ⟨_, rfl, HV.out, (HP.out q).1.lt, by rw [(HP.out q).1.cell]; rfl, by rw [(HP.out q).1.cell]; rfl, (HP.out q).2⟩

set_option maxHeartbeats 1000000 in
theorem rev0_any (w : World) :
    Calls Tryd.prog 40 #[.string (bsS [])] w fun e w' => ∃ B, e = .returned (.slice (some ⟨B, 0, none⟩) 0 0) ∧ Below w.heap.size w w' := by
  have HS := Sl.mk (strings_Split_chars (bsS []) ⟨#[]⟩ w rfl (by decide) (fun j c h => by simp [bsS] at h))
  rw [show (bsS []).size = 0 from rfl] at HS
  obtain ⟨wv, hwv⟩ : ∃ wv, wv = w.iter (bsS []) 0 := ⟨_, rfl⟩
  have hbv : Below w.heap.size w wv := by rw [hwv]; exact below_al (Below.refl w.heap.size w) _
  rw [← hwv] at HS
  obtain ⟨w1, hw1⟩ : ∃ w1, w1 = wv.alloc (.cells ((Lib.charsB (bsS [])).map Value.string).toArray 9) := ⟨_, rfl⟩
  have hb1 := Sl.mk (show Below w.heap.size w w1 by rw [hw1]; exact below_al hbv _)
  rw [← hw1] at HS
  clear hw1 hbv hwv
  go_enter Tryd.func40, Tryd.ntmps40
  go_wp2_with (first
    | (go_at_call 64; refine HS.out.mono ?_; rintro e w2 ⟨rfl, rfl⟩)
    | (go_at_call 65; refine (slices_Reverse_string_empty _ _ _).mono ?_; rintro e w2 ⟨rfl, rfl⟩))
  go_ret
  exact ⟨_, rfl, hb1.out⟩

theorem cells2 {w : World} {B : Nat} {x y : ByteArray} (h0 : w.cell? ⟨B, 0, none⟩ = some (.string x)) (h1 : w.cell? ⟨B, 1, none⟩ = some (.string y)) : ∀ (j : Nat) z, [x, y][j]? = some z → w.cell? ⟨B, 0 + j, none⟩ = some (.string z)
  | 0, z, hz => by simp at hz; subst hz; exact h0
  | 1, z, hz => by simp at hz; subst hz; exact h1
  | j + 2, z, hz => by simp at hz
theorem join2_any (a b : UInt8) (B : Nat) (W : World) (hB : B < W.heap.size) (h0 : W.cell? ⟨B, 0, none⟩ = some (.string (bsS [b]))) (h1 : W.cell? ⟨B, 1, none⟩ = some (.string (bsS [a]))) :
    Calls Tryd.prog 39 #[.slice (some ⟨B, 0, none⟩) 2 2, .string ⟨#[]⟩] W fun e w' => e = .returned (.string (bsS [b, a])) ∧ Below W.heap.size W w' :=
  strings_Join B 0 2 [bsS [b], bsS [a]] ⟨#[]⟩ W (cells2 h0 h1) hB (by simp) (by simp) (by simp [Lib.join, bsS])
/-- The two letters on the top. -/
theorem last_two {l : List UInt8} (h : 2 ≤ l.length) : ∃ a b, lastN l 2 = [a, b] := by
  have hl : (lastN l 2).length = 2 := by unfold lastN; simp; omega
  match hq : lastN l 2, hl with
  | [a, b], _ => exact ⟨a, b, rfl⟩
def TurnPost (w : World) (T : Option (List UInt8 × List UInt8)) (e : Ending) (w' : World) : Prop :=
  Below w.heap.size w w' ∧ match T with
    | none => ∃ a b : ByteArray, e = .returned (.tuple #[.agg #[.string a, .string b], .bool false])
    | some (t, r) => e = .returned (.tuple #[.agg #[.string (bsS t), .string (bsS r)], .bool true])
theorem infoEff : (Tryd.prog.info? 60).map (·.size) = some 2 := by kernel_rfl
theorem turn_no {w w' : World} {a b : ByteArray} {act : Act} (hb : Below w.heap.size w w') (hB : Blk w' w.heap.size 60 #[.string a, .string b]) (hp : act.tmps.getD 4 undef = .pointer (some ⟨w.heap.size, 0, none⟩)) (hv : act.tmps.getD 5 undef = .bool false) (hd : act.defers = []) :
    bodyPost Tryd.prog Tryd.f26 (TurnPost w none) .ret act w' :=
  bodyPost_ret (v := .tuple #[.agg #[.string a, .string b], .bool false]) (res_cell_tmp Tryd.results26 _ _ _ hp hB Tryd.underlying60 (by rw [infoEff]; rfl) hv) hd ⟨hb, a, b, rfl⟩
theorem turn_yes {w w' : World} {a b : List UInt8} {act : Act} (hb : Below w.heap.size w w') (hB : Blk w' w.heap.size 60 #[.string (bsS a), .string (bsS b)]) (hp : act.tmps.getD 4 undef = .pointer (some ⟨w.heap.size, 0, none⟩)) (hv : act.tmps.getD 5 undef = .bool true) (hd : act.defers = []) :
    bodyPost Tryd.prog Tryd.f26 (TurnPost w (some (a, b))) .ret act w' :=
  bodyPost_ret (v := .tuple #[.agg #[.string (bsS a), .string (bsS b)], .bool true]) (res_cell_tmp Tryd.results26 _ _ _ hp hB Tryd.underlying60 (by rw [infoEff]; rfl) hv) hd ⟨hb, rfl⟩

theorem nt_small {c : UInt8} (h : ntB c = true) : c.toNat < 128 := by
  simp only [ntB, Bool.or_eq_true, beq_iff_eq] at h
  rcases h with rfl | rfl <;> decide

set_option maxHeartbeats 4000000 in
theorem turned_drop (l : List UInt8) (w : World) (hs : l.length ≤ 16) :
    Calls Tryd.prog 26 #[.string (bsS l), .int .i64 3] w (TurnPost w (turnF l 3)) := by
  have HT := Sl.mk (fun W => top_any l 1 W (by omega))
  by_cases h : 1 ≤ l.length
  · rw [if_pos h, decide_eq_true h] at HT
    have hT := Sl.mk (show turnF l 3 = some (lastN l 1, []) by unfold turnF; rw [if_pos rfl, if_pos h])
    have hA := Sl.mk (bs_app (lastN l 1) (lastN l 1))
    have hq : (9223372036854775807 < (bsS (lastN l 1)).size + (bsS (lastN l 1)).size) = False := eq_false (by rw [bs_size]; unfold lastN; rw [List.length_drop]; omega)
    have HB := Sl.mk (fun o => below_al (Below.refl w.heap.size w) o)
    clear h
    go_enter Tryd.func26, Tryd.ntmps26
    go_wp2_with (go_at_call 38; refine (HT.out _).mono ?_; rintro e w2 ⟨rfl, rfl⟩)
    rw [hT.out]
    exact turn_yes (HB.out _) (Blk.new w 60 _) rfl rfl rfl
  · rw [if_neg h, decide_eq_false h] at HT
    have hT := Sl.mk (show turnF l 3 = none by unfold turnF; rw [if_pos rfl, if_neg h])
    have HB := Sl.mk (fun (W : World) (o : Obj) (h : Below w.heap.size w W) => below_al h o)
    have H0 := Sl.mk (Below.refl w.heap.size w)
    clear h
    go_enter Tryd.func26, Tryd.ntmps26
    go_wp2_with (go_at_call 38; refine (HT.out _).mono ?_; rintro e w2 ⟨rfl, rfl⟩)
    rw [hT.out]
    exact turn_no (HB.out _ _ H0.out) (Blk.new w 60 _) rfl rfl rfl

set_option maxHeartbeats 4000000 in
theorem turned_copy (l : List UInt8) (w : World) (hs : l.length ≤ 16) :
    Calls Tryd.prog 26 #[.string (bsS l), .int .i64 4] w (TurnPost w (turnF l 4)) := by
  have HT := Sl.mk (fun W => top_any l 1 W (by omega))
  by_cases h : 1 ≤ l.length
  · rw [if_pos h, decide_eq_true h] at HT
    have hT := Sl.mk (show turnF l 4 = some (lastN l 1, lastN l 1 ++ lastN l 1) by unfold turnF; rw [if_neg (by decide), if_pos rfl, if_pos h])
    have hA := Sl.mk (bs_app (lastN l 1) (lastN l 1))
    have hq : (9223372036854775807 < (bsS (lastN l 1)).size + (bsS (lastN l 1)).size) = False := eq_false (by rw [bs_size]; unfold lastN; rw [List.length_drop]; omega)
    have HB := Sl.mk (fun o => below_al (Below.refl w.heap.size w) o)
    clear h
    go_enter Tryd.func26, Tryd.ntmps26
    go_wp2_with (go_at_call 38; refine (HT.out _).mono ?_; rintro e w2 ⟨rfl, rfl⟩)
    rw [hT.out, hA.out]
    exact turn_yes (HB.out _) (Blk.new w 60 _) rfl rfl rfl
  · rw [if_neg h, decide_eq_false h] at HT
    have hT := Sl.mk (show turnF l 4 = none by unfold turnF; rw [if_neg (by decide), if_pos rfl, if_neg h])
    have HB := Sl.mk (fun (W : World) (o : Obj) (h : Below w.heap.size w W) => below_al h o)
    have H0 := Sl.mk (Below.refl w.heap.size w)
    clear h
    go_enter Tryd.func26, Tryd.ntmps26
    go_wp2_with (go_at_call 38; refine (HT.out _).mono ?_; rintro e w2 ⟨rfl, rfl⟩)
    rw [hT.out]
    exact turn_no (HB.out _ _ H0.out) (Blk.new w 60 _) rfl rfl rfl

set_option maxHeartbeats 4000000 in
theorem turned_swap (l : List UInt8) (w : World) (hs : l.length ≤ 16) (hn : l.all ntB = true) :
    Calls Tryd.prog 26 #[.string (bsS l), .int .i64 5] w (TurnPost w (turnF l 5)) := by
  have HT := Sl.mk (fun W => top_any l 2 W (by omega))
  by_cases h : 2 ≤ l.length
  · rw [if_pos h, decide_eq_true h] at HT
    obtain ⟨a, b, hab⟩ := last_two h
    have hab' : ntB a = true ∧ ntB b = true := by
      have h1 : ∀ x ∈ lastN l 2, ntB x = true := fun x hx => List.all_eq_true.1 hn x (List.mem_of_mem_drop hx)
      rw [hab] at h1
      exact ⟨h1 a (by simp), h1 b (by simp)⟩
    have ha := nt_small hab'.1
    have hb := nt_small hab'.2
    have hT := Sl.mk (show turnF l 5 = some ([a, b], [b, a]) by unfold turnF; rw [if_neg (by decide), if_neg (by decide), if_pos rfl, if_pos h, hab]; rfl)
    rw [hab] at HT
    clear h hab hab' hn
    have HR := Sl.mk (fun W => rev2_any a b ha hb W)
    have HB := Sl.mk (fun (W : World) (o : Obj) (h : Below w.heap.size w W) => below_al h o)
    have H0 := Sl.mk (Below.refl w.heap.size w)
    clear ha hb
    go_enter Tryd.func26, Tryd.ntmps26
    go_wp2_with (first
      | (go_at_call 38; refine (HT.out _).mono ?_; rintro e w2 ⟨rfl, rfl⟩)
      | (go_at_call 40; refine (HR.out _).mono ?_; rintro e w2 ⟨B, rfl, hB0, hB1, hc0, hc1, hbl⟩; have HF := Sl.mk (And.intro hB0 (And.intro hB1 (And.intro hc0 (And.intro hc1 hbl)))); clear hB0 hB1 hc0 hc1 hbl)
      | (go_at_call 39; refine (join2_any a b B _ HF.out.2.1 HF.out.2.2.1 HF.out.2.2.2.1).mono ?_; rintro e w3 ⟨rfl, hb3⟩; have HX := Sl.mk (((Blk.new w 60 #[.string ⟨#[]⟩, .string ⟨#[]⟩]).be HF.out.2.2.2.2).be hb3); have c0 := HX.out.cell 0; have c1 := HX.out.cell 1; have f0 := HX.out.frozen 0; have f1 := HX.out.frozen 1; have HL := Sl.mk ((HB.out w (.cells #[.string ⟨#[]⟩, .string ⟨#[]⟩] 60) H0.out).trans ((HF.out.2.2.2.2.mono (by simp)).trans (hb3.mono (by have := HF.out.2.2.2.2.size; simp at this; omega)))); clear hb3))
    rw [hT.out]
    exact turn_yes ((HL.out.setCell (Nat.le_refl _) _).setCell (Nat.le_refl _) _) ((HX.out.set_ 0 _).set_ 1 _) rfl rfl rfl
  · rw [if_neg h, decide_eq_false h] at HT
    have hT := Sl.mk (show turnF l 5 = none by unfold turnF; rw [if_neg (by decide), if_neg (by decide), if_pos rfl, if_neg h])
    have HB := Sl.mk (fun (W : World) (o : Obj) (h : Below w.heap.size w W) => below_al h o)
    have H0 := Sl.mk (Below.refl w.heap.size w)
    clear h
    go_enter Tryd.func26, Tryd.ntmps26
    go_wp2_with (first
      | (go_at_call 38; refine (HT.out _).mono ?_; rintro e w2 ⟨rfl, rfl⟩)
      | (go_at_call 40; refine (rev0_any _).mono ?_; rintro e w2 ⟨B, rfl, hbl⟩; have HF := Sl.mk hbl; clear hbl)
      | (go_at_call 39; refine (strings_Join_none _ _ _ _).mono ?_; rintro e w3 ⟨rfl, rfl⟩; have HX := Sl.mk ((Blk.new w 60 #[.string ⟨#[]⟩, .string ⟨#[]⟩]).be HF.out); have c0 := HX.out.cell 0; have c1 := HX.out.cell 1; have f0 := HX.out.frozen 0; have f1 := HX.out.frozen 1; have HL := Sl.mk ((HB.out w (.cells #[.string ⟨#[]⟩, .string ⟨#[]⟩] 60) H0.out).trans (HF.out.mono (by simp)))))
    rw [hT.out]
    exact turn_no ((HL.out.setCell (Nat.le_refl _) _).setCell (Nat.le_refl _) _) ((HX.out.set_ 0 _).set_ 1 _) rfl rfl rfl

set_option maxHeartbeats 4000000 in
theorem turned_same (l : List UInt8) (w : World) (hs : l.length ≤ 16) :
    Calls Tryd.prog 26 #[.string (bsS l), .int .i64 9] w (TurnPost w (turnF l 9)) := by
  have HT := Sl.mk (fun W => top_any l 2 W (by omega))
  by_cases h : 2 ≤ l.length
  · rw [if_pos h, decide_eq_true h] at HT
    obtain ⟨a, b, hab⟩ := last_two h
    have hT := Sl.mk (show turnF l 9 = if a = b then some ([a, b], [110]) else none by
      unfold turnF; rw [if_neg (by decide), if_neg (by decide), if_neg (by decide), hab]
      by_cases e : a = b
      · rw [if_pos ⟨h, e⟩, if_pos e]
      · rw [if_neg (fun c => e c.2), if_neg e])
    rw [hab] at HT
    have hsz : (bsS [a, b]).size = 2 := rfl
    have h0 : (bsS [a, b])[0]? = some a := rfl
    have h1 : (bsS [a, b])[1]? = some b := rfl
    clear h hab
    have HB := Sl.mk (fun (W : World) (o : Obj) (h : Below w.heap.size w W) => below_al h o)
    have H0 := Sl.mk (Below.refl w.heap.size w)
    go_enter Tryd.func26, Tryd.ntmps26
    go_upto_region 12 with (go_at_call 38; refine (HT.out _).mono ?_; rintro e w2 ⟨rfl, rfl⟩)
    obtain ⟨wd, hwd⟩ : ∃ wd, (w.alloc (.cells #[.string ⟨#[]⟩, .string ⟨#[]⟩] 60)).drew = wd := ⟨_, rfl⟩
    have hXd := Sl.mk (show Blk wd w.heap.size 60 #[.string ⟨#[]⟩, .string ⟨#[]⟩] by rw [← hwd]; exact (Blk.new w 60 _).drew)
    have hEd := Sl.mk (show Below w.heap.size w wd by rw [← hwd]; exact (HB.out _ _ H0.out).drew)
    refine wp_region_X (fun W => W = wd) [0, 1, 2, 3, 4, 5, 6, 7, 8, 9, 10, 11] (by kernel_rfl) hwd (fun hS => ?_)
    rw [hwd] at hS ⊢
    clear hwd
    refine wpAnyX_P (i := 0) (v := ?_) rfl (by kernel_rfl) (by kernel_rfl) (by kernel_rfl) (by kernel_rfl) (fun _ _ _ h => h) (Or.inl ⟨by rfl, ?_⟩) ?_
    rotate_left 1
    · (intro w' hw'; (first | rw [hw'] | (have hw2 := HSF.out w' hw') | skip); go_simp; (try with_reducible rfl))
    simp only [Act.put, List.setIfInBounds_toArray, List.set_cons_zero, List.set_cons_succ]
    refine wpAnyX_P (i := 1) (v := ?_) rfl (by kernel_rfl) (by kernel_rfl) (by kernel_rfl) (by kernel_rfl) (fun _ _ _ h => h) (Or.inl ⟨by rfl, ?_⟩) ?_
    rotate_left 1
    · (intro w' hw'; (first | rw [hw'] | (have hw2 := HSF.out w' hw') | skip); go_simp; (try with_reducible rfl))
    simp only [Act.put, List.setIfInBounds_toArray, List.set_cons_zero, List.set_cons_succ]
    refine wpAnyX_P (i := 2) (v := ?_) rfl (by kernel_rfl) (by kernel_rfl) (by kernel_rfl) (by kernel_rfl) (fun _ _ _ h => h) (Or.inl ⟨by rfl, ?_⟩) ?_
    rotate_left 1
    · (intro w' hw'; (first | rw [hw'] | (have hw2 := HSF.out w' hw') | skip); go_simp; (try with_reducible rfl))
    simp only [Act.put, List.setIfInBounds_toArray, List.set_cons_zero, List.set_cons_succ]
    refine wpAnyX_P (i := 3) (v := ?_) rfl (by kernel_rfl) (by kernel_rfl) (by kernel_rfl) (by kernel_rfl) (fun _ _ _ h => h) (Or.inl ⟨by rfl, ?_⟩) ?_
    rotate_left 1
    · (intro w' hw'; (first | rw [hw'] | (have hw2 := HSF.out w' hw') | skip); go_simp; (try with_reducible rfl))
    simp only [Act.put, List.setIfInBounds_toArray, List.set_cons_zero, List.set_cons_succ]
    refine wpAnyX_P (i := 4) (v := ?_) rfl (by kernel_rfl) (by kernel_rfl) (by kernel_rfl) (by kernel_rfl) (fun _ _ _ h => h) (Or.inl ⟨by rfl, ?_⟩) ?_
    rotate_left 1
    · (intro w' hw'; (first | rw [hw'] | (have hw2 := HSF.out w' hw') | skip); go_simp; (try with_reducible rfl))
    simp only [Act.put, List.setIfInBounds_toArray, List.set_cons_zero, List.set_cons_succ]
    refine wpAnyX_P (i := 5) (v := ?_) rfl (by kernel_rfl) (by kernel_rfl) (by kernel_rfl) (by kernel_rfl) (fun _ _ _ h => h) (Or.inl ⟨by rfl, ?_⟩) ?_
    rotate_left 1
    · (intro w' hw'; (first | rw [hw'] | (have hw2 := HSF.out w' hw') | skip); go_simp; (try with_reducible rfl))
    simp only [Act.put, List.setIfInBounds_toArray, List.set_cons_zero, List.set_cons_succ]
    refine wpAnyX_P (i := 6) (v := ?_) rfl (by kernel_rfl) (by kernel_rfl) (by kernel_rfl) (by kernel_rfl) (fun _ _ _ h => h) (Or.inl ⟨by rfl, ?_⟩) ?_
    rotate_left 1
    · (intro w' hw'; (first | rw [hw'] | (have hw2 := HSF.out w' hw') | skip); go_simp; (try with_reducible rfl))
    simp only [Act.put, List.setIfInBounds_toArray, List.set_cons_zero, List.set_cons_succ]
    refine wpAnyX_P (i := 7) (v := ?_) rfl (by kernel_rfl) (by kernel_rfl) (by kernel_rfl) (by kernel_rfl) (fun _ _ _ h => h) (Or.inl ⟨by rfl, ?_⟩) ?_
    rotate_left 1
    · (intro w' hw'; (first | rw [hw'] | (have hw2 := HSF.out w' hw') | skip); go_simp; (try with_reducible rfl))
    simp only [Act.put, List.setIfInBounds_toArray, List.set_cons_zero, List.set_cons_succ]
    refine wpAnyX_P (i := 8) (v := ?_) rfl (by kernel_rfl) (by kernel_rfl) (by kernel_rfl) (by kernel_rfl) (fun _ _ _ h => h) (Or.inl ⟨by rfl, ?_⟩) ?_
    rotate_left 1
    · (intro w' hw'; (first | rw [hw'] | (have hw2 := HSF.out w' hw') | skip); go_simp; (try with_reducible rfl))
    simp only [Act.put, List.setIfInBounds_toArray, List.set_cons_zero, List.set_cons_succ]
    refine wpAnyX_P (i := 9) (v := ?_) rfl (by kernel_rfl) (by kernel_rfl) (by kernel_rfl) (by kernel_rfl) (fun _ _ _ h => h) (Or.inl ⟨by rfl, ?_⟩) ?_
    rotate_left 1
    · (intro w' hw'; (first | rw [hw'] | (have hw2 := HSF.out w' hw') | skip); go_simp; (try with_reducible rfl))
    simp only [Act.put, List.setIfInBounds_toArray, List.set_cons_zero, List.set_cons_succ]
    refine wpAnyX_tailF [10, 11] (by kernel_rfl) (by rfl) (by rfl) (by rfl) ?_
    simp only [List.filterMap_cons, List.filterMap_nil, List.getElem?_cons_succ, List.getElem?_cons_zero]
    have c0 := hXd.out.cell 0
    have c1 := hXd.out.cell 1
    have f0 := hXd.out.frozen 0
    have f1 := hXd.out.frozen 1
    go_wp2_with fail
    refine NoPanic.normal ?_
    go_wp2_with fail
    by_cases e : a = b
    · subst e
      have hbq : ((a.toNat : Int) == (a.toNat : Int)) = true := by simp
      rw [hT.out, if_pos rfl]
      refine turn_yes ?_ ?_ ?_ ?_ ?_
      · exact (hEd.out.setCell (Nat.le_refl _) _).setCell (Nat.le_refl _) _
      · exact (hXd.out.set_ 0 _).set_ 1 _
      · rfl
      · exact congrArg Value.bool hbq
      · rfl
    · have hbq : ((a.toNat : Int) == (b.toNat : Int)) = false := by
        simp only [beq_eq_false_iff_ne, ne_eq]
        exact fun e2 => e (UInt8.toNat_inj.1 (by omega))
      rw [hT.out, if_neg e]
      refine turn_no (a := bsS [a, b]) (b := bsS [110]) ?_ ?_ ?_ ?_ ?_
      · exact (hEd.out.setCell (Nat.le_refl _) _).setCell (Nat.le_refl _) _
      · exact (hXd.out.set_ 0 _).set_ 1 _
      · rfl
      · exact congrArg Value.bool hbq
      · rfl
  · rw [if_neg h, decide_eq_false h] at HT
    have hT := Sl.mk (show turnF l 9 = none by unfold turnF; rw [if_neg (by decide), if_neg (by decide), if_neg (by decide), if_neg (fun e => h e.1)])
    have HB := Sl.mk (fun (W : World) (o : Obj) (h : Below w.heap.size w W) => below_al h o)
    have H0 := Sl.mk (Below.refl w.heap.size w)
    clear h
    go_enter Tryd.func26, Tryd.ntmps26
    go_upto_region 12 with (go_at_call 38; refine (HT.out _).mono ?_; rintro e w2 ⟨rfl, rfl⟩)
    obtain ⟨wd, hwd⟩ : ∃ wd, (w.alloc (.cells #[.string ⟨#[]⟩, .string ⟨#[]⟩] 60)).drew = wd := ⟨_, rfl⟩
    have hXd := Sl.mk (show Blk wd w.heap.size 60 #[.string ⟨#[]⟩, .string ⟨#[]⟩] by rw [← hwd]; exact (Blk.new w 60 _).drew)
    have hEd := Sl.mk (show Below w.heap.size w wd by rw [← hwd]; exact (HB.out _ _ H0.out).drew)
    refine wp_region_X (fun W => W = wd) [0, 1, 2, 3, 4, 5, 6, 7, 8, 9, 10, 11] (by kernel_rfl) hwd (fun hS => ?_)
    rw [hwd] at hS ⊢
    clear hwd
    refine wpAnyX_P (i := 0) (v := ?_) rfl (by kernel_rfl) (by kernel_rfl) (by kernel_rfl) (by kernel_rfl) (fun _ _ _ h => h) (Or.inl ⟨by rfl, ?_⟩) ?_
    rotate_left 1
    · (intro w' hw'; (first | rw [hw'] | (have hw2 := HSF.out w' hw') | skip); go_simp; (try with_reducible rfl))
    simp only [Act.put, List.setIfInBounds_toArray, List.set_cons_zero, List.set_cons_succ]
    refine wpAnyX_P (i := 1) (v := ?_) rfl (by kernel_rfl) (by kernel_rfl) (by kernel_rfl) (by kernel_rfl) (fun _ _ _ h => h) (Or.inl ⟨by rfl, ?_⟩) ?_
    rotate_left 1
    · (intro w' hw'; (first | rw [hw'] | (have hw2 := HSF.out w' hw') | skip); go_simp; (try with_reducible rfl))
    simp only [Act.put, List.setIfInBounds_toArray, List.set_cons_zero, List.set_cons_succ]
    refine wpAnyX_P (i := 2) (v := ?_) rfl (by kernel_rfl) (by kernel_rfl) (by kernel_rfl) (by kernel_rfl) (fun _ _ _ h => h) (Or.inl ⟨by rfl, ?_⟩) ?_
    rotate_left 1
    · (intro w' hw'; (first | rw [hw'] | (have hw2 := HSF.out w' hw') | skip); go_simp; (try with_reducible rfl))
    simp only [Act.put, List.setIfInBounds_toArray, List.set_cons_zero, List.set_cons_succ]
    refine wpAnyX_P (i := 3) (v := ?_) rfl (by kernel_rfl) (by kernel_rfl) (by kernel_rfl) (by kernel_rfl) (fun _ _ _ h => h) (Or.inl ⟨by rfl, ?_⟩) ?_
    rotate_left 1
    · (intro w' hw'; (first | rw [hw'] | (have hw2 := HSF.out w' hw') | skip); go_simp; (try with_reducible rfl))
    simp only [Act.put, List.setIfInBounds_toArray, List.set_cons_zero, List.set_cons_succ]
    refine wpAnyX_P (i := 4) (v := undef) rfl (by kernel_rfl) (by kernel_rfl) (by kernel_rfl) (by kernel_rfl) (fun _ _ _ h => h) (Or.inr ⟨by rfl, rfl⟩) ?_
    simp only [Act.put, List.setIfInBounds_toArray, List.set_cons_zero, List.set_cons_succ]
    refine wpAnyX_P (i := 5) (v := undef) rfl (by kernel_rfl) (by kernel_rfl) (by kernel_rfl) (by kernel_rfl) (fun _ _ _ h => h) (Or.inr ⟨by rfl, rfl⟩) ?_
    simp only [Act.put, List.setIfInBounds_toArray, List.set_cons_zero, List.set_cons_succ]
    refine wpAnyX_P (i := 6) (v := undef) rfl (by kernel_rfl) (by kernel_rfl) (by kernel_rfl) (by kernel_rfl) (fun _ _ _ h => h) (Or.inr ⟨by rfl, rfl⟩) ?_
    simp only [Act.put, List.setIfInBounds_toArray, List.set_cons_zero, List.set_cons_succ]
    refine wpAnyX_P (i := 7) (v := undef) rfl (by kernel_rfl) (by kernel_rfl) (by kernel_rfl) (by kernel_rfl) (fun _ _ _ h => h) (Or.inr ⟨by rfl, rfl⟩) ?_
    simp only [Act.put, List.setIfInBounds_toArray, List.set_cons_zero, List.set_cons_succ]
    refine wpAnyX_P (i := 8) (v := undef) rfl (by kernel_rfl) (by kernel_rfl) (by kernel_rfl) (by kernel_rfl) (fun _ _ _ h => h) (Or.inr ⟨by rfl, rfl⟩) ?_
    simp only [Act.put, List.setIfInBounds_toArray, List.set_cons_zero, List.set_cons_succ]
    refine wpAnyX_P (i := 9) (v := ?_) rfl (by kernel_rfl) (by kernel_rfl) (by kernel_rfl) (by kernel_rfl) (fun _ _ _ h => h) (Or.inl ⟨by rfl, ?_⟩) ?_
    rotate_left 1
    · (intro w' hw'; (first | rw [hw'] | (have hw2 := HSF.out w' hw') | skip); go_simp; (try with_reducible rfl))
    simp only [Act.put, List.setIfInBounds_toArray, List.set_cons_zero, List.set_cons_succ]
    refine wpAnyX_tailF [10, 11] (by kernel_rfl) (by rfl) (by rfl) (by rfl) ?_
    simp only [List.filterMap_cons, List.filterMap_nil, List.getElem?_cons_succ, List.getElem?_cons_zero]
    have c0 := hXd.out.cell 0
    have c1 := hXd.out.cell 1
    have f0 := hXd.out.frozen 0
    have f1 := hXd.out.frozen 1
    go_wp2_with fail
    refine NoPanic.normal ?_
    go_wp2_with fail
    rw [hT.out]
    exact turn_no ((hEd.out.setCell (Nat.le_refl _) _).setCell (Nat.le_refl _) _) ((hXd.out.set_ 0 _).set_ 1 _) rfl rfl rfl

theorem turned_any (l : List UInt8) (k : Nat) (hk : k = 3 ∨ k = 4 ∨ k = 5 ∨ k = 9) (w : World) (hs : l.length ≤ 16) (hn : l.all ntB = true) :
    Calls Tryd.prog 26 #[.string (bsS l), .int .i64 k] w (TurnPost w (turnF l k)) := by
  rcases hk with rfl | rfl | rfl | rfl
  · exact turned_drop l w hs
  · exact turned_copy l w hs
  · exact turned_swap l w hs hn
  · exact turned_same l w hs
end Go.Proofs.YtliealcdiogilaaDoor
