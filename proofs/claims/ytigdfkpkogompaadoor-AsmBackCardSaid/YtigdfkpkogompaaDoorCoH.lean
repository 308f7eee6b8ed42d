/-
  Programs in memory; the contract of asm's right.
-/
import Derived.Test.YtigdfkpkogompaaDoorCoG
import Derived.Test.YtigdfkpkogompaaDoorWordsS
namespace Go.Proofs.YtigdfkpkogompaaDoor
open Go.RowKit
attribute [local go_sem ↓] Go.wp_at_zero Go.wp_at_succ

theorem addr_lit {w : World} {ad : Addr} {v : Value} (h : w.cell? (ad.add 0) = some v) : ad = ⟨ad.block, ad.off, none⟩ := by
  obtain ⟨b, o, s⟩ := ad
  have : s = none := by simpa [Addr.add] using World.cell?_spot h
  subst this
  rfl
def iC (x : Ci) : List Value := [.int .i64 x.op, .int .i64 x.n, .string (bsS x.s)]
theorem iC_len (x : Ci) : (iC x).length = 3 := rfl
theorem iC_one (x : Ci) : ∀ v ∈ iC x, v.oneCell' = true := by
  intro v hv
  simp only [iC, List.mem_cons, List.not_mem_nil, or_false] at hv
  rcases hv with rfl | rfl | rfl <;> rfl
def isC (l : List Ci) : List Value := l.flatMap iC
theorem isC_len (l : List Ci) : (isC l).length = l.length * 3 := by
  induction l with
  | nil => rfl
  | cons r l ih => simp only [isC, List.flatMap_cons, List.length_append, iC_len, List.length_cons] at *; omega
theorem isC_one (l : List Ci) : ∀ v ∈ isC l, v.oneCell' = true := by
  intro v hv
  obtain ⟨r, _, h⟩ := List.mem_flatMap.1 hv
  exact iC_one r v h
theorem isC_at : ∀ (l : List Ci) (i : Nat) (r : Ci), l[i]? = some r → ∀ (j : Nat) (v : Value), (iC r)[j]? = some v → (isC l)[i * 3 + j]? = some v
  | [], i, r, h, _, _, _ => by simp at h
  | x :: l, 0, r, h, j, v, hv => by
    simp at h; subst h
    have hj : j < (iC x).length := (List.getElem?_eq_some_iff.1 hv).1
    simp only [isC, List.flatMap_cons, Nat.zero_mul, Nat.zero_add]
    rw [List.getElem?_append_left hj, hv]
  | x :: l, i + 1, r, h, j, v, hv => by
    have h' : l[i]? = some r := by simpa using h
    have e : (i + 1) * 3 + j = (iC x).length + (i * 3 + j) := by rw [iC_len]; omega
    simp only [isC, List.flatMap_cons]
    rw [e, List.getElem?_append_right (by omega), Nat.add_sub_cancel_left]
    exact isC_at l i r h' j v hv
theorem isC_app (a b : List Ci) : isC (a ++ b) = isC a ++ isC b := by simp [isC]
theorem isC_sing (x : Ci) : isC [x] = iC x := by simp [isC]

/-- A slice of instructions. -/
structure Is (w : World) (A : Option Addr) (n : Nat) (l : List Ci) : Prop where
  row : Reads w w.heap.size 3 A n (isC l)
  len : ∀ x ∈ l, x.s.length ≤ 1000000
theorem Is.n_ {w : World} {A : Option Addr} {n : Nat} {l : List Ci} (h : Is w A n l) : l.length = n := by
  have hl := h.row.1
  rw [isC_len] at hl
  omega
theorem Is.be {w w' : World} {A : Option Addr} {n : Nat} {l : List Ci} (h : Is w A n l) (hb : Below w.heap.size w w') : Is w' A n l :=
  ⟨(h.row.below hb).more hb.size, h.len⟩
theorem Is.lit {w : World} {A : Option Addr} {n : Nat} {l : List Ci} (h : Is w A n l) {i : Nat} {x : Ci} (hi : l[i]? = some x) :
    ∃ b o, A = some ⟨b, o, none⟩ ∧ b < w.heap.size ∧ (∀ j v, (iC x)[j]? = some v → w.cell? ((⟨b, o + i * 3, none⟩ : Addr).add j) = some v) ∧ x.s.length ≤ 1000000 := by
  have hil : i < l.length := (List.getElem?_eq_some_iff.1 hi).1
  have hl := h.n_
  obtain ⟨ad, e', hb, hcc⟩ := h.row.2 (by omega)
  have hlen : 0 < (isC l).length := by rw [isC_len]; omega
  have e := addr_lit (hcc 0 _ (List.getElem?_eq_getElem hlen))
  refine ⟨ad.block, ad.off, by rw [← e]; exact e', hb, fun j v hv => ?_, h.len x (List.mem_of_getElem? hi)⟩
  have h1 := hcc _ v (isC_at l i x hi j v hv)
  rw [e, Addr.add_lit] at h1
  rw [Addr.add_lit, Nat.add_assoc]
  exact h1

theorem iSize : (Tryd.prog.info? 41).map (·.size) = some 3 := by kernel_rfl
theorem rSize : (Tryd.prog.info? 43).map (·.size) = some 3 := by kernel_rfl
theorem iInfo : (Tryd.prog.info? 41).map (fun i => (i.zero, i.size, i.bytes)) = some (some (.agg #[.int .i64 0, .int .i64 0, .string ⟨#[]⟩]), 3, 32) := by kernel_rfl
theorem rInfo : (Tryd.prog.info? 43).map (fun i => (i.zero, i.size, i.bytes)) = some (some (.agg #[.int .i64 0, .int .i64 0, .string ⟨#[]⟩]), 3, 32) := by kernel_rfl
section
variable {ops : Array Oper} {rest : List Oper} {op : Oper} {a : Act} {w : World} {Q : Exit → Act → World → Prop}
theorem ld_i {ad : Addr} {x : Ci} (hc : ∀ j v, (iC x)[j]? = some v → w.cell? (ad.add j) = some v) (hgd : op.guard = none) (y : Operand) (ho : op.op = .load 41 y) (hy : a.eval y = .pointer (some ad))
    (h : wpList Tryd.prog ops Q rest (a.put op.dst (.agg #[.int .i64 x.op, .int .i64 x.n, .string (bsS x.s)])) w) : wpList Tryd.prog ops Q (op :: rest) a w :=
  wpList_load_at hgd 41 y ho _ hy (iC x) _ hc Tryd.underlying41 rfl (by rw [iSize]; rfl) h
theorem ld_r {ad : Addr} {x : Ci} (hc : ∀ j v, (iC x)[j]? = some v → w.cell? (ad.add j) = some v) (hgd : op.guard = none) (y : Operand) (ho : op.op = .load 43 y) (hy : a.eval y = .pointer (some ad))
    (h : wpList Tryd.prog ops Q rest (a.put op.dst (.agg #[.int .i64 x.op, .int .i64 x.n, .string (bsS x.s)])) w) : wpList Tryd.prog ops Q (op :: rest) a w :=
  wpList_load_at hgd 43 y ho _ hy (iC x) _ hc Tryd.underlying43 rfl (by rw [rSize]; rfl) h
end

theorem emp_list (s : List UInt8) : (bsS s).toList.isEmpty = s.isEmpty := by rw [bs_list]
def RPost (w : World) (b : Bool) (e : Ending) (w' : World) : Prop := e = .returned (.bool b) ∧ Below w.heap.size w w'
set_option maxHeartbeats 8000000 in
theorem right_i (op n count : Int) (s : List UInt8) (w : World) (hs : s.length ≤ 9223372036854775807) (hP : Spw w w.heap.size) :
    Calls Tryd.prog 16 #[.agg #[.int .i64 op, .int .i64 n, .string (bsS s)], .int .i64 count] w (RPost w (rightI ⟨op, n, s⟩ count)) := by
  have HB := Sl.mk (below_al (Below.refl w.heap.size w) (.cells #[.int .i64 op, .int .i64 n, .string (bsS s)] 41))
  obtain ⟨E, hE⟩ : ∃ E, s.isEmpty = E := ⟨_, rfl⟩
  have hEm : (bsS s).toList.isEmpty = E := by rw [emp_list, hE]
  have HE := Sl.mk hE
  by_cases h2 : op = 2
  · subst h2
    have HT := Sl.mk (fun W => text_any s W hs)
    by_cases h0 : n = 0
    · subst h0
      have HR := Sl.mk (show rightI ⟨2, 0, s⟩ count = txS s by simp [rightI])
      clear hE
      go_enter Tryd.func16, Tryd.ntmps16
      go_wp2_with (go_at_call 26; refine (HT.out _).mono ?_; rintro e w1 ⟨rfl, rfl⟩)
      go_ret
      exact ⟨ret_bool HR.out.symm, HB.out⟩
    · have HR := Sl.mk (show rightI ⟨2, n, s⟩ count = false by simp [rightI, h0])
      have h0' : (n == 0) = false := beq_eq_false_iff_ne.2 h0
      clear hE h0
      go_enter Tryd.func16, Tryd.ntmps16
      go_wp2_with fail
      go_ret
      exact ⟨ret_bool HR.out.symm, HB.out⟩
  · by_cases hlim : op = 1 ∨ op = 21 ∨ op = 11 ∨ op = 12
    · cases hE0 : E
      · have HR := Sl.mk (show rightI ⟨op, n, s⟩ count = false by
          unfold rightI; simp only [hE, hE0]
          rw [if_neg h2]
          rcases hlim with rfl | rfl | rfl | rfl <;> simp)
        rw [hE0] at hEm
        clear hE h2 hE0
        rcases hlim with rfl | rfl | rfl | rfl
        all_goals
          go_enter Tryd.func16, Tryd.ntmps16
          go_wp2_with fail
          go_ret
          exact ⟨ret_bool HR.out.symm, HB.out⟩
      · rw [hE0] at hEm hE
        rcases hlim with rfl | rfl | rfl | rfl
        · by_cases h0 : 0 ≤ n <;> by_cases h9 : n ≤ 9999
          all_goals (try (exfalso; omega; done))
          all_goals
            have HR := Sl.mk (show rightI ⟨1, n, s⟩ count = (decide (0 ≤ n) && decide (n ≤ 9999)) by unfold rightI; simp [hE])
            clear hE h2 hE0
            go_enter Tryd.func16, Tryd.ntmps16
            go_wp2_with fail
            go_ret
            exact ⟨ret_bool (by rw [HR.out]; simp [h0, h9]), HB.out⟩
        · by_cases h0 : 1 ≤ n <;> by_cases h9 : n ≤ 99
          all_goals (try (exfalso; omega; done))
          all_goals
            have HR := Sl.mk (show rightI ⟨21, n, s⟩ count = (decide (1 ≤ n) && decide (n ≤ 99)) by unfold rightI; simp [hE])
            clear hE h2 hE0
            go_enter Tryd.func16, Tryd.ntmps16
            go_wp2_with fail
            go_ret
            exact ⟨ret_bool (by rw [HR.out]; simp [h0, h9]), HB.out⟩
        · by_cases h0 : 0 ≤ n <;> by_cases h9 : n ≤ count
          all_goals
            have HR := Sl.mk (show rightI ⟨11, n, s⟩ count = (decide (0 ≤ n) && decide (n ≤ count)) by unfold rightI; simp [hE])
            clear hE h2 hE0
            go_enter Tryd.func16, Tryd.ntmps16
            go_wp2_with fail
            go_ret
            exact ⟨ret_bool (by rw [HR.out]; simp [h0, h9]), HB.out⟩
        · by_cases h0 : 0 ≤ n <;> by_cases h9 : n ≤ count
          all_goals
            have HR := Sl.mk (show rightI ⟨12, n, s⟩ count = (decide (0 ≤ n) && decide (n ≤ count)) by unfold rightI; simp [hE])
            clear hE h2 hE0
            go_enter Tryd.func16, Tryd.ntmps16
            go_wp2_with fail
            go_ret
            exact ⟨ret_bool (by rw [HR.out]; simp [h0, h9]), HB.out⟩
    · have HW := Sl.mk (word_any op (w.alloc (.cells #[.int .i64 op, .int .i64 n, .string (bsS s)] 41)) (hP.all HB.out))
      have hB0 := Sl.mk (Blk.new w 41 #[.int .i64 op, .int .i64 n, .string (bsS s)])
      have HR := Sl.mk (show rightI ⟨op, n, s⟩ count = (decide (0 ≤ op) && decide (op ≤ 21) && E && decide (n = 0)) by
        unfold rightI; simp only [hE]
        rw [if_neg h2, if_neg (fun h => hlim (.inl h)), if_neg (fun h => hlim (.inr (.inl h))), if_neg (fun h => hlim (.inr (.inr h)))])
      have k2 : (op == 2) = false := beq_eq_false_iff_ne.2 h2
      have k1 : (op == 1) = false := beq_eq_false_iff_ne.2 (fun h => hlim (.inl h))
      have k21 : (op == 21) = false := beq_eq_false_iff_ne.2 (fun h => hlim (.inr (.inl h)))
      have k11 : (op == 11) = false := beq_eq_false_iff_ne.2 (fun h => hlim (.inr (.inr (.inl h))))
      have k12 : (op == 12) = false := beq_eq_false_iff_ne.2 (fun h => hlim (.inr (.inr (.inr h))))
      have hwe := word_empty op
      obtain ⟨b, hb⟩ : ∃ b, (decide (0 ≤ op) && decide (op ≤ 21)) = b := ⟨_, rfl⟩
      rw [hb] at hwe HR
      clear hE h2 hlim hb
      by_cases h0 : n = 0
      · subst h0
        cases b <;> cases E
        all_goals
          go_enter Tryd.func16, Tryd.ntmps16
          go_wp2_with (go_at_call 10; refine HW.out.mono ?_; rintro e w1 ⟨rfl, hb1⟩; have HB1 := Sl.mk (below_tr HB.out hb1); have HX := Sl.mk (hB0.out.be hb1); have c1 := HX.out.cell 1; have c2 := HX.out.cell 2; clear hb1)
          go_ret
          exact ⟨ret_bool (by rw [HR.out]; simp), HB1.out⟩
      · have h0' : (n == 0) = false := beq_eq_false_iff_ne.2 h0
        have hd : decide (n = 0) = false := decide_eq_false h0
        rw [hd] at HR
        clear h0 hd
        cases b <;> cases E
        all_goals
          go_enter Tryd.func16, Tryd.ntmps16
          go_wp2_with (go_at_call 10; refine HW.out.mono ?_; rintro e w1 ⟨rfl, hb1⟩; have HB1 := Sl.mk (below_tr HB.out hb1); have HX := Sl.mk (hB0.out.be hb1); have c1 := HX.out.cell 1; have c2 := HX.out.cell 2; clear hb1)
          go_ret
          exact ⟨ret_bool (by rw [HR.out]; simp), HB1.out⟩
end Go.Proofs.YtigdfkpkogompaaDoor
