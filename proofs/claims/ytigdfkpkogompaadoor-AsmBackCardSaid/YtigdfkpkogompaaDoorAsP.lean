/-
  A program's text is assembled as that program: the plain law.
-/
import Derived.Test.YtigdfkpkogompaaDoorAsV
namespace Go.Proofs.YtigdfkpkogompaaDoor

/-! ### Numerals -/
theorem decF_app (a : List UInt8) (c : UInt8) : decF (a ++ [c]) = 10 * decF a + (c.toNat - 48) := by unfold decF; rw [List.foldl_append]; rfl
theorem dgt (k : Nat) (h : k < 10) : (UInt8.ofNat (48 + k)).toNat = 48 + k := by simp; omega
theorem dec_facts (u : Nat) : decF (Lib.decDigits u) = u ∧ (∀ c ∈ Lib.decDigits u, digB c = true) ∧ Lib.decDigits u ≠ [] ∧ (0 < u → (Lib.decDigits u).getD 0 0 ≠ 48) := by
  induction u using Nat.strongRecOn with
  | _ u ih =>
    by_cases h : u < 10
    · rw [Lib.decDigits, dif_pos h]
      have e := dgt u h
      refine ⟨?_, fun c hc => ?_, by simp, fun h0 hc => ?_⟩
      · unfold decF; simp only [List.foldl_cons, List.foldl_nil]; rw [e]; omega
      · obtain rfl := List.mem_singleton.1 hc
        unfold digB; rw [e]; simp; omega
      · simp only [List.getD_cons_zero] at hc
        rw [hc] at e
        have : (48 : UInt8).toNat = 48 := rfl
        omega
    · rw [Lib.decDigits, dif_neg h]
      obtain ⟨h1, h2, h3, h4⟩ := ih (u / 10) (by omega)
      have e := dgt (u % 10) (by omega)
      refine ⟨?_, fun c hc => ?_, by simp, fun _ => ?_⟩
      · rw [decF_app, h1, e]; omega
      · rcases List.mem_append.1 hc with hc | hc
        · exact h2 c hc
        · obtain rfl := List.mem_singleton.1 hc
          unfold digB; rw [e]; simp; omega
      · cases hd : Lib.decDigits (u / 10) with
        | nil => exact absurd hd h3
        | cons a t =>
          have := h4 (by omega)
          rw [hd] at this
          simpa using this
theorem itoa_natP (n : Nat) : Lib.itoa (n : Int) = Lib.decDigits n := by unfold Lib.itoa; rw [if_neg (by omega)]; rfl
theorem nDig_leP : ∀ (k u : Nat), u < 10 ^ (k + 1) → Lib.nDigits u ≤ k + 1
  | 0, u, h => by rw [Lib.nDigits_small (by simpa using h)]; omega
  | k + 1, u, h => by
    by_cases h10 : u < 10
    · rw [Lib.nDigits_small h10]; omega
    · rw [Lib.nDigits_big h10]
      have := nDig_leP k (u / 10) (by rw [Nat.pow_succ] at h; omega)
      omega
theorem num_itoa {n : Nat} (h : n ≤ 9999) : numF (Lib.itoa (n : Int)) = (n, true) := by
  rw [itoa_natP]
  obtain ⟨h1, h2, h3, h4⟩ := dec_facts n
  have hl : (Lib.decDigits n).length ≤ 4 := by rw [Lib.decDigits_length]; exact nDig_leP 3 n (by omega)
  have hp : 1 ≤ (Lib.decDigits n).length := by
    cases e : Lib.decDigits n with
    | nil => exact absurd e h3
    | cons _ _ => simp
  have hok : numOk (Lib.decDigits n) = true := by
    unfold numOk
    rw [decide_eq_true hp, decide_eq_true hl, List.all_eq_true.2 h2]
    by_cases h0 : n < 10
    · have : (Lib.decDigits n).length = 1 := by rw [Lib.decDigits, dif_pos h0]; rfl
      rw [this]; simp
    · have : ((Lib.decDigits n).getD 0 0 == 48) = false := beq_eq_false_iff_ne.2 (h4 (by omega))
      rw [this]; rfl
  unfold numF
  rw [if_pos hok, h1]
theorem nam_inj {a b : Nat} (h : namF a = namF b) : a = b := by
  unfold namF at h
  injection h with _ h
  have h2 : Lib.itoa (a : Int) = Lib.itoa (b : Int) := by
    have h5 := congrArg (List.map fun z : UInt8 => z - 49) h
    simpa [List.map_map, Function.comp_def] using h5
  rw [itoa_natP, itoa_natP] at h2
  have h3 := congrArg decF h2
  rw [(dec_facts a).1, (dec_facts b).1] at h3
  exact h3
/-- A small letter. -/
def smB (c : UInt8) : Bool := decide (97 ≤ c.toNat) && decide (c.toNat ≤ 122)
theorem nam_sm (n : Nat) : ∀ c ∈ namF n, smB c = true := fun c hc => by
  unfold namF at hc
  rcases List.mem_cons.1 hc with rfl | hc
  · decide
  · obtain ⟨d, hd, rfl⟩ := List.mem_map.1 hc
    rw [itoa_natP] at hd
    have h := (dec_facts n).2.1 d hd
    unfold digB at h
    simp only [Bool.and_eq_true, decide_eq_true_eq] at h
    have h49 : (d + 49).toNat = d.toNat + 49 := by
      rw [UInt8.toNat_add]
      show (d.toNat + 49) % 256 = _
      omega
    unfold smB
    rw [h49]
    simp; omega
theorem nam_lab (n : Nat) : labF (namF n) = true := by
  show ((!(namF n).isEmpty) && (namF n).all smB) = true
  rw [List.all_eq_true.2 (fun c hc => nam_sm n c hc)]
  rfl
theorem nam_ne (n : Nat) : namF n ≠ [] := by unfold namF; simp

/-! ### Lines -/
theorem sm_not {c : UInt8} (h : smB c = true) (d : UInt8) (hd : smB d = false) : c ≠ d := fun e => by rw [e, hd] at h; cases h
theorem cut_none {s : List UInt8} (h : 35 ∉ s) : (Lib.cut s [35]).1 = s := by
  unfold Lib.cut
  rw [if_neg]
  induction s with
  | nil => decide
  | cons a t ih =>
    rw [index_cons_ne t (fun e => h (by rw [← e]; exact List.mem_cons_self))]
    have := ih (fun e => h (List.mem_cons_of_mem _ e))
    split
    · decide
    · rename_i hc
      have hne : ¬ Lib.index t [35] = -1 := fun e => hc (by rw [e]; rfl)
      have := Lib.index_ge [35] t
      omega
theorem dw_id {p : UInt8 → Bool} {l : List UInt8} (h : ∀ c, l.head? = some c → p c = false) : l.dropWhile p = l := by
  cases l with
  | nil => rfl
  | cons a t => rw [List.dropWhile_cons, h a rfl]; rfl
theorem trim_id {s : List UInt8} (h1 : ∀ c, s.head? = some c → bl2.contains c = false) (h2 : ∀ c, s.getLast? = some c → bl2.contains c = false) : Lib.trimS s bl2 = s := by
  unfold Lib.trimS Lib.trimLeftS Lib.trimRightS
  rw [dw_id (l := s.reverse) (fun c hc => h2 c (by rw [List.head?_reverse] at hc; exact hc)), List.reverse_reverse]
  exact dw_id h1
theorem bare_id {s : List UInt8} (h : 35 ∉ s) (h1 : ∀ c, s.head? = some c → bl2.contains c = false) (h2 : ∀ c, s.getLast? = some c → bl2.contains c = false) : bareF s = s := by
  unfold bareF
  rw [cut_none h, trim_id h1 h2]
theorem sm_bl {c : UInt8} (h : smB c = true) : bl2.contains c = false := by
  have h1 := sm_not h 32 rfl
  have h2 := sm_not h 9 rfl
  unfold bl2
  simp [h1, h2]
theorem suff_last (s : List UInt8) (c : UInt8) : [c].isSuffixOf s = (s.getLast? == some c) := by
  cases hs : s.reverse with
  | nil =>
    have : s = [] := by simpa using hs
    subst this; rfl
  | cons a t =>
    have : s = t.reverse ++ [a] := by rw [← List.reverse_reverse s, hs]; simp
    subst this
    simp only [List.isSuffixOf, List.reverse_append, List.reverse_cons, List.reverse_nil, List.nil_append, List.reverse_reverse, List.singleton_append, List.isPrefixOf, List.getLast?_append, List.getLast?_singleton, Option.some_or, Bool.and_true]
    cases h : (c == a) with
    | true => rw [eq_of_beq h]; simp
    | false =>
      have : a ≠ c := fun e => by rw [e] at h; simp at h
      symm
      exact beq_eq_false_iff_ne.2 (fun e => this (by injection e))
theorem line_lab {p : Ps} {i no : Nat} (h : p.lab.lookup (namF i) = none) : lineF p (namF i ++ [58]) no = (⟨p.l, (namF i, p.l.length) :: p.lab, p.ask⟩, 0) := by
  have hb : bareF (namF i ++ [58]) = namF i ++ [58] := by
    refine bare_id (fun hm => ?_) (fun c hc => ?_) (fun c hc => ?_)
    · rcases List.mem_append.1 hm with hm | hm
      · exact sm_not (nam_sm i _ hm) 35 rfl rfl
      · simp at hm
    · refine sm_bl (nam_sm i c ?_)
      unfold namF at hc ⊢
      have : c = 108 := by simpa using hc.symm
      rw [this]; exact List.mem_cons_self
    · have : c = 58 := by simpa using hc.symm
      rw [this]; rfl
  unfold lineF
  rw [hb, if_neg (by simp), if_pos (by rw [suff_last]; simp), List.dropLast_concat]
  unfold markF
  rw [if_pos ⟨h, nam_lab i⟩]
theorem idx_word : ∀ (w r : List UInt8), (∀ c ∈ w, smB c = true) → Lib.indexAny (w ++ 32 :: r) bl2 = (w.length : Int)
  | [], r, _ => rfl
  | a :: t, r, h => by
    rw [List.cons_append, Lib.indexAny, if_neg (by rw [sm_bl (h a List.mem_cons_self)]; simp), idx_word t r (fun c hc => h c (List.mem_cons_of_mem _ hc)), if_neg (by simp)]
    simp
theorem word_sm {k : Nat} (h : k ≤ 21) : ∀ c ∈ wordF k, smB c = true := by
  have : ∀ k : Nat, k ≤ 21 → (wordF k).all smB = true := by decide +kernel
  exact List.all_eq_true.1 (this k h)
theorem word_find {k : Nat} (h : k ≤ 21) : wordsL.findIdx? (· == wordF k) = some k ∧ wordF k ≠ [] := by
  have : ∀ k : Nat, k ≤ 21 → (wordsL.findIdx? (· == wordF k) = some k ∧ wordF k ≠ []) := by decide +kernel
  exact this k h

/-- What stands behind an instruction's word. -/
def argF (x : Ci) : List UInt8 := if x.op = 1 ∨ x.op = 21 then Lib.itoa x.n else if x.op = 2 then 34 :: (x.s ++ [34]) else if x.op = 11 ∨ x.op = 12 then namF x.n.toNat else []
theorem ins_eq (x : Ci) : insF x = wordF x.op ++ (if argF x = [] then [] else 32 :: argF x) := by
  unfold insF argF
  by_cases h1 : x.op = 1 ∨ x.op = 21
  · rw [if_pos h1, if_pos h1, if_neg]
    unfold Lib.itoa
    split
    · simp
    · exact (dec_facts _).2.2.1
  · rw [if_neg h1, if_neg h1]
    by_cases h2 : x.op = 2
    · rw [if_pos h2, if_pos h2, if_neg (by simp)]
    · rw [if_neg h2, if_neg h2]
      by_cases h3 : x.op = 11 ∨ x.op = 12
      · rw [if_pos h3, if_pos h3, if_neg (nam_ne _)]
      · rw [if_neg h3, if_neg h3, if_pos rfl]
theorem right_parts {x : Ci} {c : Int} (h : rightI x c = true) (hc : 0 ≤ c ∧ c ≤ 9999) : (0 ≤ x.op ∧ x.op ≤ 21) ∧ (0 ≤ x.n ∧ x.n ≤ 9999) ∧ (x.op ≠ 2 → x.s = []) ∧ (x.op = 2 → txS x.s = true ∧ x.n = 0) ∧ (x.op = 21 → 1 ≤ x.n ∧ x.n ≤ 99) ∧ (x.op ≠ 1 → x.op ≠ 21 → x.op ≠ 11 → x.op ≠ 12 → x.n = 0) := by
  unfold rightI at h
  by_cases h2 : x.op = 2
  · simp [h2] at h
    exact ⟨by omega, by omega, fun e => absurd h2 e, fun _ => ⟨h.2, h.1⟩, fun e => by omega, fun _ _ _ _ => h.1⟩
  · rw [if_neg h2] at h
    by_cases h1 : x.op = 1
    · simp [h1] at h
      exact ⟨by omega, by omega, fun _ => h.1.1, fun e => absurd e h2, fun e => by omega, fun e => absurd h1 e⟩
    · rw [if_neg h1] at h
      by_cases h21 : x.op = 21
      · simp [h21] at h
        exact ⟨by omega, by omega, fun _ => h.1.1, fun e => absurd e h2, fun _ => by omega, fun _ e => absurd h21 e⟩
      · rw [if_neg h21] at h
        by_cases h3 : x.op = 11 ∨ x.op = 12
        · rw [if_pos h3] at h
          simp at h
          refine ⟨by omega, by omega, fun _ => h.1.1, fun e => absurd e h2, fun e => absurd e h21, fun _ _ a b => ?_⟩
          rcases h3 with h3 | h3
          · exact absurd h3 a
          · exact absurd h3 b
        · rw [if_neg h3] at h
          simp at h
          exact ⟨⟨h.1.1.1, h.1.1.2⟩, by omega, fun _ => h.1.2, fun e => absurd e h2, fun e => absurd e h21, fun _ _ _ _ => h.2⟩
theorem one_print {x : Ci} {c : Int} (h : rightI x c = true) (hc : 0 ≤ c ∧ c ≤ 9999) : oneI (wordF x.op) (argF x) = some (jumpZ x, jumpI x) := by
  obtain ⟨h1, h2, h3, h4, h5, h6⟩ := right_parts h hc
  obtain ⟨op, n, s⟩ := x
  simp only at h1 h2 h3 h4 h5 h6
  obtain ⟨k, rfl⟩ : ∃ k : Nat, op = k := ⟨op.toNat, by omega⟩
  obtain ⟨m, rfl⟩ : ∃ m : Nat, n = m := ⟨n.toNat, by omega⟩
  have hk : k ≤ 21 := by omega
  unfold oneI
  rw [(word_find hk).1]
  dsimp only
  by_cases e1 : k = 1 ∨ k = 21
  · have ha : argF ⟨(k : Int), (m : Int), s⟩ = Lib.itoa (m : Int) := by unfold argF; rw [if_pos (by simp only; omega)]
    rw [ha, num_itoa (by omega)]
    have hs : s = [] := h3 (by omega)
    subst hs
    have hj : jumpI ⟨(k : Int), (m : Int), []⟩ = false := by unfold jumpI; simp; omega
    have hz : jumpZ ⟨(k : Int), (m : Int), []⟩ = ⟨(k : Int), (m : Int), []⟩ := by unfold jumpZ; rw [hj]; rfl
    have hcnd : k = 1 ∨ rightI ⟨21, ((m : Nat) : Int), []⟩ 0 = true := by
      rcases e1 with rfl | rfl
      · exact .inl rfl
      · right
        have := h5 rfl
        unfold rightI
        simp; omega
    rw [if_pos e1, if_pos ⟨rfl, hcnd⟩, hz, hj]
  · rw [if_neg e1]
    by_cases e2 : k = 2
    · subst e2
      obtain ⟨ht, hn⟩ := h4 rfl
      have hm : m = 0 := by omega
      subst hm
      have ha : argF ⟨((2 : Nat) : Int), ((0 : Nat) : Int), s⟩ = 34 :: (s ++ [34]) := rfl
      rw [if_pos rfl, ha]
      have hq : quotF (34 :: (s ++ [34])) = true := by
        unfold quotF
        rw [List.drop_succ_cons, List.drop_zero, List.dropLast_concat, ht, suff_last]
        simp [List.isPrefixOf]
      rw [if_pos hq, List.drop_succ_cons, List.drop_zero, List.dropLast_concat]
      rfl
    · rw [if_neg e2]
      have hs : s = [] := h3 (by omega)
      subst hs
      by_cases e3 : k = 11 ∨ k = 12
      · have ha : argF ⟨(k : Int), (m : Int), []⟩ = namF m := by
          unfold argF
          rw [if_neg (by simp only; omega), if_neg (by simp only; omega), if_pos (by simp only; omega)]
          rfl
        rw [if_pos e3, ha, if_pos (nam_lab m)]
        have hj : jumpI ⟨(k : Int), (m : Int), []⟩ = true := by unfold jumpI; rcases e3 with rfl | rfl <;> rfl
        unfold jumpZ; rw [hj]; rfl
      · have ha : argF ⟨(k : Int), (m : Int), []⟩ = [] := by
          unfold argF
          rw [if_neg (by simp only; omega), if_neg (by simp only; omega), if_neg (by simp only; omega)]
        have hm : m = 0 := by have := h6 (by omega) (by omega) (by omega) (by omega); omega
        subst hm
        rw [if_neg e3, ha, if_pos rfl]
        have hj : jumpI ⟨(k : Int), ((0 : Nat) : Int), []⟩ = false := by unfold jumpI; simp; omega
        unfold jumpZ; rw [hj]; rfl
/-- An argument's letters: none is a mark or a blank. -/
theorem arg_chars {x : Ci} {c : Int} (h : rightI x c = true) (hc : 0 ≤ c ∧ c ≤ 9999) : ∀ d ∈ argF x, d ≠ 35 ∧ d ≠ 10 ∧ bl2.contains d = false := by
  obtain ⟨h1, h2, h3, h4, h5, h6⟩ := right_parts h hc
  intro d hd
  have key : ∀ d : UInt8, 33 ≤ d.toNat → d ≠ 35 → d ≠ 35 ∧ d ≠ 10 ∧ bl2.contains d = false := fun d q1 q2 => by
    have a1 : d ≠ 10 := fun e => by subst e; exact absurd q1 (by decide)
    have a2 : d ≠ 32 := fun e => by subst e; exact absurd q1 (by decide)
    have a3 : d ≠ 9 := fun e => by subst e; exact absurd q1 (by decide)
    exact ⟨q2, a1, by unfold bl2; simp [a2, a3]⟩
  unfold argF at hd
  split at hd
  · obtain ⟨m, hm⟩ : ∃ m : Nat, x.n = m := ⟨x.n.toNat, by omega⟩
    rw [hm, itoa_natP] at hd
    have := (dec_facts m).2.1 d hd
    unfold digB at this
    simp only [Bool.and_eq_true, decide_eq_true_eq] at this
    exact key d (by omega) (fun e => by subst e; exact absurd this.1 (by decide))
  · split at hd
    · rename_i e2
      have ht := (h4 e2).1
      unfold txS at ht
      simp only [Bool.and_eq_true] at ht
      have q34 : (34 : UInt8) ≠ 35 ∧ (34 : UInt8) ≠ 10 ∧ bl2.contains 34 = false := by decide
      rcases List.mem_cons.1 hd with rfl | hd
      · exact q34
      · rcases List.mem_append.1 hd with hd | hd
        · have := List.all_eq_true.1 ht.2 d hd
          unfold txB at this
          simp only [Bool.and_eq_true, decide_eq_true_eq, Bool.not_eq_true', beq_eq_false_iff_ne] at this
          exact key d this.1.1.1 this.2
        · obtain rfl := List.mem_singleton.1 hd
          exact q34
    · split at hd
      · have := nam_sm _ d hd
        unfold smB at this
        simp only [Bool.and_eq_true, decide_eq_true_eq] at this
        exact key d (by omega) (fun e => by subst e; exact absurd this.1 (by decide))
      · cases hd
/-- An argument's last letter is no colon. -/
theorem arg_last {x : Ci} {c : Int} (h : rightI x c = true) (hc : 0 ≤ c ∧ c ≤ 9999) : ∀ d, (argF x).getLast? = some d → d ≠ 58 := by
  obtain ⟨h1, h2, h3, h4, h5, h6⟩ := right_parts h hc
  intro d hd
  unfold argF at hd
  split at hd
  · obtain ⟨m, hm⟩ : ∃ m : Nat, x.n = m := ⟨x.n.toNat, by omega⟩
    rw [hm, itoa_natP] at hd
    have := (dec_facts m).2.1 d (List.mem_of_getLast? hd)
    unfold digB at this
    intro e; subst e; exact absurd this (by decide)
  · split at hd
    · have : d = 34 := by
        rw [← List.cons_append, List.getLast?_concat] at hd
        exact (Option.some.inj hd).symm
      subst this; decide
    · split at hd
      · exact sm_not (nam_sm _ d (List.mem_of_getLast? hd)) 58 rfl
      · cases hd

theorem ins_last {x : Ci} {c : Int} (h : rightI x c = true) (hc : 0 ≤ c ∧ c ≤ 9999) : ∀ d, (insF x).getLast? = some d → d ≠ 58 ∧ bl2.contains d = false := by
  obtain ⟨h1, _⟩ := right_parts h hc
  intro d hd
  rw [ins_eq] at hd
  obtain ⟨k, hk⟩ : ∃ k : Nat, x.op = k := ⟨x.op.toNat, by omega⟩
  by_cases ha : argF x = []
  · rw [if_pos ha, List.append_nil, hk] at hd
    have := word_sm (k := k) (by omega) d (List.mem_of_getLast? hd)
    exact ⟨sm_not this 58 rfl, sm_bl this⟩
  · rw [if_neg ha, List.getLast?_append] at hd
    have e : (32 :: argF x).getLast? = (argF x).getLast? := by
      cases hq : argF x with
      | nil => exact absurd hq ha
      | cons a t => rw [List.getLast?_cons_cons]
    rw [e] at hd
    cases hq : (argF x).getLast? with
    | none => exact absurd (List.getLast?_eq_none_iff.1 hq) ha
    | some f =>
      rw [hq] at hd
      obtain rfl : f = d := by simpa using hd
      exact ⟨arg_last h hc f hq, (arg_chars h hc f (List.mem_of_getLast? hq)).2.2⟩
theorem ins_head {x : Ci} {c : Int} (h : rightI x c = true) (hc : 0 ≤ c ∧ c ≤ 9999) : ∀ d, (insF x).head? = some d → bl2.contains d = false := by
  obtain ⟨h1, _⟩ := right_parts h hc
  obtain ⟨k, hk⟩ : ∃ k : Nat, x.op = k := ⟨x.op.toNat, by omega⟩
  intro d hd
  rw [ins_eq, hk] at hd
  have hw := (word_find (k := k) (by omega)).2
  cases hq : wordF (k : Int) with
  | nil => exact absurd hq hw
  | cons a t =>
    rw [hq] at hd
    obtain rfl : a = d := by simpa using hd
    exact sm_bl (word_sm (k := k) (by omega) a (by rw [hq]; exact List.mem_cons_self))
theorem ins_chars {x : Ci} {c : Int} (h : rightI x c = true) (hc : 0 ≤ c ∧ c ≤ 9999) : ∀ d ∈ insF x, d ≠ 35 ∧ d ≠ 10 := by
  obtain ⟨h1, _⟩ := right_parts h hc
  obtain ⟨k, hk⟩ : ∃ k : Nat, x.op = k := ⟨x.op.toNat, by omega⟩
  intro d hd
  rw [ins_eq, hk] at hd
  rcases List.mem_append.1 hd with hd | hd
  · have := word_sm (k := k) (by omega) d hd
    exact ⟨sm_not this 35 rfl, sm_not this 10 rfl⟩
  · split at hd
    · cases hd
    · rcases List.mem_cons.1 hd with rfl | hd
      · decide
      · exact ⟨(arg_chars h hc d hd).1, (arg_chars h hc d hd).2.1⟩
theorem line_ins {p : Ps} {x : Ci} {c : Int} {no : Nat} (h : rightI x c = true) (hc : 0 ≤ c ∧ c ≤ 9999) (hl : p.l.length ≠ 200) : ∃ ask, lineF p (insF x) no = (⟨p.l ++ [jumpZ x], p.lab, ask⟩, 0) ∧ ask = if jumpI x = true then p.ask ++ [(p.l.length, no, argF x)] else p.ask := by
  obtain ⟨h1, _⟩ := right_parts h hc
  obtain ⟨k, hk⟩ : ∃ k : Nat, x.op = k := ⟨x.op.toNat, by omega⟩
  have hb : bareF (insF x) = insF x := bare_id (fun hm => (ins_chars h hc 35 hm).1 rfl) (ins_head h hc) (fun d hd => (ins_last h hc d hd).2)
  have hw := word_find (k := k) (by omega)
  have hsm := word_sm (k := k) (by omega)
  have hne : insF x ≠ [] := by
    rw [ins_eq, hk]
    intro e
    have := List.append_eq_nil_iff.1 e
    exact hw.2 this.1
  have hsx : [58].isSuffixOf (insF x) = false := by
    rw [suff_last]
    cases hq : (insF x).getLast? with
    | none => rfl
    | some d => exact beq_eq_false_iff_ne.2 (fun e => (ins_last h hc d hq).1 (by injection e))
  have hwa : wordAt (insF x) = (wordF x.op).length := by
    unfold wordAt
    rw [ins_eq]
    by_cases ha : argF x = []
    · rw [if_pos ha, List.append_nil, show wordF x.op ++ [32] = wordF x.op ++ 32 :: [] from rfl, idx_word _ _ (by rw [hk]; exact hsm)]; rfl
    · rw [if_neg ha, List.append_assoc, List.cons_append, idx_word _ _ (by rw [hk]; exact hsm)]; rfl
  have htk : (insF x).take (wordAt (insF x)) = wordF x.op := by rw [hwa, ins_eq]; simp
  have hrs : restF (insF x) = argF x := by
    unfold restF
    rw [hwa]
    have : (insF x).drop (wordF x.op).length = if argF x = [] then [] else 32 :: argF x := by rw [ins_eq]; simp
    rw [this]
    by_cases ha : argF x = []
    · rw [if_pos ha, ha]; rfl
    · rw [if_neg ha]
      unfold Lib.trimLeftS
      rw [List.dropWhile_cons, if_pos (by rfl)]
      exact dw_id (fun d hd => (arg_chars h hc d (List.mem_of_head? hd)).2.2)
  refine ⟨_, ?_, rfl⟩
  unfold lineF
  rw [hb, if_neg hne, if_neg (by rw [hsx]; simp), htk, hrs]
  unfold oneF
  rw [one_print h hc]
  simp only [if_neg hl]
end Go.Proofs.YtigdfkpkogompaaDoor
