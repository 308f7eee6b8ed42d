/-
  Bytes there and back (plain).
-/
import Derived.Test.YticcphppnmoogaaDoorBm16

namespace Go.Proofs.YticcphppnmoogaaDoor
open Go.RowKit

theorem short_no {n : Nat} {b : List Nat} {s : Bool} (h : shortV n b s = false) : s = false ∧ takeV n b ++ restV n b = b := by
  unfold shortV at h
  split at h
  · cases h
  · rename_i h1
    refine ⟨h, ?_⟩
    unfold takeV restV
    rw [if_neg h1, if_neg h1, List.take_append_drop]
theorem one_of {n : Nat} {b : List Nat} (hb : ∀ x ∈ b, x < 256) (hn : n = 1) : takeV n b = [b8 (numF (takeV n b) : Nat)] ∧ numF (takeV n b) < 256 := by
  subst hn
  have hl := takeV_len 1 b
  have hx := takeV_byte (n := 1) hb
  match h : takeV 1 b, hl with
  | [x], _ =>
    have h1 : x < 256 := hx x (by rw [h]; simp)
    have h2 : numF [x] = x := by show 0 * 256 + x = x; omega
    rw [h2]
    refine ⟨?_, h1⟩
    have : b8 (x : Int) = x := by unfold b8; omega
    rw [this]
theorem two_of {b : List Nat} (hb : ∀ x ∈ b, x < 256) : takeV 2 b = [b8 ((numF (takeV 2 b) / 256 : Nat) : Int), b8 (numF (takeV 2 b) : Nat)] := by
  have hl := takeV_len 2 b
  have hx := takeV_byte (n := 2) hb
  match h : takeV 2 b, hl with
  | [x, y], _ =>
    have h1 : x < 256 := hx x (by rw [h]; simp)
    have h3 : y < 256 := hx y (by rw [h]; simp)
    have h2 : numF [x, y] = x * 256 + y := by show (0 * 256 + x) * 256 + y = _; omega
    rw [h2]
    have e1 : b8 (((x * 256 + y) / 256 : Nat) : Int) = x := by unfold b8; omega
    have e2 : b8 ((x * 256 + y : Nat) : Int) = y := by unfold b8; omega
    rw [e1, e2]

theorem nextE_parts {b : List Nat} {prev : List Ex} {r : Read} (hr : readF b false = r) (h : nextE b false prev = 0) : r.s = false ∧ parseE (strN r.p) = 0 ∧ refusedE (entF r) prev = 0 ∧ r.sl = sealF (entF r) := by
  unfold nextE at h
  rw [hr] at h
  clear hr
  split at h
  · cases h
  · rename_i h1
    split at h
    · cases h
    · rename_i h2
      split at h
      · rename_i h3; exact absurd h h3
      · rename_i h3
        split at h
        · rename_i h4
          unfold eqB at h4
          exact ⟨by simpa using h1, Decidable.not_not.1 h2, Decidable.not_not.1 h3, of_decide_eq_true h4⟩
        · cases h

/-- What is read, piece by piece. -/
theorem read_parts {b : List Nat} {r : Read} (hb : ∀ x ∈ b, x < 256) (hr : readF b false = r) (h : r.s = false) :
    b = [b8 (r.k : Nat)] ++ ([b8 ((r.m / 256 : Nat) : Int), b8 (r.m : Nat)] ++ ([b8 (r.p.length : Nat)] ++ (r.p ++ ([b8 ((r.d.length / 256 : Nat) : Int), b8 (r.d.length : Nat)] ++ (r.d ++ (r.sl ++ r.b)))))) ∧ ∀ x ∈ r.p, x < 256 := by
  unfold readF at hr
  obtain ⟨b1, e1⟩ : ∃ b1, restV 1 b = b1 := ⟨_, rfl⟩
  obtain ⟨s1, f1⟩ : ∃ s1, shortV 1 b false = s1 := ⟨_, rfl⟩
  simp only [e1, f1] at hr
  obtain ⟨b2, e2⟩ : ∃ b2, restV 2 b1 = b2 := ⟨_, rfl⟩
  obtain ⟨s2, f2⟩ : ∃ s2, shortV 2 b1 s1 = s2 := ⟨_, rfl⟩
  simp only [e2, f2] at hr
  obtain ⟨n, en⟩ : ∃ n, numF (takeV 1 b2) = n := ⟨_, rfl⟩
  obtain ⟨b3, e3⟩ : ∃ b3, restV 1 b2 = b3 := ⟨_, rfl⟩
  obtain ⟨s3, f3⟩ : ∃ s3, shortV 1 b2 s2 = s3 := ⟨_, rfl⟩
  simp only [en, e3, f3] at hr
  obtain ⟨b4, e4⟩ : ∃ b4, restV n b3 = b4 := ⟨_, rfl⟩
  obtain ⟨s4, f4⟩ : ∃ s4, shortV n b3 s3 = s4 := ⟨_, rfl⟩
  simp only [e4, f4] at hr
  obtain ⟨q, eq⟩ : ∃ q, numF (takeV 2 b4) = q := ⟨_, rfl⟩
  obtain ⟨b5, e5⟩ : ∃ b5, restV 2 b4 = b5 := ⟨_, rfl⟩
  obtain ⟨s5, f5⟩ : ∃ s5, shortV 2 b4 s4 = s5 := ⟨_, rfl⟩
  simp only [eq, e5, f5] at hr
  obtain ⟨b6, e6⟩ : ∃ b6, restV q b5 = b6 := ⟨_, rfl⟩
  obtain ⟨s6, f6⟩ : ∃ s6, shortV q b5 s5 = s6 := ⟨_, rfl⟩
  simp only [e6, f6] at hr
  subst hr
  obtain ⟨g6, t7⟩ := short_no h
  rw [← f6] at g6
  obtain ⟨g5, t6⟩ := short_no g6
  rw [← f5] at g5
  obtain ⟨g4, t5⟩ := short_no g5
  rw [← f4] at g4
  obtain ⟨g3, t4⟩ := short_no g4
  rw [← f3] at g3
  obtain ⟨g2, t3⟩ := short_no g3
  rw [← f2] at g2
  obtain ⟨g1, t2⟩ := short_no g2
  rw [← f1] at g1
  obtain ⟨-, t1⟩ := short_no g1
  have y1 : ∀ x ∈ b1, x < 256 := by rw [← e1]; exact restV_byte hb
  have y2 : ∀ x ∈ b2, x < 256 := by rw [← e2]; exact restV_byte y1
  have y3 : ∀ x ∈ b3, x < 256 := by rw [← e3]; exact restV_byte y2
  have y4 : ∀ x ∈ b4, x < 256 := by rw [← e4]; exact restV_byte y3
  have o1 := (one_of hb rfl).1
  have o2 := two_of y1
  have o3 := (one_of y2 rfl).1
  have o5 := two_of y4
  rw [en] at o3
  rw [eq] at o5
  refine ⟨?_, takeV_byte y3⟩
  show b = [b8 (numF (takeV 1 b) : Nat)] ++ ([b8 ((numF (takeV 2 b1) / 256 : Nat) : Int), b8 (numF (takeV 2 b1) : Nat)] ++ ([b8 ((takeV n b3).length : Nat)] ++ (takeV n b3 ++ ([b8 (((takeV q b5).length / 256 : Nat) : Int), b8 ((takeV q b5).length : Nat)] ++ (takeV q b5 ++ (takeV 8 b6 ++ restV 8 b6))))))
  rw [takeV_len n b3, takeV_len q b5, ← o1, ← o2, ← o3, ← o5, t7, ← e6, t6, ← e5, t5, ← e4, t4, ← e3, t3, ← e2, t2, ← e1, t1]

theorem next_back {b : List Nat} {prev : List Ex} (hb : ∀ x ∈ b, x < 256) (h : nextE b false prev = 0) : refusedE (entF (readF b false)) prev = 0 ∧ ebF (entF (readF b false)) ++ (readF b false).b = b := by
  obtain ⟨r, hr⟩ : ∃ r, readF b false = r := ⟨_, rfl⟩
  obtain ⟨hs, hp, href, hq⟩ := nextE_parts hr h
  obtain ⟨hbb, hyp⟩ := read_parts hb hr hs
  rw [hr]
  clear hr h
  refine ⟨href, ?_⟩
  obtain ⟨p1, p2, p3⟩ := paths_zero (show pathsE (entF r).path = 0 from (refused_zero href).1)
  have ht : txtF (entF r).path = strN r.p := txt_parse hp p2
  have e1 : ebF (entF r) = [b8 (r.k : Nat)] ++ ([b8 ((r.m / 256 : Nat) : Int), b8 (r.m : Nat)] ++ ([b8 (r.p.length : Nat)] ++ (r.p ++ ([b8 ((r.d.length / 256 : Nat) : Int), b8 (r.d.length : Nat)] ++ (r.d ++ r.sl))))) := by
    rw [hq]
    unfold ebF headF sizeF
    rw [ht, strN_size, bys_strN hyp]
    have e2 : (entF r).mode / 256 = ((r.m / 256 : Nat) : Int) := by show ((r.m : Nat) : Int) / 256 = _; omega
    rw [e2]
    simp [entF]
  rw [e1]
  conv => rhs; rw [hbb]
  simp

theorem decF_some {n : Nat} {b : List Nat} {l : List En} {o : List En × List Nat} (h : decF (n + 1) b l = some o) : nextE b false (l.map toEx) = 0 ∧ decF n (readF b false).b (l ++ [entF (readF b false)]) = some o := by
  rw [decF] at h
  by_cases h0 : nextE b false (l.map toEx) = 0
  · rw [if_pos h0] at h; exact ⟨h0, h⟩
  · rw [if_neg h0] at h; cases h
theorem decF_back (n : Nat) : ∀ (b : List Nat) (done l : List En) (r : List Nat), (∀ x ∈ b, x < 256) → decF n b done = some (l, r) →
    ∃ l1, l = done ++ l1 ∧ l1.length = n ∧ l1.flatMap ebF ++ r = b ∧ ∀ j e, l1[j]? = some e → refusedE e ((done ++ l1.take j).map toEx) = 0 := by
  induction n with
  | zero =>
    intro b done l r _ h
    have h : some (done, b) = some (l, r) := h
    simp only [Option.some.injEq, Prod.mk.injEq] at h
    exact ⟨[], by simp [h.1], rfl, by simp [h.2], fun j e he => by simp at he⟩
  | succ n ih =>
    intro b done l r hb h
    obtain ⟨h0, h⟩ := decF_some h
    obtain ⟨h1, h2⟩ := next_back hb h0
    have hby := readF_byte (s := false) hb
    obtain ⟨rd, hrd⟩ : ∃ rd, readF b false = rd := ⟨_, rfl⟩
    rw [hrd] at h h1 h2 hby
    clear hrd h0
    obtain ⟨l1, q1, q2, q3, q4⟩ := ih _ _ l r hby h
    refine ⟨entF rd :: l1, by rw [q1]; simp, by simp [q2], ?_, fun j e he => ?_⟩
    · rw [List.flatMap_cons, List.append_assoc, q3, h2]
    · cases j with
      | zero => simp at he; subst he; simpa using h1
      | succ j =>
        have := q4 j e (by simpa using he)
        simpa using this

theorem decode_back {b : List Nat} {y : List Ex} (hb : ∀ x ∈ b, x < 256) (h : decodeF b = some (y.map (·.e))) : encF y = b ∧ y.length ≤ 40 ∧ ∀ j x, y[j]? = some x → refusedE x.e (y.take j) = 0 := by
  unfold decodeF at h
  split at h
  · rename_i hc
    obtain ⟨c1, c2, c3⟩ := hc
    cases hd : decF (b.getD 4 0) (b.drop 5) [] with
    | none => rw [hd] at h; cases h
    | some lr =>
      obtain ⟨l, r⟩ := lr
      rw [hd] at h
      have h : (if r = [] then some l else none) = some (y.map (·.e)) := h
      split at h
      · rename_i hr
        subst hr
        injection h with h
        subst h
        obtain ⟨l1, q1, q2, q3, q4⟩ := decF_back _ _ _ _ _ (fun x hx => hb x (List.mem_of_mem_drop hx)) hd
        simp only [List.nil_append] at q1 q4
        subst q1
        rw [List.length_map] at q2
        refine ⟨?_, by omega, fun j x hx => ?_⟩
        · rw [encF_map]
          rw [List.append_nil] at q3
          rw [q3, q2]
          unfold eqB at c1
          have e1 := of_decide_eq_true c1
          rw [← e1]
          obtain ⟨z, hz⟩ : ∃ z, b[4]? = some z := ⟨_, List.getElem?_eq_getElem (by omega)⟩
          have hz2 : z < 256 := hb z (List.mem_of_getElem? hz)
          have e2 : b.getD 4 0 = z := by rw [List.getD_eq_getElem?_getD, hz]; rfl
          have e3 : b8 ((z : Nat) : Int) = z := by unfold b8; omega
          rw [e2, e3]
          have e4 : b.drop 4 = z :: b.drop 5 := by rw [List.drop_eq_getElem_cons (by omega)]; congr 1; exact Option.some.inj ((List.getElem?_eq_getElem (by omega)).symm.trans hz)
          rw [← e4, List.take_append_drop]
        · have := q4 j x.e (by simp [hx])
          rw [← refusedE_bare]
          simpa [bare, List.map_take, Function.comp_def] using this
      · cases h
  · cases h

end Go.Proofs.YticcphppnmoogaaDoor
