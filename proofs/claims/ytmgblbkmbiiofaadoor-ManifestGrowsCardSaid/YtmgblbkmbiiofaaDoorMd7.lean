/-
  The contracts of creelref05.Name, Right, Text.
  Cutting at slashes and joining with them (plain).
  A path's text, parsed, is the path; a parsed text is the path's text (plain).
  A region that draws its order: reads and quiet calls first, in any order; then a tail in which an operation either is the only one that may come up, or hands on a value without looking at the world.
  A region that draws its order, operation by operation, by hand: the operations as a list.
-/
import Derived.Test.YtmgblbkmbiiofaaDoorMd4
import Derived.Test.YtmgblbkmbiiofaaDoorMd1
import Derived.Test.YtmgblbkmbiiofaaDoorMd2
import Derived.OrdersHeld

namespace Go.Proofs.YtmgblbkmbiiofaaDoor
open Go.RowKit
attribute [local go_sem ↓] Go.wp_at_zero Go.wp_at_succ

def mayS : ByteArray := ⟨#[97, 98, 99, 100, 101, 102, 103, 104, 105, 106, 107, 108, 109, 110, 111, 112, 113, 114, 115, 116, 117, 118, 119, 120, 121, 122, 48, 49, 50, 51, 52, 53, 54, 55, 56, 57, 46, 45, 95]⟩
def hasK (k : Nat) (c : UInt8) : Bool := (mayS.data.toList.take k).any fun d => d == c
theorem mayS_size : mayS.size = 39 := rfl
theorem hasK_succ {k : Nat} {c : UInt8} (h : k < mayS.size) : hasK (k + 1) c = (hasK k c || mayS[k] == c) := by
  unfold hasK
  rw [take_snoc' (at_list h), List.any_append]; simp
theorem hasK_all_fin : ∀ a : Fin 4, ∀ b : Fin 64, hasK 39 (UInt8.ofNat (64 * a.val + b.val)) = signB ((64 * a.val + b.val : Nat) : Int) := by decide +kernel
theorem hasK_all (c : UInt8) : hasK 39 c = signB (c.toNat : Nat) := by
  have h := hasK_all_fin ⟨c.toNat / 64, by have := c.toNat_lt; omega⟩ ⟨c.toNat % 64, by omega⟩
  have e : 64 * (c.toNat / 64) + c.toNat % 64 = c.toNat := by omega
  simp only [e] at h
  rw [UInt8.ofNat_toNat] at h
  exact h



def strk (p : List ByteArray) : ByteArray := p.foldl (fun a s => a ++ ⟨#[47]⟩ ++ s) ⟨#[]⟩
theorem strk_snoc (p : List ByteArray) (s : ByteArray) : strk (p ++ [s]) = strk p ++ ⟨#[47]⟩ ++ s := by simp [strk, List.foldl_append]
theorem ba_data (a b : ByteArray) : (a ++ b).data.toList = a.data.toList ++ b.data.toList := by rw [ByteArray.data_append, Array.toList_append]
theorem fold_data (p : List ByteArray) : ∀ a : ByteArray, (p.foldl (fun a s => a ++ ⟨#[47]⟩ ++ s) a).data.toList = a.data.toList ++ p.flatMap fun s => 47 :: s.data.toList := by
  induction p with
  | nil => intro a; simp
  | cons s p ih => intro a; rw [List.foldl_cons, ih, ba_data, ba_data]; simp
theorem strk_data (p : List ByteArray) : (strk p).data.toList = p.flatMap fun s => 47 :: s.data.toList := by
  unfold strk; rw [fold_data]; rfl
theorem join_data : ∀ p : List ByteArray, p ≠ [] → 47 :: Lib.join (p.map (·.data.toList)) [47] = p.flatMap fun s => 47 :: s.data.toList
  | [], h => absurd rfl h
  | [s], _ => by simp [Lib.join_one]
  | s :: t :: p, _ => by
    have ih := join_data (t :: p) (by simp)
    rw [List.flatMap_cons, ← ih]
    simp only [List.map_cons]
    rw [Lib.join_cons, Lib.join_cons]
    simp [Lib.joinTail]
theorem strk_txt {p : List ByteArray} (h : p ≠ []) : strk p = txtF p := by
  unfold txtF
  rw [if_neg h]
  apply ByteArray.ext
  apply Array.ext'
  rw [strk_data, ba_data, ← join_data p h]
  simp [joinF]
theorem strk_size {k : Nat} : ∀ p : List ByteArray, (∀ s ∈ p, s.size ≤ k) → (strk p).size ≤ p.length * (k + 1) := by
  intro p h
  have e : (strk p).size = (strk p).data.toList.length := by simp
  rw [e, strk_data]
  clear e
  induction p with
  | nil => simp
  | cons s p ih =>
    have h1 := h s (List.mem_cons_self ..)
    have h2 := ih (fun x hx => h x (List.mem_cons_of_mem _ hx))
    rw [List.flatMap_cons, List.length_append, List.length_cons, List.length_cons, Nat.add_mul]
    have e : s.data.toList.length = s.size := by simp
    omega


end Go.Proofs.YtmgblbkmbiiofaaDoor

namespace Go.Proofs.YtmgblbkmbiiofaaDoor
open Go.RowKit

end Go.Proofs.YtmgblbkmbiiofaaDoor

namespace Go.Proofs.YtmgblbkmbiiofaaDoor
open Go.RowKit

theorem ba_ext {s t : ByteArray} (h : s.data.toList = t.data.toList) : s = t := ByteArray.ext (Array.ext' h)
theorem parts_data (s : ByteArray) : (partsF s).map (·.data.toList) = Lib.split s.data.toList [47] := Lib.splitB_data ⟨#[47]⟩ 0 _ s
theorem map_data_inj : ∀ {p q : List ByteArray}, p.map (·.data.toList) = q.map (·.data.toList) → p = q
  | [], [], _ => rfl
  | [], _ :: _, h => by simp at h
  | _ :: _, [], h => by simp at h
  | s :: p, t :: q, h => by
    simp only [List.map_cons, List.cons.injEq] at h
    rw [ba_ext h.1, map_data_inj h.2]
theorem name_noslash {s : ByteArray} (h : nameB s = true) : (47 : UInt8) ∉ s.data.toList := fun hm => by
  unfold nameB at h
  simp only [Bool.and_eq_true, List.all_eq_true] at h
  have := h.2 47 hm
  revert this
  decide
theorem name_pos {s : ByteArray} (h : nameB s = true) : 1 ≤ s.size := by
  unfold nameB at h
  simp only [Bool.and_eq_true, decide_eq_true_eq] at h
  exact h.1.1.1.1
theorem parts_join {p : List ByteArray} (h : rightB p = true) (hp : p ≠ []) : partsF (joinF p) = p := by
  apply map_data_inj
  rw [parts_data]
  show Lib.split (Lib.join (p.map (·.data.toList)) [47]) [47] = _
  refine split_join _ (by simpa using hp) (fun x hx => ?_)
  obtain ⟨s, hs, rfl⟩ := List.mem_map.1 hx
  unfold rightB at h
  simp only [Bool.and_eq_true, List.all_eq_true] at h
  exact name_noslash (h.2 s hs)
theorem join_parts (s : ByteArray) : joinF (partsF s) = s := by
  apply ba_ext
  show Lib.join ((partsF s).map (·.data.toList)) [47] = _
  rw [parts_data, join_split]
theorem txt_data {p : List ByteArray} (hp : p ≠ []) : (txtF p).data.toList = 47 :: (joinF p).data.toList := by
  unfold txtF
  rw [if_neg hp]
  simp
theorem abs_slash (s : ByteArray) (r : List UInt8) (h : s.data.toList = 47 :: r) : isAbs s = true ∧ (cutF s).data.toList = r := by
  unfold isAbs cutF Lib.trimPrefix
  rw [h]
  simp [Lib.hasPrefix, List.isPrefixOf]
theorem abs_form {s : ByteArray} (h : isAbs s = true) : s.data.toList = 47 :: (cutF s).data.toList := by
  cases hs : s.data.toList with
  | nil => unfold isAbs at h; rw [hs] at h; simp [Lib.hasPrefix] at h
  | cons b r =>
    have hb : b = 47 := by
      unfold isAbs at h; rw [hs] at h
      simp [Lib.hasPrefix] at h
      exact h.symm
    subst hb
    rw [(abs_slash s r hs).2]

theorem parse_txt {p : List ByteArray} (h : rightB p = true) (hp : p ≠ []) (hs : (txtF p).size ≤ 160) : parseP (txtF p) = p ∧ parseE (txtF p) = 0 := by
  obtain ⟨h1, h2⟩ := abs_slash (txtF p) _ (txt_data hp)
  have h3 : cutF (txtF p) = joinF p := ba_ext h2
  have h4 : ¬ joinF p = ⟨#[]⟩ := fun e => by
    have h5 := parts_join h hp
    rw [e] at h5
    have h6 : partsF ⟨#[]⟩ = [⟨#[]⟩] := by decide +kernel
    rw [h6] at h5
    subst h5
    revert h; decide +kernel
  have h5 : parseP (txtF p) = p := by
    unfold parseP
    rw [h3, if_neg h4, parts_join h hp]
  refine ⟨h5, ?_⟩
  unfold parseE
  rw [if_neg (by omega), if_neg (by rw [h1]; decide), h5, if_pos h]
theorem txt_parse {S : ByteArray} (h : parseE S = 0) (hp : parseP S ≠ []) : txtF (parseP S) = S := by
  have hA : isAbs S = true := by
    unfold parseE at h
    split at h
    · cases h
    · split at h
      · cases h
      · rename_i h2; simpa using h2
  apply ba_ext
  rw [txt_data hp, abs_form hA]
  unfold parseP at hp ⊢
  split at hp
  · exact absurd rfl hp
  · rename_i h2
    rw [if_neg h2, join_parts]

end Go.Proofs.YtmgblbkmbiiofaaDoor

namespace Go.Proofs.YtmgblbkmbiiofaaDoor
open Go

section
variable {P : Program} {ops : Array Oper} {md : Region.Mode}

/-- Each operation of the tail waits for an earlier one of the tail. -/
def tailB (md : Region.Mode) (ops : Array Oper) (n : Nat) : Bool :=
  (List.range ops.size).all fun t => decide (t ≤ n) || (List.range t).any fun j => decide (n ≤ j) && Region.waitsFor md ops t j

theorem head_first {n : Nat} {listed : Array Bool} (hs : Region.sinkB md ops n = true) (hc : tailB md ops n = true) (inv : HeadInv md ops n listed) {i : Nat} (hi : i < n) (hun : listed.getD i true = false) : ∀ t, n ≤ t → t ∉ Region.ready md ops listed := by
  have hclosed : ∀ j k oj, ops[j]? = some oj → Region.waitsFor md ops j k = true → listed.getD j true = false ∨ listed.getD k false = true := fun j k oj hj hw => by
    obtain ⟨o', ho', e, he, hb, hon⟩ := Region.waitsFor_spec hw
    rw [hj] at ho'
    injection ho' with ho'
    subst ho'
    cases hl : listed.getD j false with
    | false => exact .inl (getD_in (by rw [inv.size]; exact (Array.getElem?_eq_some_iff.1 hj).1) hl)
    | true =>
      refine .inr ?_
      have h1 := inv.closed j oj hj hl e he hb
      rw [hon] at h1
      exact h1
  have hready : ∀ t k, t ∈ Region.ready md ops listed → Region.waitsFor md ops t k = true → listed.getD k false = true := fun t k ht hw => by
    obtain ⟨_, ot, hot, hall⟩ := mem_ready.1 ht
    obtain ⟨o', ho', e, he, hb, hon⟩ := Region.waitsFor_spec hw
    rw [hot] at ho'
    injection ho' with ho'
    subst ho'
    have := hall e he hb
    rw [hon] at this
    exact this
  have key : ∀ (d i : Nat), n - i = d → i < n → listed.getD i true = false → n ∉ Region.ready md ops listed := by
    intro d
    induction d using Nat.strongRecOn with
    | _ d ih =>
      intro i hd hi hun hr
      unfold Region.sinkB at hs
      have h1 := List.all_eq_true.1 hs i (by simpa using hi)
      obtain ⟨j, hj, h2⟩ := List.any_eq_true.1 h1
      simp only [List.mem_range] at hj
      simp only [Bool.and_eq_true, decide_eq_true_eq] at h2
      rcases Nat.lt_or_ge j n with hjn | hjn
      · obtain ⟨oj, hoj, -⟩ := Region.waitsFor_spec h2.2
        rcases hclosed j i oj hoj h2.2 with h3 | h3
        · exact ih (n - j) (by omega) j rfl hjn h3 hr
        · rw [getD_both hun] at h3; cases h3
      · have e : j = n := by omega
        subst e
        have h3 := hready _ i hr h2.2
        have h4 := getD_both hun
        rw [h4] at h3; cases h3
  intro t ht hr
  rcases Nat.lt_or_ge n t with hlt | hge
  · have hts : t < ops.size := by
      obtain ⟨_, ot, hot, _⟩ := mem_ready.1 hr
      exact (Array.getElem?_eq_some_iff.1 hot).1
    unfold tailB at hc
    have h1 := List.all_eq_true.1 hc t (by simpa using hts)
    simp only [Bool.or_eq_true, decide_eq_true_eq] at h1
    rcases h1 with h1 | h1
    · omega
    · obtain ⟨j, hj, h2⟩ := List.any_eq_true.1 h1
      simp only [List.mem_range] at hj
      simp only [Bool.and_eq_true, decide_eq_true_eq] at h2
      have h3 := hready t j hr h2.2
      have h4 := getD_both (inv.tail j h2.1 (by omega))
      rw [h4] at h3; cases h3
  · have e : t = n := by omega
    subst e
    exact key _ i rfl hi hun hr

/-- An operation that hands on a value without looking at the world. -/
def lightB (o : Oper) : Bool := o.guard.isNone && match o.op with
  | .move _ | .assign _ | .extract _ _ => true
  | _ => false

theorem light_pure {o : Oper} {a : Act} {w : World} {K : Act → World → Prop} {Q : Exit → Act → World → Prop} {v : Value} (e : execOp a.eval o = pure (.value v)) (hh : o.wp P a w K Q ∨ (o.asks P a w ∧ LetsOut Q)) :
    ∃ v, (∀ w', (execOp a.eval o).run P w' = .ok (.value v) w') ∧ K (a.put o.dst v) w := by
  refine ⟨v, fun w' => by rw [e]; rfl, ?_⟩
  rcases hh with hh | hh
  · unfold Oper.wp at hh; rw [e] at hh; exact hh
  · have h1 := hh.1.1
    rw [e] at h1
    have h0 : noRoomEvent ∈ (#[] : Array Event) := h1
    simp at h0

theorem light_stuck {o : Oper} {a : Act} {w : World} {K : Act → World → Prop} {Q : Exit → Act → World → Prop} {s : String} (e : execOp a.eval o = (do pure (Next.value (← (stuck s : Sem Value))))) (hh : o.wp P a w K Q ∨ (o.asks P a w ∧ LetsOut Q)) : False := by
  rcases hh with hh | hh
  · unfold Oper.wp at hh; rw [e] at hh; exact hh
  · have h1 := hh.1.1
    rw [e] at h1
    have h0 : noRoomEvent ∈ (#[] : Array Event) := h1
    simp at h0

theorem light_yields {o : Oper} (h : lightB o = true) {a : Act} {w : World} {K : Act → World → Prop} {Q : Exit → Act → World → Prop} (hh : o.wp P a w K Q ∨ (o.asks P a w ∧ LetsOut Q)) :
    ∃ v, (∀ w', (execOp a.eval o).run P w' = .ok (.value v) w') ∧ K (a.put o.dst v) w := by
  unfold lightB at h
  simp only [Bool.and_eq_true] at h
  obtain ⟨-, h⟩ := h
  split at h
  · rename_i x hx
    exact light_pure (v := a.eval x) (by unfold execOp; simp [hx]) hh
  · rename_i x hx
    exact light_pure (v := a.eval x) (by unfold execOp; simp [hx]) hh
  · rename_i x ix hx
    have e0 : execOp a.eval o = (do pure (Next.value (← Instr.extract (a.eval x) ix))) := by unfold execOp; simp only [hx]
    unfold Instr.extract at e0
    split at e0
    · split at e0
      · exact light_pure e0 hh
      · exact (light_stuck e0 hh).elim
    · exact (light_stuck e0 hh).elim
  · cases h

def lineB (md : Region.Mode) (ops : Array Oper) : Nat → Nat → Array Bool → Bool
  | 0, _, s => (Region.ready md ops s).isEmpty
  | g + 1, k, s => (decide (Region.ready md ops s = [k]) || (((ops[k]?).map lightB).getD false && (Region.ready md ops s).contains k && Region.free md ops s k)) && lineB md ops g (k + 1) (s.setIfInBounds k true)

theorem wpAnyH_of_line (hsel : Region.noSelect ops = true) {Q : Exit → Act → World → Prop} (hQ : ∀ c a d v w, Q (.panic c) (Act.put a d v) w → Q (.panic c) a w) : ∀ (l : List Oper) (k : Nat) (s : Array Bool) (a : Act) (w : World), (∀ j, l[j]? = ops[k + j]?) →
    lineB md ops l.length k s = true → wpList P ops Q l a w → wpAnyH P md ops Q (fun _ => True) l.length s a w
  | [], _, _, _, _, _, hB, h => ⟨by simpa [lineB] using hB, h⟩
  | o :: l, k, s, a, w, hl, hB, h => by
    have h0 : ops[k]? = some o := by simpa using (hl 0).symm
    have hl' : ∀ j, l[j]? = ops[k + 1 + j]? := fun j => by have := hl (j + 1); simpa [Nat.add_assoc, Nat.add_comm 1 j] using this
    simp only [List.length_cons, lineB, Bool.and_eq_true, Bool.or_eq_true, decide_eq_true_eq] at hB
    obtain ⟨hB1, hB2⟩ := hB
    rcases hB1 with hB1 | ⟨⟨hB1, hr⟩, hf⟩
    · refine wpAnyH_all hB1 (by simp) fun i hi => ?_
      obtain rfl : i = k := by simpa using hi
      have hw : wpOp P ops Q i (wpList P ops Q l) a w := by unfold wpOp; simp only [h0]; exact h
      exact wpOp_mono (fun a' w' h' => ⟨trivial, wpAnyH_of_line hsel hQ l (i + 1) _ a' w' hl' hB2 h'⟩) hw
    · have hlight : lightB o = true := by rw [h0] at hB1; simpa using hB1
      have hg : o.guard = none := by
        unfold lightB at hlight
        simp only [Bool.and_eq_true, Option.isNone_iff_eq_none] at hlight
        exact hlight.1
      have hwant : Region.wanted o (yielded ops a.tmps) = true := by simp [Region.wanted, hg]
      unfold wpList at h
      rw [if_pos hwant] at h
      obtain ⟨v, hv, hK⟩ := light_yields hlight h
      exact wpAnyH_take h0 hsel hf hr (fun c a w => hQ c a _ _ w) (.inl ⟨hwant, fun w' _ => hv w'⟩) trivial (wpAnyH_of_line hsel hQ l (k + 1) _ _ w hl' hB2 hK)

def lineHead (md : Region.Mode) (ops : Array Oper) (g : Nat) : Nat → Nat → Array Bool → Bool
  | 0, k, s => lineB md ops g k s && (Region.ready md ops s).all fun j => decide (k ≤ j)
  | f + 1, k, s => (Region.ready md ops s).contains k && Region.free md ops s k && lineHead md ops g f (k + 1) (s.setIfInBounds k true)

theorem headQ_firstT {C : World → Prop} {n i : Nat} {o : Oper} {v : Value} {L : Array Bool → Act → Prop} (hi : ops[i]? = some o) (hsel : ∀ (j : Nat) (o : Oper) cs b, ops[j]? = some o → o.op ≠ .select cs b)
    (hs : Region.sinkB md ops n = true) (hc : tailB md ops n = true) (hin : i < n) (hdone : ∀ s a, L s a → ∀ j ∈ Region.ready md ops s, n ≤ j) :
    ∀ (f : Nat) (s : Array Bool) (a : Act), HeadInv md ops n s →
      (∀ j oj, ops[j]? = some oj → j ≠ i → s.getD j true = false → (∀ e ∈ oj.after, Region.binds md e = true → e.on ≠ i) → o.apart ops oj = true) →
      i ∈ Region.ready md ops s → YieldsIn P ops C o v a → HeadQ P md ops C n L f (s.setIfInBounds i true) (a.put o.dst v) → HeadQ P md ops C n L (f + 1) s a := by
  intro f
  induction f with
  | zero =>
    intro s a inv _ hr hy H
    refine ⟨fun e => (by rw [e] at hr; cases hr), fun j hj => ?_⟩
    have hjn : j < n := Nat.lt_of_not_le fun h => head_first hs hc inv hin (mem_ready.1 hr).1 j h hj
    refine ⟨hjn, ?_⟩
    by_cases e : j = i
    · subst e; exact hy.qOp hi H
    · exact absurd (hdone _ _ H j (ready_mono hj e)) (by omega)
  | succ f ih =>
    intro s a inv free hr hy H
    refine ⟨fun e => (by rw [e] at hr; cases hr), fun j hj => ?_⟩
    have hjn : j < n := Nat.lt_of_not_le fun h => head_first hs hc inv hin (mem_ready.1 hr).1 j h hj
    refine ⟨hjn, ?_⟩
    by_cases e : j = i
    · subst e; exact hy.qOp hi H
    · obtain ⟨hun, oj, hoj, hall⟩ := mem_ready.1 hj
      have no : ∀ x ∈ oj.after, Region.binds md x = true → x.on ≠ i := fun x hx hb he => by
        have h1 := hall x hx hb
        rw [he, getD_both (mem_ready.1 hr).1] at h1
        cases h1
      have h2 := qOp_put hoj (free j oj hoj e hun no) (fun cs b => hsel i o cs b hi) (fun cs b => hsel j oj cs b hoj) hy (H.2 j (ready_mono hj e)).2
      refine qOp_mono (fun a' h3 => ih (s.setIfInBounds j true) a' (inv.set hj hjn) (fun k ok hk hki hku hno => free k ok hk hki ?_ hno) (ready_mono hr (Ne.symm e)) h3.1 ?_) h2
      · by_cases hjk : j = k
        · subst hjk; exact hun
        · rw [getD_set_ne true hjk] at hku; exact hku
      · rw [Array.setIfInBounds_comm _ _ e]; exact h3.2

theorem headQ_line {C : World → Prop} {n g : Nat} {K : Act → Prop} (hsel : Region.noSelect ops = true) (hs : Region.sinkB md ops n = true) (hc : tailB md ops n = true) :
    ∀ (l : List Oper) (k : Nat) (s : Array Bool) (a : Act), (∀ j, j < l.length → l[j]? = ops[k + j]?) → k + l.length = n → HeadInv md ops n s → lineHead md ops g l.length k s = true →
      wpQuiet P ops C K l a → HeadQ P md ops C n (fun s' a' => (lineB md ops g n s' = true ∧ ∀ j ∈ Region.ready md ops s', n ≤ j) ∧ K a') l.length s a := by
  intro l
  induction l with
  | nil =>
    intro k s a _ hk _ hB h
    have e : k = n := by simpa using hk
    subst e
    refine ⟨?_, h⟩
    simp only [List.length_nil, lineHead, Bool.and_eq_true, List.all_eq_true, decide_eq_true_eq] at hB
    exact hB
  | cons o l ih =>
    intro k s a hl hk inv hB h
    have h0 : ops[k]? = some o := by simpa using (hl 0 (by simp)).symm
    simp only [List.length_cons, lineHead, Bool.and_eq_true] at hB hk
    obtain ⟨⟨hr, hf⟩, hB⟩ := hB
    have hr' : k ∈ Region.ready md ops s := by simpa using hr
    have hq : qOp P ops C k (wpQuiet P ops C K l) a := by unfold qOp; simp only [h0]; exact h
    obtain ⟨v, hy, hK⟩ := yieldsIn_of_qOp h0 hq
    exact headQ_firstT h0 (Region.noSelect_spec hsel) hs hc (by omega) (fun _ _ hL => hL.1.2) l.length s a inv (Region.free_spec h0 hf) hr' hy
      (ih (k + 1) _ _ (fun j hj => by have := hl (j + 1) (by simp; omega); simpa [Nat.add_assoc, Nat.add_comm 1 j] using this) (by omega) (inv.set hr' (by omega)) hB hK)

def lineTailB (md : Region.Mode) (ops : Array Oper) (n : Nat) : Bool :=
  Region.noSelect ops && decide (n < ops.size) && Region.sinkB md ops n && tailB md ops n && lineHead md ops (ops.size - n) n 0 (Array.replicate ops.size false)

/-- Behind the head, the tail as a plain list, in every world of the class. -/
theorem wp_region_quiet_line {id : Nat} {Q : Exit → Act → World → Prop} {a : Act} {w : World} {l : List Oper} (n : Nat) (hm : P.follows .mixedOrders = true) (hB : lineTailB .any l.toArray n = true)
    (h : wpQuiet P l.toArray (fun w' => ∃ k, w' = w.drewN k) (fun a' => ∀ w', (∃ k, w' = w.drewN k) → wpList P l.toArray (NoPanic Q) (l.drop n) a' w') (l.take n) a) : (Code.region id l.toArray true).wp P Q a w := by
  simp only [lineTailB, Bool.and_eq_true, decide_eq_true_eq] at hB
  obtain ⟨⟨⟨⟨hsel, hn⟩, hs⟩, hc⟩, hlex⟩ := hB
  have hn' : n < l.length := by simpa using hn
  have htl : (l.take n).length = n := by simp; omega
  have hdl : (l.drop n).length = l.toArray.size - n := by simp
  have inv0 : HeadInv .any l.toArray n (Array.replicate l.toArray.size false) :=
    ⟨by simp, fun j oj _ hl => (by rw [getD_replicate_false] at hl; cases hl), fun t _ ht => getD_in (by simpa using ht) (getD_replicate_false _ _)⟩
  have H := headQ_line (md := .any) (g := l.toArray.size - n) hsel hs hc (l.take n) 0 _ a (fun j hj => by
    have hj' : j < n := by rw [htl] at hj; exact hj
    simp [hj']) (by simpa using htl) inv0 (by rw [htl]; exact hlex) h
  refine wp_region_noPanic ?_
  refine wp_region_any hm ?_
  have := headQ_any (C := fun w' => ∃ k, w' = w.drewN k) (Q := NoPanic Q) (g := l.toArray.size - n) (fun s a' w' hw' hL => by
    have := wpAnyH_of_line (md := .any) hsel (Q := NoPanic Q) (fun _ _ _ _ _ h => h) (l.drop n) n s a' w' (fun j => by simp [List.getElem?_drop]) (by rw [hdl]; exact hL.1.1) (hL.2 w' hw')
    rw [hdl] at this
    exact wpAny_of_held _ _ _ _ this) _ _ _ { w with drawn := w.drawn + 1 } ⟨1, rfl⟩ H
  rw [htl, show n + (l.toArray.size - n) = l.toArray.size by omega] at this
  exact this
end

end Go.Proofs.YtmgblbkmbiiofaaDoor

namespace Go.Proofs.YtmgblbkmbiiofaaDoor
open Go

section
variable {P : Program} {md : Region.Mode} {S : World → Prop} {Q : Exit → Act → World → Prop} {l : List Oper} {s : Array Bool} {a : Act} {w : World} {f : Nat}

theorem wpAnyH_takeL {i : Nat} {o : Oper} {v : Value} (ho : l[i]? = some o) (hs : Region.noSelect l.toArray = true) (hf : Region.free md l.toArray s i = true) (hr : (Region.ready md l.toArray s).contains i = true)
    (hQ : ∀ c a w, Q (.panic c) (a.put o.dst v) w → Q (.panic c) a w) (hy : YieldsIf P l.toArray S o v a) (hS : S w) (h : wpAnyH P md l.toArray Q S f (s.setIfInBounds i true) (a.put o.dst v) w) : wpAnyH P md l.toArray Q S (f + 1) s a w :=
  wpAnyH_take (by simpa using ho) hs hf hr hQ hy hS h

theorem wpOp_ofL {i : Nat} {o : Oper} {K : Act → World → Prop} (hi : l[i]? = some o) (hg : o.guard = none) (h : o.wp P a w K Q) : wpOp P l.toArray Q i K a w := by
  have hw : Region.wanted o (yielded l.toArray a.tmps) = true := by simp [Region.wanted, hg]
  have hi' : l.toArray[i]? = some o := by simpa using hi
  unfold wpOp
  simp only [hi', hw, if_true]
  exact .inl h

theorem wpAnyH_oneL {k : Nat} {o : Oper} (ho : l[k]? = some o) (hr : Region.ready md l.toArray s = [k]) (hg : o.guard = none)
    (h : o.wp P a w (fun a' w' => S w' ∧ wpAnyH P md l.toArray Q S f (s.setIfInBounds k true) a' w') Q) : wpAnyH P md l.toArray Q S (f + 1) s a w := by
  refine wpAnyH_all hr (by simp) fun i hi => ?_
  obtain rfl : i = k := by simpa using hi
  exact wpOp_ofL ho hg h

theorem wpAnyH_twoL {i j : Nat} {o o' : Oper} (ho : l[i]? = some o) (ho' : l[j]? = some o') (hr : Region.ready md l.toArray s = [i, j]) (hg : o.guard = none) (hg' : o'.guard = none)
    (h : o.wp P a w (fun a' w' => S w' ∧ wpAnyH P md l.toArray Q S f (s.setIfInBounds i true) a' w') Q)
    (h' : o'.wp P a w (fun a' w' => S w' ∧ wpAnyH P md l.toArray Q S f (s.setIfInBounds j true) a' w') Q) : wpAnyH P md l.toArray Q S (f + 1) s a w := by
  refine wpAnyH_all hr (by simp) fun k hk => ?_
  simp only [List.mem_cons, List.not_mem_nil, or_false] at hk
  rcases hk with rfl | rfl
  · exact wpOp_ofL ho hg h
  · exact wpOp_ofL ho' hg' h'

theorem wp_of_run {o : Oper} {K : Act → World → Prop} {v : Value} {w' : World} (hrun : (execOp a.eval o).run P w = .ok (.value v) w') (h : K (a.put o.dst v) w') : o.wp P a w K Q := by
  unfold Oper.wp; rw [hrun]; exact h
theorem wp_of_skip {o : Oper} {K : Act → World → Prop} {w' : World} (hrun : (execOp a.eval o).run P w = .ok .skip w') (h : K (a.put o.dst undef) w') : o.wp P a w K Q := by
  unfold Oper.wp; rw [hrun]; exact h
end

end Go.Proofs.YtmgblbkmbiiofaaDoor
