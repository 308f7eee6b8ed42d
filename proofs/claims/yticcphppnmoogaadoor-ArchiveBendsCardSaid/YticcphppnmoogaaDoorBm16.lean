/-
  What Decode finds, as a function; the contract of bytes.HasPrefix with four bytes.
  What is read of an entry's bytes (plain).
  Cutting at slashes and joining with them (plain).
  A path's text, parsed, is the path; a parsed text is the path's text (plain).
  The contract of archive.Decode.
  Entries there and back (plain).
-/
import Derived.Test.YticcphppnmoogaaDoorBm15

namespace Go.Proofs.YticcphppnmoogaaDoor
open Go.RowKit
attribute [local go_sem ↓] Go.wp_at_zero Go.wp_at_succ

def toEx (e : En) : Ex := ⟨e, none, 0, none, 0⟩
def bare (l : List Ex) : List Ex := l.map fun x => toEx x.e
theorem idxE_bare (q : List ByteArray) : ∀ l : List Ex, idxE q (bare l) = idxE q l
  | [] => rfl
  | x :: l => by
    show idxE q (toEx x.e :: bare l) = _
    unfold idxE
    rw [idxE_bare q l]; rfl
theorem bare_len (l : List Ex) : (bare l).length = l.length := by simp [bare]
theorem parK_bare (q : List ByteArray) (l : List Ex) : parK q (bare l) = parK q l := by
  unfold parK
  rw [idxE_bare]
  simp only [bare, List.getElem?_map]
  cases l[idxE q l]? <;> rfl
theorem placeE_bare (p : List ByteArray) (l : List Ex) : placeE p (bare l) = placeE p l := by
  unfold placeE
  rw [idxE_bare, bare_len, parK_bare]
theorem refusedE_bare (e : En) (l : List Ex) : refusedE e (bare l) = refusedE e l := by
  have h : ∀ i, chkE e (bare l) i = chkE e l i := fun i => by
    unfold chkE
    rw [placeE_bare]
  unfold refusedE
  simp only [h]
theorem nextE_bare (b : List Nat) (s : Bool) (l : List Ex) : nextE b s (bare l) = nextE b s l := by
  unfold nextE
  rw [refusedE_bare]

def decF : Nat → List Nat → List En → Option (List En × List Nat)
  | 0, b, l => some (l, b)
  | n + 1, b, l => if nextE b false (l.map toEx) = 0 then decF n (readF b false).b (l ++ [entF (readF b false)]) else none
def crel : List Nat := [67, 82, 69, 76]
def decodeF (b : List Nat) : Option (List En) :=
  if eqB (b.take 4) crel = true ∧ 5 ≤ b.length ∧ b.getD 4 0 ≤ 40 then (decF (b.getD 4 0) (b.drop 5) []).bind fun r => if r.2 = [] then some r.1 else none
  else none

theorem bhas_any (A A2 : Option Addr) (n c d : Nat) (p : List Nat) (w : World) (hp : ∀ b ∈ p, b < 256) (hn : n ≤ 1000000000) (hc : n ≤ c) (hR1 : Reads w w.heap.size 1 A n (u8s p)) (hR2 : Reads w w.heap.size 1 A2 4 (u8s crel)) :
    Calls Tryd.prog 32 #[.slice A n c, .slice A2 4 d] w fun e w' => e = .returned (.bool (eqB (p.take 4) crel)) ∧ w' = w := by
  have hl := bytes_n hR1
  by_cases h4 : 4 ≤ n
  · have hR3 : Reads w w.heap.size 1 A 4 (u8s (p.take 4)) := by
      have := reads_take hR1 (k := 4) h4
      simpa [u8s, List.map_take] using this
    have HE := Sl.mk (bequal_any A A2 4 c 4 d (p.take 4) crel w (fun b hb => hp b (List.mem_of_mem_take hb)) (by decide) hR3 hR2)
    have hge : (n : Int) ≥ 4 := by omega
    have hc4 : 4 ≤ c := by omega
    clear hp hR1 hR2 hR3 hl
    go_enter Tryd.func32, Tryd.ntmps32
    go_wp2_with fail
    refine HE.out.mono ?_
    rintro e w' ⟨rfl, rfl⟩
    go_wp2_with fail
    go_ret
    exact ⟨rfl, rfl⟩
  · have hge : ¬ (n : Int) ≥ 4 := by omega
    have HF := Sl.mk (show eqB (p.take 4) crel = false by
      unfold eqB
      simp only [decide_eq_false_iff_not]
      intro h
      have := congrArg List.length h
      rw [List.length_take] at this
      simp [crel] at this
      omega)
    clear hp hR1 hR2 hl
    go_enter Tryd.func32, Tryd.ntmps32
    go_wp2_with fail
    go_ret
    exact ⟨by rw [HF.out]; rfl, rfl⟩

end Go.Proofs.YticcphppnmoogaaDoor

namespace Go.Proofs.YticcphppnmoogaaDoor
open Go.RowKit

theorem takeV_app {n : Nat} {x r : List Nat} (h : x.length = n) : takeV n (x ++ r) = x := by
  unfold takeV
  rw [if_neg (by rw [List.length_append]; omega), ← h, List.take_left']
  rfl
theorem restV_app {n : Nat} {x r : List Nat} (h : x.length = n) : restV n (x ++ r) = r := by
  unfold restV
  rw [if_neg (by rw [List.length_append]; omega), ← h, List.drop_left']
  rfl
theorem shortV_app {n : Nat} {x r : List Nat} {s : Bool} (h : x.length = n) : shortV n (x ++ r) s = s := by
  unfold shortV
  rw [if_neg (by rw [List.length_append]; omega)]
theorem num1 {k : Int} (h0 : 0 ≤ k) (h1 : k < 256) : numF [b8 k] = k.toNat := by
  show 0 * 256 + b8 k = _
  unfold b8; omega
theorem num2 {m : Int} (h0 : 0 ≤ m) (h1 : m < 65536) : numF [b8 (m / 256), b8 m] = m.toNat := by
  show (0 * 256 + b8 (m / 256)) * 256 + b8 m = _
  unfold b8; omega

theorem readF_eb (e : En) (r : List Nat) (s : Bool) (hk : 0 ≤ e.kind) (hk2 : e.kind < 256) (hm : 0 ≤ e.mode) (hm2 : e.mode < 65536) (ht : (txtF e.path).size < 256) (hd : e.data.length < 65536) :
    readF (ebF e ++ r) s = ⟨e.kind.toNat, e.mode.toNat, bys (txtF e.path), e.data, sealF e, r, s⟩ := by
  have hb : ebF e ++ r = [b8 e.kind] ++ ([b8 (e.mode / 256), b8 e.mode] ++ ([b8 ((txtF e.path).size : Nat)] ++ (bys (txtF e.path) ++ ([b8 (e.data.length / 256 : Nat), b8 (e.data.length : Nat)] ++ (e.data ++ (sealF e ++ r)))))) := by
    simp [ebF, headF, sizeF]
  rw [hb]
  have n1 := num1 hk hk2
  have n2 := num2 hm hm2
  have n3 : numF [b8 ((txtF e.path).size : Nat)] = (txtF e.path).size := by rw [num1 (by omega) (by omega)]; omega
  have n4 : numF [b8 (e.data.length / 256 : Nat), b8 (e.data.length : Nat)] = e.data.length := by
    have h := num2 (m := (e.data.length : Int)) (by omega) (by omega)
    have h2 : ((e.data.length / 256 : Nat) : Int) = (e.data.length : Int) / 256 := by omega
    rw [h2, h]; omega
  unfold readF
  simp only [takeV_app (n := 1) (x := [b8 e.kind]) rfl, restV_app (n := 1) (x := [b8 e.kind]) rfl, shortV_app (n := 1) (x := [b8 e.kind]) rfl,
    takeV_app (n := 2) (x := [b8 (e.mode / 256), b8 e.mode]) rfl, restV_app (n := 2) (x := [b8 (e.mode / 256), b8 e.mode]) rfl, shortV_app (n := 2) (x := [b8 (e.mode / 256), b8 e.mode]) rfl,
    takeV_app (n := 1) (x := [b8 ((txtF e.path).size : Nat)]) rfl, restV_app (n := 1) (x := [b8 ((txtF e.path).size : Nat)]) rfl, shortV_app (n := 1) (x := [b8 ((txtF e.path).size : Nat)]) rfl, n1, n2, n3,
    takeV_app (n := (txtF e.path).size) (bys_len _), restV_app (n := (txtF e.path).size) (bys_len _), shortV_app (n := (txtF e.path).size) (bys_len _),
    takeV_app (n := 2) (x := [b8 (e.data.length / 256 : Nat), b8 (e.data.length : Nat)]) rfl, restV_app (n := 2) (x := [b8 (e.data.length / 256 : Nat), b8 (e.data.length : Nat)]) rfl, shortV_app (n := 2) (x := [b8 (e.data.length / 256 : Nat), b8 (e.data.length : Nat)]) rfl, n4,
    takeV_app (n := e.data.length) (x := e.data) rfl, restV_app (n := e.data.length) (x := e.data) rfl, shortV_app (n := e.data.length) (x := e.data) rfl,
    takeV_app (n := 8) (sealF_len e), restV_app (n := 8) (sealF_len e), shortV_app (n := 8) (sealF_len e)]

/-- A byte string and its numbers. -/
theorem strN_bys (s : ByteArray) : strN (bys s) = s := by
  unfold strN bys
  apply ByteArray.ext
  apply Array.ext'
  simp [Function.comp_def]
theorem bys_strN {d : List Nat} (h : ∀ b ∈ d, b < 256) : bys (strN d) = d := by
  unfold strN bys
  simp only [List.map_map]
  conv => rhs; rw [← List.map_id d]
  refine List.map_congr_left fun x hx => ?_
  have := h x hx
  simp [Nat.mod_eq_of_lt this]

end Go.Proofs.YticcphppnmoogaaDoor

namespace Go.Proofs.YticcphppnmoogaaDoor
open Go.RowKit

theorem index_cons_eq (c : UInt8) (l : List UInt8) : Lib.index (c :: l) [c] = ((0 : Nat) : Int) := by rw [Lib.index]; simp [List.isPrefixOf]
theorem index_cons_ne {b c : UInt8} (l : List UInt8) (h : b ≠ c) : Lib.index (b :: l) [c] = if Lib.index l [c] == -1 then -1 else Lib.index l [c] + 1 := by
  have hp : ([c] : List UInt8).isPrefixOf (b :: l) = false := by simp [List.isPrefixOf, Ne.symm h]
  rw [Lib.index, hp]; simp
theorem split_nil (c : UInt8) : Lib.split [] [c] = [[]] := by
  unfold Lib.split
  rw [Lib.count_one]; rfl
theorem split_eq (c : UInt8) (l : List UInt8) : Lib.split (c :: l) [c] = [] :: Lib.split l [c] := by
  unfold Lib.split
  rw [Lib.count_cons_eq, Nat.add_comm, Lib.splitK, index_cons_eq]
  simp
theorem split_ne {b c : UInt8} (l : List UInt8) (h : b ≠ c) : ∃ x t, Lib.split l [c] = x :: t ∧ Lib.split (b :: l) [c] = (b :: x) :: t := by
  unfold Lib.split
  rw [Lib.count_cons_ne b c l h]
  by_cases hm : Lib.index l [c] = -1
  · rw [Lib.count_miss hm]
    exact ⟨l, [], rfl, rfl⟩
  · have hge := Lib.index_ge l [c]
    obtain ⟨j, hj⟩ : ∃ j : Nat, Lib.index l [c] = j := ⟨(Lib.index l [c]).toNat, by omega⟩
    have hix' : Lib.index (b :: l) [c] = ((j + 1 : Nat) : Int) := by rw [index_cons_ne l h, if_neg (fun e => hm (beq_iff_eq.1 e)), hj]; omega
    rw [Lib.count_hit (by simp) hj, Nat.add_comm]
    unfold Lib.splitK
    rw [hj, hix']
    have h1 : ¬ (((j : Nat) : Int) == -1) = true := fun e => by have := beq_iff_eq.1 e; omega
    have h2 : ¬ (((j + 1 : Nat) : Int) == -1) = true := fun e => by have := beq_iff_eq.1 e; omega
    rw [if_neg h1, if_neg h2]
    refine ⟨_, _, rfl, ?_⟩
    simp

theorem split_cons (c : UInt8) : ∀ l : List UInt8, ∃ x t, Lib.split l [c] = x :: t
  | [] => ⟨[], [], split_nil c⟩
  | b :: l => by
    by_cases h : b = c
    · subst h; exact ⟨_, _, split_eq b l⟩
    · obtain ⟨x, t, _, h2⟩ := split_ne l h
      exact ⟨_, _, h2⟩
theorem join_split (c : UInt8) : ∀ s : List UInt8, Lib.join (Lib.split s [c]) [c] = s
  | [] => by rw [split_nil]; simp [Lib.join, List.intercalate]
  | b :: l => by
    have ih := join_split c l
    by_cases h : b = c
    · subst h
      rw [split_eq]
      obtain ⟨x, t, e⟩ := split_cons b l
      rw [e] at ih ⊢
      rw [Lib.join_cons] at ih ⊢
      simp only [Lib.joinTail, List.map_cons, List.flatten_cons, List.nil_append, List.cons_append] at ih ⊢
      rw [ih]
    · obtain ⟨x, t, h1, h2⟩ := split_ne l h
      rw [h1] at ih
      rw [h2]
      rw [Lib.join_cons] at ih ⊢
      rw [List.cons_append, ih]

theorem split_app {c : UInt8} (r : List UInt8) : ∀ x : List UInt8, c ∉ x → Lib.split (x ++ c :: r) [c] = x :: Lib.split r [c]
  | [], _ => split_eq c r
  | b :: x, h => by
    simp only [List.mem_cons, not_or] at h
    have ih := split_app r x h.2
    obtain ⟨y, t, h1, h2⟩ := split_ne (x ++ c :: r) (Ne.symm h.1)
    rw [ih] at h1
    injection h1 with e1 e2
    rw [List.cons_append, h2, ← e1, ← e2]
theorem split_one {c : UInt8} : ∀ x : List UInt8, c ∉ x → Lib.split x [c] = [x]
  | [], _ => split_nil c
  | b :: x, h => by
    simp only [List.mem_cons, not_or] at h
    have ih := split_one x h.2
    obtain ⟨y, t, h1, h2⟩ := split_ne x (Ne.symm h.1)
    rw [ih] at h1
    injection h1 with e1 e2
    rw [h2, ← e1, ← e2]
theorem split_join {c : UInt8} : ∀ p : List (List UInt8), p ≠ [] → (∀ x ∈ p, c ∉ x) → Lib.split (Lib.join p [c]) [c] = p
  | [], h, _ => absurd rfl h
  | [x], _, h => by rw [Lib.join_one]; exact split_one x (h x (by simp))
  | x :: y :: p, _, h => by
    have ih := split_join (y :: p) (by simp) (fun z hz => h z (List.mem_cons_of_mem _ hz))
    have e : Lib.join (x :: y :: p) [c] = x ++ c :: Lib.join (y :: p) [c] := by
      rw [Lib.join_cons, Lib.join_cons]
      simp [Lib.joinTail]
    rw [e, split_app _ x (h x (by simp)), ih]

end Go.Proofs.YticcphppnmoogaaDoor

namespace Go.Proofs.YticcphppnmoogaaDoor
open Go.RowKit

theorem ba_ext {s t : ByteArray} (h : s.data.toList = t.data.toList) : s = t := ByteArray.ext (Array.ext' h)
theorem parts_data (s : ByteArray) : (partsF s).map (·.data.toList) = Lib.split s.data.toList [47] := Lib.splitB_data ⟨#[47]⟩ 0 _ s
theorem map_data_inj : ∀ {p q : List ByteArray}, p.map (·.data.toList) = q.map (·.data.toList) → p = q
  | [], [], _ => rfl
  | [], _ :: _, h => by simp at h
  | _ :: _, [], h => by simp at h
  | s :: p, t :: q, h => by
    simp only [List.map_cons, List.cons.injEq] at h
    rw [ba_ext h.1, map_data_inj h.2]
theorem name_noslash {s : ByteArray} (h : nameB s = true) : (47 : UInt8) ∉ s.data.toList := fun hm => by
  unfold nameB at h
  simp only [Bool.and_eq_true, List.all_eq_true] at h
  have := h.2 47 hm
  revert this
  decide
theorem name_pos {s : ByteArray} (h : nameB s = true) : 1 ≤ s.size := by
  unfold nameB at h
  simp only [Bool.and_eq_true, decide_eq_true_eq] at h
  exact h.1.1.1.1
theorem parts_join {p : List ByteArray} (h : rightB p = true) (hp : p ≠ []) : partsF (joinF p) = p := by
  apply map_data_inj
  rw [parts_data]
  show Lib.split (Lib.join (p.map (·.data.toList)) [47]) [47] = _
  refine split_join _ (by simpa using hp) (fun x hx => ?_)
  obtain ⟨s, hs, rfl⟩ := List.mem_map.1 hx
  unfold rightB at h
  simp only [Bool.and_eq_true, List.all_eq_true] at h
  exact name_noslash (h.2 s hs)
theorem join_parts (s : ByteArray) : joinF (partsF s) = s := by
  apply ba_ext
  show Lib.join ((partsF s).map (·.data.toList)) [47] = _
  rw [parts_data, join_split]
theorem txt_data {p : List ByteArray} (hp : p ≠ []) : (txtF p).data.toList = 47 :: (joinF p).data.toList := by
  unfold txtF
  rw [if_neg hp]
  simp
theorem abs_slash (s : ByteArray) (r : List UInt8) (h : s.data.toList = 47 :: r) : isAbs s = true ∧ (cutF s).data.toList = r := by
  unfold isAbs cutF Lib.trimPrefix
  rw [h]
  simp [Lib.hasPrefix, List.isPrefixOf]
theorem abs_form {s : ByteArray} (h : isAbs s = true) : s.data.toList = 47 :: (cutF s).data.toList := by
  cases hs : s.data.toList with
  | nil => unfold isAbs at h; rw [hs] at h; simp [Lib.hasPrefix] at h
  | cons b r =>
    have hb : b = 47 := by
      unfold isAbs at h; rw [hs] at h
      simp [Lib.hasPrefix] at h
      exact h.symm
    subst hb
    rw [(abs_slash s r hs).2]

theorem parse_txt {p : List ByteArray} (h : rightB p = true) (hp : p ≠ []) (hs : (txtF p).size ≤ 160) : parseP (txtF p) = p ∧ parseE (txtF p) = 0 := by
  obtain ⟨h1, h2⟩ := abs_slash (txtF p) _ (txt_data hp)
  have h3 : cutF (txtF p) = joinF p := ba_ext h2
  have h4 : ¬ joinF p = ⟨#[]⟩ := fun e => by
    have h5 := parts_join h hp
    rw [e] at h5
    have h6 : partsF ⟨#[]⟩ = [⟨#[]⟩] := by decide +kernel
    rw [h6] at h5
    subst h5
    revert h; decide +kernel
  have h5 : parseP (txtF p) = p := by
    unfold parseP
    rw [h3, if_neg h4, parts_join h hp]
  refine ⟨h5, ?_⟩
  unfold parseE
  rw [if_neg (by omega), if_neg (by rw [h1]; decide), h5, if_pos h]
theorem txt_parse {S : ByteArray} (h : parseE S = 0) (hp : parseP S ≠ []) : txtF (parseP S) = S := by
  have hA : isAbs S = true := by
    unfold parseE at h
    split at h
    · cases h
    · split at h
      · cases h
      · rename_i h2; simpa using h2
  apply ba_ext
  rw [txt_data hp, abs_form hA]
  unfold parseP at hp ⊢
  split at hp
  · exact absurd rfl hp
  · rename_i h2
    rw [if_neg h2, join_parts]

end Go.Proofs.YticcphppnmoogaaDoor

namespace Go.Proofs.YticcphppnmoogaaDoor
open Go.RowKit
attribute [local go_sem ↓] Go.wp_at_zero Go.wp_at_succ

theorem reads_mark (w : World) (l : List Nat) (t : TypeId) (fr : Nat × Nat) : Reads (w.alloc (.cells (u8s l).toArray t fr)) (w.heap.size + 1) 1 (some ⟨w.heap.size, 0, none⟩) l.length (u8s l) :=
  ⟨by rw [u8s_len, Nat.mul_one], fun _ => ⟨_, rfl, Nat.lt_succ_self _, fun j u hj => by
    rw [addr_add0, World.cell?_alloc_mark]
    simpa using hj⟩⟩
theorem readF_byte {b : List Nat} {s : Bool} (h : ∀ x ∈ b, x < 256) : ∀ x ∈ (readF b s).b, x < 256 := by
  have h3 := restV_byte (n := 1) (restV_byte (n := 2) (restV_byte (n := 1) h))
  have h4 := restV_byte (n := numF (takeV 1 (restV 2 (restV 1 b)))) h3
  have h5 := restV_byte (n := 2) h4
  have h6 := restV_byte (n := numF (takeV 2 (restV (numF (takeV 1 (restV 2 (restV 1 b)))) (restV 1 (restV 2 (restV 1 b)))))) h5
  have h7 := restV_byte (n := 8) h6
  simp only [readF]
  exact h7
theorem nextE_s {b : List Nat} {s : Bool} {l : List Ex} (h : nextE b s l = 0) : (readF b s).s = false := by
  unfold nextE at h
  split at h
  · cases h
  · simpa using ‹¬ (readF b s).s = true›
theorem map_bare (l : List Ex) : (l.map (·.e)).map toEx = bare l := by simp [bare]
theorem decF_ok {k : Nat} {b : List Nat} {l : List Ex} (h : nextE b false l = 0) : decF (k + 1) b (l.map (·.e)) = decF k (readF b false).b (l.map (·.e) ++ [entF (readF b false)]) := by
  show (if nextE b false ((l.map (·.e)).map toEx) = 0 then _ else _) = _
  rw [map_bare, nextE_bare, if_pos h]
theorem decF_bad {k : Nat} {b : List Nat} {l : List Ex} (h : ¬ nextE b false l = 0) : decF (k + 1) b (l.map (·.e)) = none := by
  show (if nextE b false ((l.map (·.e)).map toEx) = 0 then _ else _) = _
  rw [map_bare, nextE_bare, if_neg h]

def DecPost (w : World) (b : List Nat) (e : Ending) (w' : World) : Prop := Below w.heap.size w w' ∧
  ((decodeF b = none ∧ ∃ (N : Nat) (E : Int), E ≠ 0 ∧ e = .returned (.tuple #[.slice none 0 0, .int .i64 N, .int .i64 E])) ∨
   (∃ (A : Option Addr) (m c : Nat) (l : List Ex) (N : Nat), e = .returned (.tuple #[.slice A m c, .int .i64 N, .int .i64 0]) ∧ decodeF b = some (l.map (·.e)) ∧ Exs w' A m l ∧ m ≤ 40 ∧ m ≤ c ∧ c ≤ 9223372036854775807))

set_option maxRecDepth 100000 in
set_option maxHeartbeats 8000000 in
theorem decode_any (A : Option Addr) (n c : Nat) (b : List Nat) (w : World) (hn : n ≤ 1000000000) (hc : n ≤ c ∧ c ≤ 9223372036854775807) (hby : ∀ x ∈ b, x < 256) (hR : Reads w w.heap.size 1 A n (u8s b)) (hM : Mx w) (hT : Tabs w) :
    Calls Tryd.prog 19 #[.slice A n c] w (DecPost w b) := by
  have hl := bytes_n hR
  have kc := fun (w : World) (C : Array Value) (n c : Nat) => Lib.run_convert_bytes_const (P := Tryd.prog) w 32 5 C n c Tryd.underlying32 Tryd.underlying5
  have hs1 : (w.alloc (.cells #[.slice A n c, .bool false, .slice none 0 0] 79)).heap.size = w.heap.size + 1 := by simp
  have hb1 : Below w.heap.size w (w.alloc (.cells #[.slice A n c, .bool false, .slice none 0 0] 79)) := below_al (Below.refl _ _) _
  have hB1 := Blk.new w 79 #[.slice A n c, .bool false, .slice none 0 0]
  obtain ⟨w1, hw1⟩ : ∃ w1, w.alloc (.cells #[.slice A n c, .bool false, .slice none 0 0] 79) = w1 := ⟨_, rfl⟩
  rw [hw1] at hs1 hb1 hB1
  have hm := reads_mark w1 crel 5 (4, 5)
  have hb2 : Below w1.heap.size w1 (w1.alloc (.cells (u8s crel).toArray 5 (4, 5))) := (Below.refl _ _).alloc (Nat.le_refl _) _
  have hs2 : (w1.alloc (.cells (u8s crel).toArray 5 (4, 5))).heap.size = w1.heap.size + 1 := by simp
  have hcr : (u8s crel).toArray = #[.int .u8 67, .int .u8 82, .int .u8 69, .int .u8 76] := rfl
  rw [hcr] at hm hb2 hs2
  obtain ⟨w2, hw2⟩ : ∃ w2, w1.alloc (.cells #[.int .u8 67, .int .u8 82, .int .u8 69, .int .u8 76] 5 (4, 5)) = w2 := ⟨_, rfl⟩
  rw [hw2] at hm hb2 hs2
  have hE2 := below_tr hb1 hb2
  have hR2 := hR.below hE2
  have hRst : Rst w w2 w.heap.size b false none 0 0 [] := ⟨⟨⟨A, c, by rw [hl]; exact hB1.below hb2 hB1.lt, by rw [hl]; exact hR2, by omega, by omega⟩, Nat.le_refl _⟩, World.ownsRow_nil _ _ _ _, fun x hx => (by cases hx), hE2⟩
  have HHP := Sl.mk (bhas_any A (some ⟨w1.heap.size, 0, none⟩) n c 4 b w2 hby hn hc.1 (hR2.more hE2.size) (hm.more (by omega)))
  have HS2 := Sl.mk hRst
  have HY := Sl.mk hby
  have HL := Sl.mk hl
  have HM := Sl.mk hM
  have HT := Sl.mk hT
  clear hR hl hs1 hb1 hB1 hm hb2 hs2 hcr hE2 hR2 hRst hby hM hT
  go_enter Tryd.func19, Tryd.ntmps19
  go_wp2_with fail
  clear hw1 hw2
  refine HHP.out.mono ?_
  rintro e w3 ⟨rfl, rfl⟩
  cases hP : eqB (b.take 4) crel
  · have HD := Sl.mk (show decodeF b = none by unfold decodeF; rw [if_neg (by rw [hP]; simp)])
    clear hP HHP kc
    go_wp2_with fail
    go_ret3
    exact ⟨HS2.out.be, .inl ⟨HD.out, 0, 3, by decide, rfl⟩⟩
  · have HP := Sl.mk hP
    have hl4 : 4 ≤ b.length := by
      have h := hP
      unfold eqB at h
      have h := congrArg List.length (of_decide_eq_true h)
      rw [List.length_take] at h
      simp [crel] at h
      omega
    have HT4 := Sl.mk (take_any w.heap.size w.heap.size 4 b false (.slice none 0 0) w3 (by omega) HS2.out.rd)
    have hr4 : restV 4 b = b.drop 4 := if_neg (by omega)
    have hh4 : shortV 4 b false = false := if_neg (by omega)
    unfold TakePost at HT4
    rw [hr4, hh4] at HT4
    have HL4 := Sl.mk hl4
    clear hP HHP kc hl4 hr4 hh4
    go_wp2_with fail
    refine HT4.out.mono ?_
    rintro e w4 ⟨A4, c4, rfl, -, hr, hG⟩
    have HS4 := Sl.mk (HS2.out.step hr hG)
    have HN5 := Sl.mk (number_any w.heap.size w.heap.size 1 (b.drop 4) false (.slice none 0 0) w4 (by omega) (fun x hx => HY.out x (List.mem_of_mem_drop hx)) hr)
    unfold NumPost at HN5
    clear hr hG HT4
    go_wp2_with fail
    refine HN5.out.mono ?_
    rintro e w5 ⟨rfl, hr, hG⟩
    have HS5 := Sl.mk (HS4.out.step hr hG)
    clear hr hG HN5 HS4 HS2
    obtain ⟨Ab5, cb5, hbk5, -⟩ := HS5.out.rd.blk
    have d1 := hbk5.cell 1
    clear hbk5
    by_cases hl5 : 5 ≤ b.length
    · have hsv : shortV 1 (b.drop 4) false = false := if_neg (by rw [List.length_drop]; omega)
      have hrv : restV 1 (b.drop 4) = b.drop 5 := by unfold restV; rw [if_neg (by rw [List.length_drop]; omega), List.drop_drop]
      have htv : numF (takeV 1 (b.drop 4)) = b.getD 4 0 := by
        unfold takeV
        rw [if_neg (by rw [List.length_drop]; omega)]
        obtain ⟨y, hy⟩ : ∃ y, b[4]? = some y := ⟨_, List.getElem?_eq_getElem (by omega)⟩
        have : (b.drop 4).take 1 = [y] := by
          rw [List.take_one, List.head?_drop, hy]; rfl
        rw [this, List.getD_eq_getElem?_getD, hy]
        show 0 * 256 + y = y
        omega
      rw [hsv, hrv] at HS5
      rw [hsv] at d1
      rw [htv]
      have hN256 : b.getD 4 0 ≤ 255 := by
        obtain ⟨y, hy⟩ : ∃ y, b[4]? = some y := ⟨_, List.getElem?_eq_getElem (by omega)⟩
        have := HY.out y (List.mem_of_getElem? hy)
        rw [List.getD_eq_getElem?_getD, hy]
        show y ≤ 255
        omega
      obtain ⟨N, hN⟩ : ∃ N, b.getD 4 0 = N := ⟨_, rfl⟩
      rw [hN] at hN256 ⊢
      have HN := Sl.mk (And.intro hN hl5)
      clear hsv hrv htv hN hl5
      by_cases h40 : N ≤ 40
      · have hD : decodeF b = (decF N (b.drop 5) []).bind fun r => if r.2 = [] then some r.1 else none := by
          unfold decodeF
          rw [if_pos ⟨HP.out, HN.out.2, by rw [HN.out.1]; exact h40⟩, HN.out.1]
        have HD := Sl.mk hD
        have h40' : ¬ (N : Int) > 40 := by omega
        clear hD
        have hyb : ∀ x ∈ b.drop 5, x < 256 := fun x hx => HY.out x (List.mem_of_mem_drop hx)
        obtain ⟨b5, hb5⟩ : ∃ b5, b.drop 5 = b5 := ⟨_, rfl⟩
        rw [hb5] at HS5 HD hyb
        have HYB := Sl.mk hyb
        clear hb5 hyb
        go_wp2_with fail
        go_loopw [7, 8, 36] (fun _ _ v36 wr => ∃ (i : Nat) (bi : List Nat) (Ai : Option Addr) (ci : Nat) (li : List Ex), i ≤ N ∧ v36 = .int .i64 i ∧ Rst w wr w.heap.size bi false Ai i ci li ∧ (∀ x ∈ bi, x < 256) ∧ decF N b5 [] = decF (N - i) bi (li.map (·.e))) (fun _ _ v36 _ => N - (intOf v36).toNat)
        case atStart => exact ⟨0, b5, none, 0, [], Nat.zero_le _, rfl, HS5.out, HYB.out, rfl⟩
        case round =>
          obtain ⟨i, bi, Ai, ci, li, hi, rfl, hst, hyi, hdec⟩ := hrel
          clear d1
          by_cases hil : i < N
          · have HNX := Sl.mk (next_any w wr w.heap.size bi false Ai i ci li hyi hst (by omega) HM.out HT.out)
            unfold NextPost at HNX
            have hNi : N - i = (N - i - 1) + 1 := by omega
            rw [hNi] at hdec
            have HDE := Sl.mk hdec
            have HYI := Sl.mk hyi
            clear hst hyi hdec hNi
            obtain ⟨E, hE⟩ : ∃ E, nextE bi false li = E := ⟨_, rfl⟩
            rw [hE] at HNX
            by_cases hE0 : E = 0
            · subst hE0
              have HOK := Sl.mk hE
              clear hE
              go_wp2_with fail
              refine HNX.out.mono ?_
              rintro e w6 ⟨rfl, hB6, hn6⟩
              obtain ⟨A6, c6, x, hxe, hst6⟩ := hn6 trivial
              rw [nextE_s HOK.out] at hst6
              have hd6 := HDE.out.trans (decF_ok HOK.out)
              have HG := Sl.mk (show Rst w w6 w.heap.size (readF bi false).b false A6 (i + 1) c6 (li ++ [x]) ∧ (∀ y ∈ (readF bi false).b, y < 256) ∧ decF N b5 [] = decF (N - (i + 1)) (readF bi false).b ((li ++ [x]).map (·.e)) from
                ⟨hst6, readF_byte HYI.out, by rw [hd6, List.map_append, List.map_cons, List.map_nil, hxe, Nat.sub_sub]⟩)
              clear hxe hst6 hd6 hn6 HNX
              go_wp2_with fail
              go_roundw
              case rel => exact ⟨i + 1, _, A6, c6, li ++ [x], by omega, by go_num, HG.out⟩
              case measure => simp [intOf]; omega
            · have HD2 := Sl.mk (show decodeF b = none by
                rw [HD.out, HDE.out, decF_bad (by rw [hE]; exact hE0)]; rfl)
              have HNE := Sl.mk hE0
              have hne : (E != 0) = true := by simpa using hE0
              clear hE hE0
              go_wp2_with fail
              refine HNX.out.mono ?_
              rintro e w6 ⟨rfl, hB6, -⟩
              clear HNX
              go_wp2_with fail
              go_ret3
              exact ⟨hB6, .inl ⟨HD2.out, i, E, HNE.out, rfl⟩⟩
          · obtain rfl : i = N := by omega
            rw [Nat.sub_self] at hdec
            have HDE := Sl.mk (show decF i b5 [] = some (li.map (·.e), bi) from hdec)
            have HST := Sl.mk hst
            obtain ⟨Ab, cb, hbk, -⟩ := hst.rd.blk
            have d0 := hbk.cell 0
            have d2 := hbk.cell 2
            obtain ⟨q, hq⟩ : ∃ q, bi.length = q := ⟨_, rfl⟩
            rw [hq] at d0
            have HQ := Sl.mk hq
            clear hdec hst hbk hyi hq
            by_cases hq0 : q = 0
            · subst hq0
              have hbi : bi = [] := List.eq_nil_of_length_eq_zero HQ.out
              have HD2 := Sl.mk (show decodeF b = some (li.map (·.e)) by rw [HD.out, HDE.out, hbi]; rfl)
              clear hbi
              go_wp2_with fail
              go_ret3
              have hcap := ownCapS HST.out.own
              exact ⟨HST.out.be, .inr ⟨Ai, i, ci, li, i, rfl, HD2.out, ⟨Reads.of_own HST.out.own, fun x hx => (HST.out.ex x hx).ok⟩, h40, hcap⟩⟩
            · have hbi : ¬ bi = [] := fun e => hq0 (by rw [← HQ.out, e]; rfl)
              have HD2 := Sl.mk (show decodeF b = none by rw [HD.out, HDE.out]; show (if bi = [] then _ else _) = _; rw [if_neg hbi])
              have hgt : (q : Int) > 0 := by omega
              clear hbi hq0
              go_wp2_with fail
              go_ret3
              exact ⟨HST.out.be, .inl ⟨HD2.out, i, 3, by decide, rfl⟩⟩
      · have HD := Sl.mk (show decodeF b = none by unfold decodeF; rw [if_neg (fun h => h40 (by rw [← HN.out.1]; exact h.2.2))])
        have h40' : (N : Int) > 40 := by omega
        have hbe := HS5.out.be
        clear h40
        go_wp2_with fail
        go_ret3
        exact ⟨hbe, .inl ⟨HD.out, 0, 2, by decide, rfl⟩⟩
    · have hsv : shortV 1 (b.drop 4) false = true := if_pos (by rw [List.length_drop]; omega)
      have HD := Sl.mk (show decodeF b = none by unfold decodeF; rw [if_neg (fun h => hl5 h.2.1)])
      rw [hsv] at d1
      have hbe := HS5.out.be
      obtain ⟨NN, hNN⟩ : ∃ NN, numF (takeV 1 (b.drop 4)) = NN := ⟨_, rfl⟩
      rw [hNN]
      clear hsv hl5 hNN
      go_wp2_with fail
      go_ret3
      exact ⟨hbe, .inl ⟨HD.out, 0, 4, by decide, rfl⟩⟩

end Go.Proofs.YticcphppnmoogaaDoor

namespace Go.Proofs.YticcphppnmoogaaDoor
open Go.RowKit

theorem refused_zero {e : En} {l : List Ex} (h : refusedE e l = 0) : chkE e l 0 = 0 ∧ chkE e l 1 = 0 ∧ chkE e l 2 = 0 ∧ chkE e l 3 = 0 := by
  unfold refusedE at h
  split at h
  · contradiction
  split at h
  · contradiction
  split at h
  · contradiction
  split at h
  · contradiction
  refine ⟨?_, ?_, ?_, ?_⟩ <;> (first | assumption | (rename_i h1 h2 h3 h4; first | exact Decidable.not_not.1 h1 | exact Decidable.not_not.1 h2 | exact Decidable.not_not.1 h3 | exact Decidable.not_not.1 h4))
theorem paths_zero {p : List ByteArray} (h : pathsE p = 0) : rightB p = true ∧ p ≠ [] ∧ (txtF p).size ≤ 160 := by
  unfold pathsE at h
  split at h
  · cases h
  split at h
  · cases h
  split at h
  · cases h
  · rename_i h1 h2 h3
    exact ⟨by simpa using h1, h2, by omega⟩
theorem kind_zero {k : Int} (h : kindE k = 0) : 0 ≤ k ∧ k ≤ 2 := by
  unfold kindE at h
  split at h
  · omega
  split at h
  · omega
  split at h
  · omega
  · cases h
theorem size_zero {k : Int} {d : Nat} (h : sizeE k d = 0) : d ≤ 512 := by
  unfold sizeE at h
  split at h
  · cases h
  split at h
  · cases h
  · omega

theorem modes_zero {k m : Int} (h : modesE k m = 0) : 0 ≤ m ∧ m < 65536 := by
  have hc : chk k m 0 0 = 0 := by
    unfold modesE refu at h
    split at h
    · assumption
    · exact h
  cases hm : bel m 4096 with
  | false =>
    unfold chk at hc
    rw [hm] at hc
    split at hc
    · cases hc
    · simp at hc
  | true =>
    unfold bel at hm
    have := of_decide_eq_true hm
    omega

/-- What one entry's bytes read as, where the entry is right. -/
theorem next_eb {e : En} {l : List Ex} (r : List Nat) (h : refusedE e l = 0) : nextE (ebF e ++ r) false l = 0 ∧ entF (readF (ebF e ++ r) false) = e ∧ (readF (ebF e ++ r) false).b = r := by
  obtain ⟨h0, h1, h2, h3⟩ := refused_zero h
  obtain ⟨p1, p2, p3⟩ := paths_zero (show pathsE e.path = 0 from h0)
  obtain ⟨k1, k2⟩ := kind_zero (show kindE e.kind = 0 from h1)
  obtain ⟨m1, m2⟩ := modes_zero (show modesE e.kind e.mode = 0 from h2)
  have d1 := size_zero (show sizeE e.kind e.data.length = 0 from h3)
  have hr := readF_eb e r false k1 (by omega) m1 m2 (by omega) (by omega)
  obtain ⟨q1, q2⟩ := parse_txt p1 p2 p3
  have he : entF (readF (ebF e ++ r) false) = e := by
    rw [hr]
    unfold entF
    simp only [strN_bys, q1]
    have e1 : ((e.kind.toNat : Nat) : Int) = e.kind := by omega
    have e2 : ((e.mode.toNat : Nat) : Int) = e.mode := by omega
    rw [e1, e2]
  refine ⟨?_, he, by rw [hr]⟩
  unfold nextE
  rw [he, hr]
  simp only [strN_bys, q2, h, Bool.false_eq_true, if_false, ne_eq, not_true_eq_false]
  rw [if_pos]
  unfold eqB; simp

theorem decF_ebs : ∀ (l : List En) (done : List En) (r : List Nat), (∀ j e, l[j]? = some e → refusedE e ((done ++ l.take j).map toEx) = 0) → decF l.length (l.flatMap ebF ++ r) done = some (done ++ l, r)
  | [], done, r, _ => by simp [decF]
  | e :: l, done, r, h => by
    have h0 : refusedE e (done.map toEx) = 0 := by simpa using h 0 e rfl
    have e1 : (e :: l).flatMap ebF ++ r = ebF e ++ (l.flatMap ebF ++ r) := by simp
    obtain ⟨n1, n2, n3⟩ := next_eb (l.flatMap ebF ++ r) h0
    rw [e1]
    show (if nextE _ false (done.map toEx) = 0 then _ else _) = _
    rw [if_pos n1, n2, n3, decF_ebs l (done ++ [e]) r (fun j x hx => by
      have := h (j + 1) x (by simpa using hx)
      simpa using this)]
    simp

/-- The entries of what a right archive's bytes are. -/
theorem encF_map (l : List Ex) : encF l = crel ++ (b8 (l.length : Nat) :: (l.map (·.e)).flatMap ebF) := by
  unfold encF crel
  rw [List.flatMap_map]; rfl
theorem decode_enc {l : List Ex} (hl : l.length ≤ 40) (h : ∀ j x, l[j]? = some x → refusedE x.e (l.take j) = 0) : decodeF (encF l) = some (l.map (·.e)) := by
  rw [encF_map]
  have h8 : b8 (l.length : Nat) = l.length := by unfold b8; omega
  have hd := decF_ebs (l.map (·.e)) [] [] (fun j e he => by
    rw [List.getElem?_map] at he
    cases hx : l[j]? with
    | none => rw [hx] at he; simp at he
    | some x =>
      rw [hx] at he
      simp at he
      subst he
      have := h j x hx
      rw [← refusedE_bare] at this
      simpa [bare, List.map_take, Function.comp_def] using this)
  rw [List.length_map, List.append_nil] at hd
  unfold decodeF
  rw [if_pos ⟨by simp [crel, eqB], by simp [crel], by simp [crel, h8]; exact hl⟩]
  have e1 : (crel ++ (b8 (l.length : Nat) :: (l.map (·.e)).flatMap ebF)).getD 4 0 = l.length := by simp [crel, h8]
  have e2 : (crel ++ (b8 (l.length : Nat) :: (l.map (·.e)).flatMap ebF)).drop 5 = (l.map (·.e)).flatMap ebF := by simp [crel]
  rw [e1, e2, hd]
  rfl

end Go.Proofs.YticcphppnmoogaaDoor
