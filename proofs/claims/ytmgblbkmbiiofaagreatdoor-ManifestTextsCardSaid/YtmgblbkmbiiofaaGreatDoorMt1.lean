/-
  A manifest that comes in.
  The contracts of the document's number and Text.
  The contract of the document's Text.
  The contract of manifest's Same.
  The contract of manifest's Same, whole.
-/
import Derived.Test.YtmgblbkmbiiofaaGreatDoorMb20
import Derived.Test.YtmgblbkmbiiofaaGreatDoorMb2
import Derived.ProofKit
import Derived.OpenShut
import Derived.Lib.SmallJoins
import Derived.Deep.Slices
import Derived.Shelf.Vars
import Derived.Test.YtmgblbkmbiiofaaGreatDoorMb21
import Derived.Lib.ItoaNum
import Derived.BigQuiet
import Derived.Test.YtmgblbkmbiiofaaGreatDoorMb15

namespace Go.Proofs.YtmgblbkmbiiofaaGreatDoor
open Go.ChangeShapes Go.WideShapes Go.ChangeAt Go.RowKit Go.ChangeMaps Go.Deep Go.Joins

theorem two_list : ∀ {cs : List Value}, cs.length = 2 → ∃ v0 v1, cs = [v0, v1]
  | [a, b], _ => ⟨a, b, rfl⟩
theorem one_list : ∀ {cs : List Value}, cs.length = 1 → ∃ v0, cs = [v0]
  | [a], _ => ⟨a, rfl⟩
theorem itsC_split : ∀ (l : List It) (j : Nat) (v : Value), (itsC l)[j]? = some v → ∃ i k r, j = i * 2 + k ∧ l[i]? = some r ∧ (itC r)[k]? = some v
  | [], j, v, h => by simp [itsC] at h
  | x :: l, j, v, h => by
    simp only [itsC, List.flatMap_cons] at h
    rcases Nat.lt_or_ge j (itC x).length with hlt | hge
    · rw [List.getElem?_append_left hlt] at h
      exact ⟨0, j, x, by simp, by simp, h⟩
    · rw [List.getElem?_append_right hge] at h
      obtain ⟨i, k, r, h1, h2, h3⟩ := itsC_split l _ v h
      rw [itC_len] at h1 hge
      exact ⟨i + 1, k, r, by omega, by simpa using h2, h3⟩
theorem bs_len (s : ByteArray) : s.data.toList.length = s.size := Array.length_toList
theorem it_cells {H : Type} {enc : TypeId × Value → H} {W : World} {fuel : Nat} {cs : List Value} {x : DataW H × List MemPlace} (h : DataW.trod enc Tryz.prog W 0 (fun _ => true) true fuel 67 cs = some x) : ∃ r : It, cs = itC r ∧ r.a.length ≤ 9223372036854775807 ∧ r.b.length ≤ 9223372036854775807 := by
  have hcD : Tryz.prog.cellsOf 9 = 1 := by kernel_rfl
  have hcE : Tryz.prog.cellsOf 67 = 2 := by kernel_rfl
  obtain ⟨xs, n, -, -, hl, hx, hf⟩ := DataW.trod_struct Tryz.underlying67 h
  rw [hcE] at hl
  have hx3 : xs.length = 2 := hx
  have g : ∀ i, i < 2 → ∃ y, xs[i]? = some y := fun i hi => ⟨_, List.getElem?_eq_getElem (by omega)⟩
  obtain ⟨y0, e0⟩ := g 0 (by omega)
  obtain ⟨y1, e1⟩ := g 1 (by omega)
  have f0 := hf 0 _ rfl
  have f1 := hf 1 _ rfl
  rw [e0] at f0
  rw [e1] at f1
  obtain ⟨v0, v1, rfl⟩ := two_list hl
  have f0' : DataW.trod enc Tryz.prog W 0 (fun _ => true) true n 9 (([v0, v1].drop 0).take (Tryz.prog.cellsOf 9)) = some y0 := f0
  have f1' : DataW.trod enc Tryz.prog W 0 (fun _ => true) true n 9 (([v0, v1].drop 1).take (Tryz.prog.cellsOf 9)) = some y1 := f1
  rw [hcD] at f0' f1'
  obtain ⟨s, hs, -, hws⟩ := DataW.trod_string Tryz.underlying9 f0'
  obtain ⟨t, ht, -, hwt⟩ := DataW.trod_string Tryz.underlying9 f1'
  injection hs with hs
  injection ht with ht
  subst hs ht
  exact ⟨⟨s.data.toList, t.data.toList⟩, by unfold itC; simp only; rw [bs_of, bs_of], Nat.le_trans (Nat.le_of_eq (bs_len s)) hws, Nat.le_trans (Nat.le_of_eq (bs_len t)) hwt⟩
theorem list_ofP {α : Type} {P : Nat → α → Prop} : ∀ (n : Nat), (∀ i, i < n → ∃ r, P i r) → ∃ l : List α, l.length = n ∧ ∀ i r, l[i]? = some r → P i r
  | 0, _ => ⟨[], rfl, fun i r h => by simp at h⟩
  | n + 1, h => by
    obtain ⟨l, h1, h2⟩ := list_ofP n (fun i hi => h i (by omega))
    obtain ⟨r, hr⟩ := h n (by omega)
    refine ⟨l ++ [r], by simp [h1], fun i r' hi => ?_⟩
    rcases Nat.lt_or_ge i l.length with hlt | hge
    · rw [List.getElem?_append_left hlt] at hi
      exact h2 i r' hi
    · rw [List.getElem?_append_right hge] at hi
      have hi0 : i - l.length = 0 := by
        rcases Nat.eq_zero_or_pos (i - l.length) with e | e
        · exact e
        · rw [List.getElem?_eq_none (by simp; omega)] at hi; cases hi
      rw [hi0] at hi
      simp at hi
      subst hi
      have : i = n := by omega
      subst this
      exact hr
/-- A list of items that comes in. -/
structure ItI (w : World) (p : Hd) (l : List It) : Prop where
  row : Reads w w.heap.size 2 p.A p.n (itsC l)
  nb : p.n ≤ 9223372036854775807
  tx : ∀ x ∈ l, x.a.length ≤ 9223372036854775807 ∧ x.b.length ≤ 9223372036854775807
set_option maxRecDepth 100000 in
theorem open_its {H : Type} {enc : TypeId × Value → H} {W : World} {fuel : Nat} {v : Value} {x : DataW H × List MemPlace} (h : DataW.trod enc Tryz.prog W 0 (fun _ => true) true fuel 28 [v] = some x) :
    ∃ (p : Hd) (l : List It), v = p.v ∧ ItI W p l := by
  have hcE : Tryz.prog.cellsOf 67 = 2 := by kernel_rfl
  rcases open_slice Tryz.underlying28 h with ⟨hcs, -⟩ | ⟨a, len, cap, m, n, D, Pl, hcs, -, hl, hm, hmm, -, hi⟩
  · injection hcs with hcs
    subst hcs
    exact ⟨⟨none, 0, 0⟩, [], rfl, ⟨Reads.none_, by show 0 ≤ _; omega, fun x hx => by cases hx⟩⟩
  · injection hcs with hcs
    subst hcs
    rw [if_pos rfl] at hmm
    rw [hcE] at hi
    unfold maxLen at hm
    obtain ⟨l, h1, h2⟩ := list_ofP (P := fun i (x : It) => W.cells? 0 (a.add (i * 2)) 2 = some (itC x) ∧ x.a.length ≤ 9223372036854775807 ∧ x.b.length ≤ 9223372036854775807) len (fun i hil => by
      obtain ⟨cs', hc, ht⟩ := hi i (by omega)
      obtain ⟨r, rfl, hr⟩ := it_cells ht
      exact ⟨r, hc, hr⟩)
    refine ⟨⟨some a, len, cap⟩, l, rfl, ⟨⟨by rw [itsC_len, h1], fun hn => ⟨a, rfl, ?_, fun j u hu => ?_⟩⟩, by show len ≤ _; omega, fun x hx => ?_⟩⟩
    · obtain ⟨r, hr⟩ : ∃ r, l[0]? = some r := ⟨_, List.getElem?_eq_getElem (by have : 0 < len := hn; omega)⟩
      obtain ⟨_, hcl, hat⟩ := World.cells?_some (h2 0 r hr).1
      have h3 := hat 0 (by omega)
      have h4 := cell_lt' (h3.trans (show (itC r)[0]? = some _ from rfl))
      rw [block_of_add, block_of_add] at h4
      exact h4
    · obtain ⟨i, k, r, rfl, hr, hk⟩ := itsC_split l j u hu
      obtain ⟨_, hcl, hat⟩ := World.cells?_some (h2 i r hr).1
      have hk4 : k < 2 := by have := (List.getElem?_eq_some_iff.1 hk).1; rw [itC_len] at this; exact this
      have h3 := hat k hk4
      rw [add_of_add] at h3
      rw [h3, hk]
    · obtain ⟨i, hx2⟩ := List.mem_iff_getElem?.1 hx
      exact (h2 i x hx2).2
theorem seven_list : ∀ {cs : List Value}, cs.length = 7 → ∃ v0 v1 v2 v3 v4 v5 v6, cs = [v0, v1, v2, v3, v4, v5, v6]
  | [a, b, c, d, e, f, g], _ => ⟨a, b, c, d, e, f, g, rfl⟩
set_option maxRecDepth 100000 in
theorem open_mf {H : Type} {enc : TypeId × Value → H} {W : World} {base : Nat} {v : Value} {d : DataW H} {p : List MemPlace}
    (h : DataW.Trod enc Tryz.prog W 0 (fun _ => true) true 31 v d p) (o : Value.okWide Tryz.prog W .any base 31 v) :
    ∃ (m : Mf) (p s h k : Hd), v = mfV m p s h k ∧ MfI W m p s h k := by
  have hu := Tryz.underlying31
  have hc1 : Tryz.prog.cellsOf 3 = 1 := by kernel_rfl
  have hcS : Tryz.prog.cellsOf 9 = 1 := by kernel_rfl
  have hcL : Tryz.prog.cellsOf 28 = 1 := by kernel_rfl
  have hcA : Tryz.prog.cellsOf 29 = 4 := by kernel_rfl
  have hcR : Tryz.prog.cellsOf 31 = 7 := by kernel_rfl
  obtain ⟨cs, rfl⟩ : ∃ cs, v = .agg cs := by
    simp only [Value.okWide, hu] at o
    obtain ⟨cs, h1, -⟩ := o
    exact ⟨cs, h1⟩
  obtain ⟨fuel, hf⟩ := h
  simp only [Value.cells] at hf
  obtain ⟨xs, n, -, -, hl, hx, hf⟩ := DataW.trod_struct hu hf
  rw [hcR] at hl
  have hx3 : xs.length = 4 := hx
  have g : ∀ i, i < 4 → ∃ y, xs[i]? = some y := fun i hi => ⟨_, List.getElem?_eq_getElem (by omega)⟩
  obtain ⟨y0, e0⟩ := g 0 (by omega)
  obtain ⟨y1, e1⟩ := g 1 (by omega)
  obtain ⟨y2, e2⟩ := g 2 (by omega)
  obtain ⟨y3, e3⟩ := g 3 (by omega)
  have f0 := hf 0 _ rfl
  have f1 := hf 1 _ rfl
  have f2 := hf 2 _ rfl
  have f3 := hf 3 _ rfl
  rw [e0] at f0
  rw [e1] at f1
  rw [e2] at f2
  rw [e3] at f3
  obtain ⟨v0, v1, v2, v3, v4, v5, v6, hcs⟩ := seven_list hl
  obtain rfl : cs = #[v0, v1, v2, v3, v4, v5, v6] := by rw [← hcs]
  have f0' : DataW.trod enc Tryz.prog W 0 (fun _ => true) true n 9 (([v0, v1, v2, v3, v4, v5, v6].drop 0).take (Tryz.prog.cellsOf 9)) = some y0 := f0
  have f1' : DataW.trod enc Tryz.prog W 0 (fun _ => true) true n 9 (([v0, v1, v2, v3, v4, v5, v6].drop 1).take (Tryz.prog.cellsOf 9)) = some y1 := f1
  have f2' : DataW.trod enc Tryz.prog W 0 (fun _ => true) true n 3 (([v0, v1, v2, v3, v4, v5, v6].drop 2).take (Tryz.prog.cellsOf 3)) = some y2 := f2
  have f3' : DataW.trod enc Tryz.prog W 0 (fun _ => true) true n 29 (([v0, v1, v2, v3, v4, v5, v6].drop 3).take (Tryz.prog.cellsOf 29)) = some y3 := f3
  rw [hcS] at f0' f1'
  rw [hc1] at f2'
  rw [hcA] at f3'
  obtain ⟨s, hs, -, hws⟩ := DataW.trod_string Tryz.underlying9 f0'
  obtain ⟨t, ht, -, hwt⟩ := DataW.trod_string Tryz.underlying9 f1'
  obtain ⟨r, hr, -, -⟩ := DataW.trod_int Tryz.underlying3 f2'
  obtain ⟨zs, q, -, -, -, hzx, hz⟩ := DataW.trod_array Tryz.underlying29 f3'
  rw [hcL] at hz
  have gz : ∀ i, i < 4 → ∃ y, zs[i]? = some y := fun i hi => ⟨_, List.getElem?_eq_getElem (by omega)⟩
  obtain ⟨z0, k0⟩ := gz 0 (by omega)
  obtain ⟨z1, k1⟩ := gz 1 (by omega)
  obtain ⟨z2, k2⟩ := gz 2 (by omega)
  obtain ⟨z3, k3⟩ := gz 3 (by omega)
  have g0 : DataW.trod enc Tryz.prog W 0 (fun _ => true) true q 28 [v3] = some z0 := (hz 0 (by omega)).trans k0
  have g1 : DataW.trod enc Tryz.prog W 0 (fun _ => true) true q 28 [v4] = some z1 := (hz 1 (by omega)).trans k1
  have g2 : DataW.trod enc Tryz.prog W 0 (fun _ => true) true q 28 [v5] = some z2 := (hz 2 (by omega)).trans k2
  have g3 : DataW.trod enc Tryz.prog W 0 (fun _ => true) true q 28 [v6] = some z3 := (hz 3 (by omega)).trans k3
  obtain ⟨p0, l0, rfl, i0⟩ := open_its g0
  obtain ⟨p1, l1, rfl, i1⟩ := open_its g1
  obtain ⟨p2, l2, rfl, i2⟩ := open_its g2
  obtain ⟨p3, l3, rfl, i3⟩ := open_its g3
  injection hs with hs
  injection ht with ht
  injection hr with hr
  subst hs ht hr
  refine ⟨⟨s.data.toList, t.data.toList, r, l0, l1, l2, l3⟩, p0, p1, p2, p3, ?_, ⟨i0.row, i1.row, i2.row, i3.row, ⟨i0.nb, i1.nb, i2.nb, i3.nb⟩, fun j hj x hx => ?_, Nat.le_trans (Nat.le_of_eq (bs_len s)) hws, Nat.le_trans (Nat.le_of_eq (bs_len t)) hwt⟩⟩
  · unfold mfV
    simp only
    rw [bs_of, bs_of]
  · match j, hj with
    | 0, _ => exact i0.tx x hx
    | 1, _ => exact i1.tx x hx
    | 2, _ => exact i2.tx x hx
    | 3, _ => exact i3.tx x hx
end Go.Proofs.YtmgblbkmbiiofaaGreatDoor

namespace Go.Proofs.YtmgblbkmbiiofaaGreatDoor
open Go.RowKit
attribute [local go_sem ↓] Go.wp_at_zero Go.wp_at_succ
set_option linter.unusedVariables false
set_option linter.unusedSimpArgs false

theorem slice_dgM (w : World) (a : Nat) (ha : a < 10) :
    (Instr.slice 9 (.string ⟨#[48, 49, 50, 51, 52, 53, 54, 55, 56, 57]⟩) (some (.int .i64 (a : Int))) (some (.int .i64 ((a : Int) + 1))) none).run Tryz.prog w = .ok (.string (bsS [UInt8.ofNat (48 + a)])) w := by
  have hs : (⟨#[48, 49, 50, 51, 52, 53, 54, 55, 56, 57]⟩ : ByteArray).size = 10 := rfl
  rw [run_slice_string_if w 9 _ .i64 .i64 (a : Int) ((a : Int) + 1) Tryz.underlying9, if_pos ⟨by omega, by rw [hs]; omega⟩, if_pos ⟨by omega, by omega⟩]
  have e : ((a : Int) + 1).toNat = a + 1 := by omega
  rw [e, Int.toNat_natCast]
  have h3 : ∀ x : Fin 10, (⟨#[48, 49, 50, 51, 52, 53, 54, 55, 56, 57]⟩ : ByteArray).extract x.1 (x.1 + 1) = bsS [UInt8.ofNat (48 + x.1)] := by decide +kernel
  rw [h3 ⟨a, ha⟩]
theorem dec_next {n : Nat} (h : ¬ n < 10) : Lib.decDigits n = Lib.decDigits (n / 10) ++ [UInt8.ofNat (48 + n % 10)] := by
  rw [Lib.decDigits, dif_neg h]
set_option maxRecDepth 100000 in
set_option maxHeartbeats 2000000 in
theorem rnumM_any (n : Nat) (hn : n ≤ 1000000) (w : World) : Calls Tryz.prog 44 #[.int .i64 n] w fun e w' => e = .returned (.string (bsS (Lib.decDigits n))) ∧ w = w' := by
  induction n using Nat.strongRecOn generalizing w with
  | _ n ih =>
    obtain ⟨d, hd⟩ : ∃ d : Nat, n % 10 = d := ⟨_, rfl⟩
    obtain ⟨q, hq⟩ : ∃ q : Nat, n / 10 = q := ⟨_, rfl⟩
    have hd10 : d < 10 := by omega
    have hm : (n : Int) % 10 = (d : Nat) := by omega
    have hqq : (n : Int) / 10 = (q : Nat) := by omega
    have hsl := fun (w' : World) => slice_dgM w' d hd10
    obtain ⟨D, hD⟩ : ∃ D, Lib.decDigits n = D := ⟨_, rfl⟩
    rw [hD]
    by_cases h : n < 10
    · have HC := Sl.mk (show D = [UInt8.ofNat (48 + d)] by rw [← hD, Lib.decDigits_one h, ← hd, Nat.mod_eq_of_lt h])
      obtain ⟨S, hS⟩ : ∃ S, [UInt8.ofNat (48 + d)] = S := ⟨_, rfl⟩
      rw [hS] at hsl HC
      have hlt : (n : Int) < 10 := by omega
      clear hd hq hD hS ih
      go_enter Tryz.func44, Tryz.ntmps44
      go_wp2_with fail
      go_ret
      exact ⟨by rw [HC.out]; rfl, rfl⟩
    · have HC := Sl.mk (show D = Lib.decDigits q ++ [UInt8.ofNat (48 + d)] by rw [← hD, dec_next h, hd, hq])
      obtain ⟨S, hS⟩ : ∃ S, [UInt8.ofNat (48 + d)] = S := ⟨_, rfl⟩
      rw [hS] at hsl HC
      have hSl : S.length = 1 := by rw [← hS]; rfl
      have HI := Sl.mk (fun W => ih q (by omega) (by omega) W)
      have hql : (Lib.decDigits q).length ≤ 10 := by rw [Lib.decDigits_length]; exact Nat.le_trans (nDig_leM 6 q (by omega)) (by decide)
      obtain ⟨Q, hQ⟩ : ∃ Q, Lib.decDigits q = Q := ⟨_, rfl⟩
      rw [hQ] at HI HC hql
      have hap : bsS Q ++ bsS S = bsS D := by rw [HC.out, bs_app]
      have hs1 := bs_size Q
      have hs2 := bs_size S
      have hlt : ¬ (n : Int) < 10 := by omega
      clear hd hq hD hS ih h hQ
      go_enter Tryz.func44, Tryz.ntmps44
      go_wp2_with fail
      refine (HI.out _).mono ?_
      rintro e w' ⟨rfl, rfl⟩
      go_wp2_with fail
      go_ret
      exact ⟨rfl, rfl⟩
def rowsK (m : Mf) (i k : Nat) : List Bs := (List.range i).flatMap (fun j => (m.at j).map (itL (wl.getD j []))) ++ ((m.at i).take k).map (itL (wl.getD i []))
theorem rowsK_zero (m : Mf) : rowsK m 0 0 = [] := by simp [rowsK]
theorem rowsK_up (m : Mf) (i : Nat) : rowsK m i (m.at i).length = rowsK m (i + 1) 0 := by
  unfold rowsK
  rw [List.range_succ, List.flatMap_append, List.take_length]
  simp
theorem rowsK_next {m : Mf} {i k : Nat} {x : It} (hx : (m.at i)[k]? = some x) : rowsK m i (k + 1) = rowsK m i k ++ [itL (wl.getD i []) x] := by
  unfold rowsK
  rw [take_snoc' hx]
  simp
theorem rowsK_four (m : Mf) : rowsK m 4 0 = rowsM m := by
  unfold rowsK rowsM
  simp [List.range_succ, List.range_zero, Mf.at, wl]
theorem rowsK_pre (m : Mf) {i : Nat} (hi : i < 4) (k : Nat) : rowsK m i k <+: rowsM m := by
  rw [← rowsK_four]
  have h1 : rowsK m i k <+: rowsK m i (m.at i).length := by
    unfold rowsK
    rw [List.take_length]
    exact List.prefix_append_right_inj _ |>.2 ((List.take_prefix _ _).map _)
  refine h1.trans ?_
  rw [rowsK_up]
  unfold rowsK
  simp only [List.take_zero, List.map_nil, List.append_nil]
  obtain ⟨d, hd⟩ : ∃ d, 4 = (i + 1) + d := ⟨4 - (i + 1), by omega⟩
  have e : List.range 4 = List.range (i + 1) ++ (List.range d).map (fun x => (i + 1) + x) := by rw [hd, List.range_add]
  rw [e, List.flatMap_append]
  exact List.prefix_append _ _
theorem endL_appM (a b : List Bs) : endL (a ++ b) = endL a ++ endL b := by simp [endL]
def head3 (m : Mf) : List Bs := [sp2 hw0 m.pkg, sp2 hw1 m.pub, sp2 hw2 (Lib.itoa m.rev)]
def textK (m : Mf) (i k : Nat) : Bs := endL (head3 m ++ rowsK m i k)
theorem textK_four (m : Mf) : textK m 4 0 = textM m := by
  unfold textK textM
  rw [rowsK_four]; rfl
theorem textK_up (m : Mf) (i : Nat) : textK m i (m.at i).length = textK m (i + 1) 0 := by unfold textK; rw [rowsK_up]
theorem textK_next {m : Mf} {i k : Nat} {x : It} (hx : (m.at i)[k]? = some x) : textK m i (k + 1) = textK m i k ++ (wl.getD i [] ++ 32 :: (x.a ++ 32 :: (x.b ++ [10]))) := by
  unfold textK
  rw [rowsK_next hx, ← List.append_assoc, endL_snoc]
  simp [itL]
theorem textK_le {m : Mf} {i : Nat} (hi : i < 4) (k : Nat) : (textK m i k).length ≤ (textM m).length := by
  obtain ⟨t, ht⟩ := rowsK_pre m hi k
  have e : textM m = endL (head3 m ++ rowsM m) := rfl
  rw [e, ← ht, ← List.append_assoc, endL_appM, List.length_append]
  unfold textK
  omega
theorem textK_zero (m : Mf) : textK m 0 0 = hw0 ++ 32 :: (m.pkg ++ 10 :: (hw1 ++ 32 :: (m.pub ++ 10 :: (hw2 ++ 32 :: (Lib.itoa m.rev ++ [10]))))) := by
  unfold textK
  rw [rowsK_zero]
  simp [head3, endL, sp2]
end Go.Proofs.YtmgblbkmbiiofaaGreatDoor

namespace Go.Proofs.YtmgblbkmbiiofaaGreatDoor
open Go.RowKit
attribute [local go_sem ↓] Go.wp_at_zero Go.wp_at_succ
set_option linter.unusedVariables false
set_option linter.unusedSimpArgs false

set_option maxRecDepth 100000 in
set_option maxHeartbeats 16000000 in
theorem rtextM_any (m : Mf) (p s h k : Hd) (w : World) (H : MfR w m p s h k) (hrev : ∃ n : Nat, m.rev = n ∧ n ≤ 999999) (hlen : (textM m).length ≤ 1000000) :
    Calls Tryz.prog 15 #[mfV m p s h k] w fun e w' => e = .returned (.string (bsS (textM m))) ∧ Below w.heap.size w w' := by
  obtain ⟨nr, hnr, hnr2⟩ := hrev
  obtain ⟨T, hT⟩ : ∃ T, textM m = T := ⟨_, rfl⟩
  rw [hT]
  have hlenT : T.length ≤ 1000000 := by rw [← hT]; exact hlen
  have HTT := Sl.mk hT
  have HLE := Sl.mk (show ∀ i k, i < 4 → (textK m i k).length ≤ 1000000 from fun i k hi => Nat.le_trans (textK_le hi k) hlen)
  have HH := Sl.mk H
  have hpk := H.pkg
  have hpu := H.pub
  obtain ⟨w0, hw0⟩ : ∃ w0, w.alloc (.cells (mfC m p s h k).toArray 31) = w0 := ⟨_, rfl⟩
  have HB0 := Sl.mk (show Below w.heap.size w w0 by rw [← hw0]; exact below_al (Below.refl _ _) _)
  have HK0 := Sl.mk (show Blk w0 w.heap.size 31 (mfC m p s h k).toArray by rw [← hw0]; exact Blk.new _ _ _)
  have HCELL := Sl.mk (fun (W : World) (hW : Below (w.heap.size + 1) w0 W) (i : Nat) (hi : i < 4) => (hW.cell (p := ⟨w.heap.size, 3 + i, none⟩) (Nat.lt_succ_self _)).trans (hd4_cell HK0.out hi))
  have HBW := Sl.mk (fun (W : World) (hW : Below (w.heap.size + 1) w0 W) => HB0.out.trans (hW.mono (Nat.le_succ _)))
  have HITS := Sl.mk (fun (W : World) (hW : Below (w.heap.size + 1) w0 W) (i : Nat) (hi : i < 4) => (HH.out.be (HBW.out W hW)).its hi)
  have e0 : w0.cell? ⟨w.heap.size, 0, none⟩ = some (.string (bsS m.pkg)) := HK0.out.cell 0
  have e1 : w0.cell? ⟨w.heap.size, 1, none⟩ = some (.string (bsS m.pub)) := HK0.out.cell 1
  have e2 : w0.cell? ⟨w.heap.size, 2, none⟩ = some (.int .i64 (nr : Nat)) := (HK0.out.cell 2).trans (by rw [← hnr]; rfl)
  have b0 := Sl.mk (Below.refl (w.heap.size + 1) w0)
  obtain ⟨HDF, hHDF⟩ : ∃ f, hd4 p s h k = f := ⟨_, rfl⟩
  rw [hHDF] at HCELL HITS
  clear hHDF
  have HNU := Sl.mk (fun W => rnumM_any nr (by omega) W)
  have hnl : (Lib.decDigits nr).length ≤ 10 := by rw [Lib.decDigits_length]; exact Nat.le_trans (nDig_leM 6 nr (by omega)) (by decide)
  have HIT := Sl.mk (show Lib.itoa m.rev = Lib.decDigits nr by rw [hnr, itoa_natM])
  obtain ⟨NU, hNU⟩ : ∃ NU, Lib.decDigits nr = NU := ⟨_, rfl⟩
  rw [hNU] at HNU hnl HIT
  obtain ⟨A1, hA1⟩ : ∃ A, ([112, 97, 99, 107, 97, 103, 101, 32] : Bs) ++ m.pkg = A := ⟨_, rfl⟩
  obtain ⟨A2, hA2⟩ : ∃ A, A1 ++ ([10, 112, 117, 98, 108, 105, 115, 104, 101, 114, 32] : Bs) = A := ⟨_, rfl⟩
  obtain ⟨A3, hA3⟩ : ∃ A, A2 ++ m.pub = A := ⟨_, rfl⟩
  obtain ⟨A4, hA4⟩ : ∃ A, A3 ++ ([10, 114, 101, 118, 105, 115, 105, 111, 110, 32] : Bs) = A := ⟨_, rfl⟩
  obtain ⟨A5, hA5⟩ : ∃ A, A4 ++ NU = A := ⟨_, rfl⟩
  obtain ⟨A6, hA6⟩ : ∃ A, A5 ++ ([10] : Bs) = A := ⟨_, rfl⟩
  have HA6 := Sl.mk (show textK m 0 0 = A6 by
    rw [textK_zero, HIT.out, ← hA6, ← hA5, ← hA4, ← hA3, ← hA2, ← hA1]
    simp [Go.Proofs.YtmgblbkmbiiofaaGreatDoor.hw0, hw1, hw2])
  have a1 : (⟨#[112, 97, 99, 107, 97, 103, 101, 32]⟩ : ByteArray) ++ bsS m.pkg = bsS A1 := by rw [← hA1]; exact bs_app [112, 97, 99, 107, 97, 103, 101, 32] m.pkg
  have a2 : bsS A1 ++ (⟨#[10, 112, 117, 98, 108, 105, 115, 104, 101, 114, 32]⟩ : ByteArray) = bsS A2 := by rw [← hA2]; exact bs_app A1 [10, 112, 117, 98, 108, 105, 115, 104, 101, 114, 32]
  have a3 : bsS A2 ++ bsS m.pub = bsS A3 := by rw [← hA3]; exact bs_app A2 m.pub
  have a4 : bsS A3 ++ (⟨#[10, 114, 101, 118, 105, 115, 105, 111, 110, 32]⟩ : ByteArray) = bsS A4 := by rw [← hA4]; exact bs_app A3 [10, 114, 101, 118, 105, 115, 105, 111, 110, 32]
  have a5 : bsS A4 ++ bsS NU = bsS A5 := by rw [← hA5]; exact bs_app A4 NU
  have a6 : bsS A5 ++ (⟨#[10]⟩ : ByteArray) = bsS A6 := by rw [← hA6]; exact bs_app A5 [10]
  have z0 := bs_size m.pkg
  have z00 := bs_size m.pub
  have z1 : (bsS A1).size = 8 + m.pkg.length := by rw [bs_size, ← hA1]; simp; omega
  have z2 : (bsS A2).size = 19 + m.pkg.length := by rw [bs_size, ← hA2, ← hA1]; simp; omega
  have z3 : (bsS A3).size = 19 + m.pkg.length + m.pub.length := by rw [bs_size, ← hA3, ← hA2, ← hA1]; simp; omega
  have z4 : (bsS A4).size = 29 + m.pkg.length + m.pub.length := by rw [bs_size, ← hA4, ← hA3, ← hA2, ← hA1]; simp; omega
  have z5 : (bsS A5).size = 29 + m.pkg.length + m.pub.length + NU.length := by rw [bs_size, ← hA5, ← hA4, ← hA3, ← hA2, ← hA1]; simp; omega
  have z6 := bs_size NU
  clear hA1 hA2 hA3 hA4 hA5 hA6 hNU hnr H hlen hT
  obtain ⟨pA, pn, pc⟩ := p
  obtain ⟨sA, sn, sc⟩ := s
  obtain ⟨hA, hn, hc⟩ := h
  obtain ⟨kA, kn, kc⟩ := k
  unfold mfV
  simp only [Hd.v, mfC] at hw0 ⊢
  go_enter Tryz.func15, Tryz.ntmps15
  go_upto_region 1 with fail
  clear hw0
  refine wp_region_quiet_tail 13 (by kernel_rfl) (by kernel_rfl) ?_
  simp only [List.take_succ_cons, List.take_zero, List.drop_succ_cons, List.drop_zero]
  repeat (any_goals (first | go_big_quiet_step ((go_at_call 44; first | exact quiet_lf (HNU.out _) | exact quiet_add_lf (HNU.out _))) | quiet_step ((go_at_call 44; first | exact quiet_lf (HNU.out _) | exact quiet_add_lf (HNU.out _)))))
  refine wpQuiet_nil ?_
  intro _ hw'
  obtain ⟨nq, hw''⟩ := hw'
  subst hw''
  go_wp2_with fail
  have HB1 := Sl.mk (show Below (w.heap.size + 1) w0 (w0.drewN nq) from below_drN b0.out nq)
  obtain ⟨w1, hw1_⟩ : ∃ w1, w0.drewN nq = w1 := ⟨_, rfl⟩
  rw [hw1_] at HB1 ⊢
  clear hw1_ a1 a2 a3 a4 a5 a6 z0 z00 z1 z2 z3 z4 z5 z6 e0 e1 e2 HNU hnl
  go_loopg [3, 4] 4 (fun q v3 v4 wr => ∃ (i : Nat) (B : Bs), q = 4 - i ∧ i ≤ 4 ∧ v4 = .int .i64 i ∧ v3 = .string (bsS B) ∧ Sl (B = textK m i 0) ∧ Sl (Below (w.heap.size + 1) w0 wr))
  case atStart => exact ⟨0, A6, rfl, by omega, rfl, rfl, ⟨HA6.out.symm⟩, HB1⟩
  case round =>
    obtain ⟨i, B, hq, hi, rfl, rfl, HBT, HBr⟩ := hrel
    by_cases hi4 : i < 4
    · have c0 := HCELL.out wr HBr.out i hi4
      have HITi := Sl.mk (fun (W : World) (hW : Below (w.heap.size + 1) w0 W) => HITS.out W hW i hi4)
      have HCL := Sl.mk (fun (W : World) (hW : Below (w.heap.size + 1) w0 W) => HCELL.out W hW i hi4)
      have HWD := Sl.mk (fun W => rword_any i hi4 W)
      have HWL := Sl.mk (show (wl.getD i []).length = 4 by
        have : ∀ k, k < 4 → (wl.getD k []).length = 4 := by decide
        exact this i hi4)
      have HUP := Sl.mk (textK_up m i)
      have HTN := Sl.mk (fun j x (hx : (m.at i)[j]? = some x) => textK_next hx)
      have HLi := Sl.mk (fun j => HLE.out i j hi4)
      obtain ⟨z, hz⟩ : ∃ z, HDF i = z := ⟨_, rfl⟩
      obtain ⟨l, hl⟩ : ∃ l, m.at i = l := ⟨_, rfl⟩
      obtain ⟨wd_, hwd_⟩ : ∃ x, wl.getD i [] = x := ⟨_, rfl⟩
      rw [hz] at c0 HITi HCL
      rw [hl] at HITi HUP HTN
      rw [hwd_] at HWD HWL HTN
      clear hz hl hwd_
      obtain ⟨A, n, c⟩ := z
      simp only [Hd.v] at c0 HITi HCL
      have hnb : n ≤ 1000000 := (HITi.out wr HBr.out).2
      have HN := Sl.mk (show l.length = n from (HITi.out wr HBr.out).1.n_)
      have hilt : (i : Int) < 4 := by omega
      go_wp2_with fail
      clear c0
      go_loopg [3, 5] n (fun q v3 v5 wx => ∃ (j : Nat) (B : Bs), q = n - j ∧ j ≤ n ∧ v5 = .int .i64 j ∧ v3 = .string (bsS B) ∧ Sl (B = textK m i j) ∧ Sl (Below (w.heap.size + 1) w0 wx))
      case atStart => exact ⟨0, B, rfl, Nat.zero_le _, rfl, rfl, HBT, HBr⟩
      case round =>
        obtain ⟨j, B, hqj, hj, rfl, rfl, HBT, HBx⟩ := hrel
        have c0 := HCL.out wr HBx.out
        by_cases hlt : j < n
        · obtain ⟨x, hx⟩ : ∃ x, l[j]? = some x := ⟨_, List.getElem?_eq_getElem (by rw [HN.out]; exact hlt)⟩
          obtain ⟨ab, ao, hAe, hbl, g0, g1, hsa, hsb⟩ := its_two (HITi.out wr HBx.out).1 hx
          have HNX := Sl.mk (HTN.out j x hx)
          have HLN := Sl.mk (HLi.out (j + 1))
          obtain ⟨xa, xb⟩ := x
          subst hAe
          obtain ⟨T1, hT1⟩ : ∃ A, B ++ wd_ = A := ⟨_, rfl⟩
          obtain ⟨T2, hT2⟩ : ∃ A, T1 ++ ([32] : Bs) = A := ⟨_, rfl⟩
          obtain ⟨T3, hT3⟩ : ∃ A, T2 ++ xa = A := ⟨_, rfl⟩
          obtain ⟨T4, hT4⟩ : ∃ A, T3 ++ ([32] : Bs) = A := ⟨_, rfl⟩
          obtain ⟨T5, hT5⟩ : ∃ A, T4 ++ xb = A := ⟨_, rfl⟩
          obtain ⟨T6, hT6⟩ : ∃ A, T5 ++ ([10] : Bs) = A := ⟨_, rfl⟩
          have HT6 := Sl.mk (show T6 = textK m i (j + 1) by
            rw [HNX.out, ← HBT.out, ← hT6, ← hT5, ← hT4, ← hT3, ← hT2, ← hT1]
            simp)
          have hl6 : B.length + 4 + xa.length + xb.length + 3 ≤ 1000000 := by
            have h1 := HLN.out
            rw [← HT6.out, ← hT6, ← hT5, ← hT4, ← hT3, ← hT2, ← hT1] at h1
            simp only [List.length_append, List.length_cons, List.length_nil] at h1
            have := HWL.out
            omega
          have a1 : bsS B ++ bsS wd_ = bsS T1 := by rw [← hT1]; exact bs_app _ _
          have a2 : bsS T1 ++ (⟨#[32]⟩ : ByteArray) = bsS T2 := by rw [← hT2]; exact bs_app T1 [32]
          have a3 : bsS T2 ++ bsS xa = bsS T3 := by rw [← hT3]; exact bs_app _ _
          have a4 : bsS T3 ++ (⟨#[32]⟩ : ByteArray) = bsS T4 := by rw [← hT4]; exact bs_app T3 [32]
          have a5 : bsS T4 ++ bsS xb = bsS T5 := by rw [← hT5]; exact bs_app _ _
          have a6 : bsS T5 ++ (⟨#[10]⟩ : ByteArray) = bsS T6 := by rw [← hT6]; exact bs_app T5 [10]
          have hwl := HWL.out
          have z0 : (bsS wd_).size = 4 := by rw [bs_size]; exact hwl
          have zB := bs_size B
          have za := bs_size xa
          have zb := bs_size xb
          have z1 : (bsS T1).size = B.length + 4 := by rw [bs_size, ← hT1]; simp; omega
          have z2 : (bsS T2).size = B.length + 5 := by rw [bs_size, ← hT2, ← hT1]; simp; omega
          have z3 : (bsS T3).size = B.length + 5 + xa.length := by rw [bs_size, ← hT3, ← hT2, ← hT1]; simp; omega
          have z4 : (bsS T4).size = B.length + 6 + xa.length := by rw [bs_size, ← hT4, ← hT3, ← hT2, ← hT1]; simp; omega
          have z5 : (bsS T5).size = B.length + 6 + xa.length + xb.length := by rw [bs_size, ← hT5, ← hT4, ← hT3, ← hT2, ← hT1]; simp; omega
          have hlz : (j : Int) < (n : Int) := by omega
          clear hx hsa hsb hT1 hT2 hT3 hT4 hT5 hT6 hwl
          go_wp2_with fail
          refine wp_region_quiet_tail 25 (by kernel_rfl) (by kernel_rfl) ?_
          simp only [List.take_succ_cons, List.take_zero, List.drop_succ_cons, List.drop_zero]
          repeat (any_goals (first | go_big_quiet_step ((go_at_call 27; first | exact quiet_lf (HWD.out _) | exact quiet_add_lf (HWD.out _))) | quiet_step ((go_at_call 27; first | exact quiet_lf (HWD.out _) | exact quiet_add_lf (HWD.out _)))))
          refine wpQuiet_nil ?_
          intro _ hw'
          obtain ⟨nq, hw''⟩ := hw'
          subst hw''
          go_wp2_with fail
          go_roundg (n - (j + 1))
          case measure => omega
          case rel => exact ⟨j + 1, T6, rfl, by omega, by go_num, rfl, HT6, ⟨below_drN HBx.out nq⟩⟩
        · obtain rfl : j = n := by omega
          have HE := Sl.mk (show B = textK m (i + 1) 0 by rw [HBT.out, ← HUP.out, HN.out])
          have hlz : ¬ (j : Int) < (j : Int) := by omega
          go_wp2_with fail
          go_roundg (4 - (i + 1))
          case measure => omega
          case rel => exact ⟨i + 1, B, rfl, by omega, by go_num, rfl, HE, HBx⟩
    · obtain rfl : i = 4 := by omega
      have HE := Sl.mk (show B = T by rw [HBT.out, textK_four, HTT.out])
      go_wp2_with fail
      go_ret
      exact ⟨by rw [HE.out]; rfl, HBW.out _ HBr.out⟩
end Go.Proofs.YtmgblbkmbiiofaaGreatDoor

namespace Go.Proofs.YtmgblbkmbiiofaaGreatDoor
open Go.RowKit
attribute [local go_sem ↓] Go.wp_at_zero Go.wp_at_succ
set_option linter.unusedVariables false
set_option linter.unusedSimpArgs false

set_option maxRecDepth 100000 in
set_option maxHeartbeats 8000000 in
theorem eqsM_any (A : Option Addr) (n c : Nat) (l : List It) (A2 : Option Addr) (n2 c2 : Nat) (l2 : List It) (w : World) (hn : n ≤ 1000000) (hn2 : n2 ≤ 1000000) (hI : Its w A n l) (hI2 : Its w A2 n2 l2) :
    Calls Tryz.prog 45 #[.slice A n c, .slice A2 n2 c2] w (RPost w (decide (l = l2))) := by
  obtain ⟨D, hD⟩ : ∃ D, decide (l = l2) = D := ⟨_, rfl⟩
  rw [hD]
  have HDF := Sl.mk (show ¬ l = l2 → D = false from fun hne => by rw [← hD]; exact decide_eq_false hne)
  have HDT := Sl.mk (show l = l2 → D = true from fun he => by rw [← hD]; exact decide_eq_true he)
  have HN := Sl.mk hI.n_
  have HN2 := Sl.mk hI2.n_
  have HI := Sl.mk hI
  have HI2 := Sl.mk hI2
  have H0 := Sl.mk (Below.refl w.heap.size w)
  clear hD hI hI2
  by_cases hnn : n = n2
  · subst hnn
    go_enter Tryz.func45, Tryz.ntmps45
    go_wp2_with fail
    go_loopg [13] n (fun q v13 wr => ∃ i : Nat, q = n - i ∧ i ≤ n ∧ v13 = .int .i64 i ∧ Sl (Below w.heap.size w wr) ∧ Sl (l.take i = l2.take i))
    case atStart => exact ⟨0, rfl, Nat.zero_le _, rfl, H0, ⟨by simp⟩⟩
    case round =>
      obtain ⟨i, hq, hi, rfl, HB, HT⟩ := hrel
      by_cases hlt : i < n
      · obtain ⟨x, hx⟩ : ∃ x, l[i]? = some x := ⟨_, List.getElem?_eq_getElem (by rw [HN.out]; exact hlt)⟩
        obtain ⟨y, hy⟩ : ∃ y, l2[i]? = some y := ⟨_, List.getElem?_eq_getElem (by rw [HN2.out]; exact hlt)⟩
        obtain ⟨ab, ao, hAe, hbl, hld, _, _⟩ := (HI.out.be HB.out).lit hx
        obtain ⟨ab2, ao2, hAe2, hbl2, hld2, _, _⟩ := (HI2.out.be HB.out).lit hy
        subst hAe
        subst hAe2
        have HLp := Sl.mk (show ∀ w' : World, (∃ q, w' = wr.drewN q) → (loadVar 47 ⟨ab, ao + i * 2, none⟩).run Tryz.prog w' = .ok (.agg #[.string (bsS x.a), .string (bsS x.b)]) w' from fun w' hw' => by
          obtain ⟨q, rfl⟩ := hw'
          exact run_loadIt (wr.drewN q) (x := x) (ad := ⟨ab, ao + i * 2, none⟩) (fun j v hv => by rw [World.cell?_drewN]; exact hld j v hv))
        have HLq := Sl.mk (show ∀ w' : World, (∃ q, w' = wr.drewN q) → (loadVar 47 ⟨ab2, ao2 + i * 2, none⟩).run Tryz.prog w' = .ok (.agg #[.string (bsS y.a), .string (bsS y.b)]) w' from fun w' hw' => by
          obtain ⟨q, rfl⟩ := hw'
          exact run_loadIt (wr.drewN q) (x := y) (ad := ⟨ab2, ao2 + i * 2, none⟩) (fun j v hv => by rw [World.cell?_drewN]; exact hld2 j v hv))
        have hlz : (i : Int) < (n : Int) := by omega
        clear hld hld2 hbl hbl2
        by_cases hxy : x = y
        · have hE : ∀ W, (Op.equalIn 10000 47 (.agg #[.string (bsS x.a), .string (bsS x.b)]) (.agg #[.string (bsS y.a), .string (bsS y.b)])).run Tryz.prog W = .ok true W := fun W => (eqM_gen 47 x y W (by kernel_rfl) (by kernel_rfl) (by kernel_rfl)).trans (by rw [decide_eq_true hxy])
          have HT2 := Sl.mk (take_eq_next hx hy HT.out hxy)
          clear hx hy hxy
          go_wp2_with fail
          refine wp_region_quiet_tail 8 (by kernel_rfl) (by kernel_rfl) ?_
          simp only [List.take_succ_cons, List.take_zero, List.drop_succ_cons, List.drop_zero]
          repeat (any_goals (first | (first | refine wpQuiet_loadW (by rfl) 47 (.tmp 18) rfl ⟨ab, ao + i * 2, none⟩ _ rfl HLp.out ?_ | refine wpQuiet_loadW (by rfl) 47 (.tmp 22) rfl ⟨ab2, ao2 + i * 2, none⟩ _ rfl HLq.out ?_) | go_big_quiet_step (fail) | quiet_step (fail)))
          refine wpQuiet_nil ?_
          intro _ hw'
          obtain ⟨nq, hw''⟩ := hw'
          subst hw''
          go_wp2_with fail
          go_roundg (n - (i + 1))
          case measure => omega
          case rel => exact ⟨i + 1, rfl, by omega, by go_num, ⟨below_drN HB.out _⟩, HT2⟩
        · have hE : ∀ W, (Op.equalIn 10000 47 (.agg #[.string (bsS x.a), .string (bsS x.b)]) (.agg #[.string (bsS y.a), .string (bsS y.b)])).run Tryz.prog W = .ok false W := fun W => (eqM_gen 47 x y W (by kernel_rfl) (by kernel_rfl) (by kernel_rfl)).trans (by rw [decide_eq_false hxy])
          have HC := Sl.mk (HDF.out (fun e => hxy (by rw [e] at hx; exact Option.some.inj (hx.symm.trans hy))))
          clear hx hy hxy
          go_wp2_with fail
          refine wp_region_quiet_tail 8 (by kernel_rfl) (by kernel_rfl) ?_
          simp only [List.take_succ_cons, List.take_zero, List.drop_succ_cons, List.drop_zero]
          repeat (any_goals (first | (first | refine wpQuiet_loadW (by rfl) 47 (.tmp 18) rfl ⟨ab, ao + i * 2, none⟩ _ rfl HLp.out ?_ | refine wpQuiet_loadW (by rfl) 47 (.tmp 22) rfl ⟨ab2, ao2 + i * 2, none⟩ _ rfl HLq.out ?_) | go_big_quiet_step (fail) | quiet_step (fail)))
          refine wpQuiet_nil ?_
          intro _ hw'
          obtain ⟨nq, hw''⟩ := hw'
          subst hw''
          go_wp2_with fail
          go_ret
          exact ⟨by rw [HC.out]; rfl, below_drN HB.out _⟩
      · obtain rfl : i = n := by omega
        have HC := Sl.mk (HDT.out (by
          have h1 := HT.out
          rw [List.take_of_length_le (by rw [HN.out]; exact Nat.le_refl _), List.take_of_length_le (by rw [HN2.out]; exact Nat.le_refl _)] at h1
          exact h1))
        have hlz : ¬ (i : Int) < (i : Int) := by omega
        go_wp2_with fail
        go_ret
        exact ⟨by rw [HC.out]; rfl, HB.out⟩
  · have HC := Sl.mk (HDF.out (fun e => hnn (by rw [← HN.out, ← HN2.out, e])))
    have hne : ((n : Int) != (n2 : Int)) = true := by simp; omega
    clear hnn
    go_enter Tryz.func45, Tryz.ntmps45
    go_wp2_with fail
    go_ret
    exact ⟨by rw [HC.out]; rfl, H0.out⟩
end Go.Proofs.YtmgblbkmbiiofaaGreatDoor

namespace Go.Proofs.YtmgblbkmbiiofaaGreatDoor
open Go.RowKit
attribute [local go_sem ↓] Go.wp_at_zero Go.wp_at_succ
set_option linter.unusedVariables false
set_option linter.unusedSimpArgs false

theorem listsC_ptr {b i : Nat} (hi : i < 4) : (listsC b 0)[i * 4 + 1]? = some (.pointer (some ⟨b, 3 + i, none⟩)) := by
  match i, hi with
  | 0, _ => rfl
  | 1, _ => rfl
  | 2, _ => rfl
  | 3, _ => rfl
set_option maxRecDepth 100000 in
set_option maxHeartbeats 8000000 in
theorem msame_any (m m2 : Mf) (p s h k p2 s2 h2 k2 : Hd) (w : World) (H : MfR w m p s h k) (H2 : MfR w m2 p2 s2 h2 k2) :
    Calls Tryz.prog 16 #[mfV m p s h k, mfV m2 p2 s2 h2 k2] w (RPost w (decide (m = m2))) := by
  obtain ⟨D, hD⟩ : ∃ D, decide (m = m2) = D := ⟨_, rfl⟩
  rw [hD]
  have HDF := Sl.mk (show ¬ m = m2 → D = false from fun hne => by rw [← hD]; exact decide_eq_false hne)
  have HDT := Sl.mk (show m = m2 → D = true from fun he => by rw [← hD]; exact decide_eq_true he)
  have HH := Sl.mk H
  have HH2 := Sl.mk H2
  clear hD H H2
  obtain ⟨w1, hw1⟩ : ∃ w1, w.alloc (.cells (mfC m p s h k).toArray 24) = w1 := ⟨_, rfl⟩
  obtain ⟨w2, hw2⟩ : ∃ w2, w1.alloc (.cells (mfC m2 p2 s2 h2 k2).toArray 24) = w2 := ⟨_, rfl⟩
  have HB2 := Sl.mk (show Below w.heap.size w w2 by rw [← hw2, ← hw1]; exact below_al (below_al (Below.refl _ _) _) _)
  have HK2 := Sl.mk (show Blk w2 w.heap.size 24 (mfC m p s h k).toArray by rw [← hw2, ← hw1]; exact (Blk.new w _ _).alloc _)
  have HJ2 := Sl.mk (show Blk w2 w1.heap.size 24 (mfC m2 p2 s2 h2 k2).toArray by rw [← hw2]; exact Blk.new w1 _ _)
  obtain ⟨b1, hb1⟩ : ∃ b, w1.heap.size = b := ⟨_, rfl⟩
  rw [hb1] at HJ2
  have HL1 := Sl.mk (lists_blk w.heap.size 0 w2)
  have HL2 := Sl.mk (fun W => lists_blk b1 0 W)
  obtain ⟨pA, pn, pc⟩ := p
  obtain ⟨sA, sn, sc⟩ := s
  obtain ⟨hA, hn, hc⟩ := h
  obtain ⟨kA, kn, kc⟩ := k
  obtain ⟨pA2, pn2, pc2⟩ := p2
  obtain ⟨sA2, sn2, sc2⟩ := s2
  obtain ⟨hA2, hn2, hc2⟩ := h2
  obtain ⟨kA2, kn2, kc2⟩ := k2
  unfold mfV
  simp only [Hd.v, mfC] at hw1 hw2 ⊢
  go_enter Tryz.func16, Tryz.ntmps16
  go_upto_region 1 with fail
  clear hw1 hw2 hb1
  go_wp2_with fail
  refine HL1.out.mono ?_
  rintro e w3 ⟨rfl, hb3, hk3⟩
  have HB3 := Sl.mk (below_tr HB2.out hb3)
  have HK3 := Sl.mk (HK2.out.be hb3)
  have HJ3 := Sl.mk (HJ2.out.be hb3)
  have HG3 := Sl.mk hk3
  obtain ⟨g1, hg1⟩ : ∃ g, w2.heap.size = g := ⟨_, rfl⟩
  rw [hg1] at HG3 ⊢
  clear hb3 hk3 hg1
  go_wp2_with fail
  refine (HL2.out w3).mono ?_
  rintro e w4 ⟨rfl, hb4, hk4⟩
  have HB4 := Sl.mk (below_tr HB3.out hb4)
  have HK4 := Sl.mk (HK3.out.be hb4)
  have HJ4 := Sl.mk (HJ3.out.be hb4)
  have HG4 := Sl.mk (HG3.out.be hb4)
  have HM4 := Sl.mk hk4
  obtain ⟨g2, hg2⟩ : ∃ g, w3.heap.size = g := ⟨_, rfl⟩
  rw [hg2] at HM4 ⊢
  clear hb4 hk4 hg2
  have b0 := Sl.mk (Below.refl w4.heap.size w4)
  have HBW := Sl.mk (fun (W : World) (hW : Below w4.heap.size w4 W) => below_tr HB4.out hW)
  go_wp2_with fail
  go_loopg [12] 4 (fun q v12 wr => ∃ i : Nat, q = 4 - i ∧ i ≤ 4 ∧ v12 = .int .i64 i ∧ Sl (Below w4.heap.size w4 wr) ∧ Sl (∀ j, j < i → m.at j = m2.at j))
  case atStart => exact ⟨0, rfl, by omega, rfl, b0, ⟨fun j hj => absurd hj (Nat.not_lt_zero _)⟩⟩
  case round =>
    obtain ⟨i, hq, hi, rfl, HBr, HEQ⟩ := hrel
    by_cases hi4 : i < 4
    · have hilt : (i : Int) < 4 := by omega
      have k1 : wr.cell? ⟨g1, i * 4 + 1, none⟩ = some (.pointer (some ⟨w.heap.size, 3 + i, none⟩)) := ((HG4.out.be HBr.out).cell (i * 4 + 1)).trans (by rw [List.getElem?_toArray]; exact listsC_ptr hi4)
      have k2 : wr.cell? ⟨g2, i * 4 + 1, none⟩ = some (.pointer (some ⟨b1, 3 + i, none⟩)) := ((HM4.out.be HBr.out).cell (i * 4 + 1)).trans (by rw [List.getElem?_toArray]; exact listsC_ptr hi4)
      have k3 := hd4_cell (HK4.out.be HBr.out) hi4
      have k4 := hd4_cell (HJ4.out.be HBr.out) hi4
      have HI1 := Sl.mk (HH.out.its hi4)
      have HI2 := Sl.mk (HH2.out.its hi4)
      obtain ⟨z, hz⟩ : ∃ z, hd4 ⟨pA, pn, pc⟩ ⟨sA, sn, sc⟩ ⟨hA, hn, hc⟩ ⟨kA, kn, kc⟩ i = z := ⟨_, rfl⟩
      obtain ⟨z2, hz2⟩ : ∃ z, hd4 ⟨pA2, pn2, pc2⟩ ⟨sA2, sn2, sc2⟩ ⟨hA2, hn2, hc2⟩ ⟨kA2, kn2, kc2⟩ i = z := ⟨_, rfl⟩
      rw [hz] at k3 HI1
      rw [hz2] at k4 HI2
      clear hz hz2
      obtain ⟨A, n, c⟩ := z
      obtain ⟨A2, n2, c2⟩ := z2
      simp only [Hd.v] at k3 k4 HI1 HI2
      have HE := Sl.mk (fun (W : World) (hW : Below w.heap.size w W) => eqsM_any A n c (m.at i) A2 n2 c2 (m2.at i) W HI1.out.2 HI2.out.2 (HI1.out.1.be hW) (HI2.out.1.be hW))
      obtain ⟨db, hdb⟩ : ∃ db, decide (m.at i = m2.at i) = db := ⟨_, rfl⟩
      rw [hdb] at HE
      unfold RPost at HE
      have HDB := Sl.mk hdb
      clear hdb
      go_wp2_with fail
      refine wp_region_quiet_tail 14 (by kernel_rfl) (by kernel_rfl) ?_
      simp only [List.take_succ_cons, List.take_zero, List.drop_succ_cons, List.drop_zero]
      repeat (any_goals (first | go_big_quiet_step (fail) | quiet_step (fail)))
      refine wpQuiet_nil ?_
      intro _ hw'
      obtain ⟨nq, hw''⟩ := hw'
      subst hw''
      go_wp2_with fail
      have hbn := below_drN HBr.out nq
      refine (HE.out _ (HBW.out _ hbn)).mono ?_
      rintro e w5 ⟨rfl, hb5⟩
      have HB5 := Sl.mk (hbn.trans (hb5.mono hbn.size))
      clear hbn hb5 k1 k2 k3 k4
      cases db
      · have HC := Sl.mk (HDF.out (fun e => by have h := HDB.out; rw [e] at h; simp at h))
        go_wp2_with fail
        go_ret
        exact ⟨by rw [HC.out]; rfl, HBW.out _ HB5.out⟩
      · have HE2 := Sl.mk (show ∀ j, j < i + 1 → m.at j = m2.at j from fun j hj => by
          rcases Nat.lt_succ_iff_lt_or_eq.1 hj with h | rfl
          · exact HEQ.out j h
          · exact of_decide_eq_true HDB.out)
        go_wp2_with fail
        go_roundg (4 - (i + 1))
        case measure => omega
        case rel => exact ⟨i + 1, rfl, by omega, by go_num, HB5, HE2⟩
    · obtain rfl : i = 4 := by omega
      have k0 : wr.cell? ⟨w.heap.size, 0, none⟩ = some (.string (bsS m.pkg)) := (HK4.out.be HBr.out).cell 0
      have k1 : wr.cell? ⟨w.heap.size, 1, none⟩ = some (.string (bsS m.pub)) := (HK4.out.be HBr.out).cell 1
      have k2 : wr.cell? ⟨w.heap.size, 2, none⟩ = some (.int .i64 m.rev) := (HK4.out.be HBr.out).cell 2
      have j0 : wr.cell? ⟨b1, 0, none⟩ = some (.string (bsS m2.pkg)) := (HJ4.out.be HBr.out).cell 0
      have j1 : wr.cell? ⟨b1, 1, none⟩ = some (.string (bsS m2.pub)) := (HJ4.out.be HBr.out).cell 1
      have j2 : wr.cell? ⟨b1, 2, none⟩ = some (.int .i64 m2.rev) := (HJ4.out.be HBr.out).cell 2
      have q0 := bs_beq m.pkg m2.pkg
      have q1 := bs_beq m.pub m2.pub
      by_cases hp : m.pkg = m2.pkg
      · rw [decide_eq_true hp] at q0
        by_cases hu : m.pub = m2.pub
        · rw [decide_eq_true hu] at q1
          by_cases hr : m.rev = m2.rev
          · have HC := Sl.mk (HDT.out (mf_ext hp hu hr HEQ.out))
            have hrb : (m.rev == m2.rev) = true := by rw [hr]; simp
            clear hp hu hr
            go_wp2_with fail
            go_ret
            exact ⟨by rw [HC.out]; rfl, HBW.out _ HBr.out⟩
          · have HC := Sl.mk (HDF.out (fun e => hr (by rw [e])))
            have hrb : (m.rev == m2.rev) = false := beq_eq_false_iff_ne.2 hr
            clear hp hu hr
            go_wp2_with fail
            go_ret
            exact ⟨by rw [HC.out]; rfl, HBW.out _ HBr.out⟩
        · have HC := Sl.mk (HDF.out (fun e => hu (by rw [e])))
          rw [decide_eq_false hu] at q1
          clear hp hu
          go_wp2_with fail
          go_ret
          exact ⟨by rw [HC.out]; rfl, HBW.out _ HBr.out⟩
      · have HC := Sl.mk (HDF.out (fun e => hp (by rw [e])))
        rw [decide_eq_false hp] at q0
        clear hp
        go_wp2_with fail
        go_ret
        exact ⟨by rw [HC.out]; rfl, HBW.out _ HBr.out⟩
end Go.Proofs.YtmgblbkmbiiofaaGreatDoor
