/-
  The contract of the reader's list, from those of its values.
-/
import Derived.Test.YtbnmbncjefnpiaaDoorCdM
import Derived.Test.YtbnmbncjefnpiaaDoorCdJ
namespace Go.Proofs.YtbnmbncjefnpiaaDoor
open Go.RowKit
attribute [local go_sem ↓] Go.wp_at_zero Go.wp_at_succ

mutual
/-- All numbers fit. -/
def numV : Vc → Prop
  | .mk _ n _ l => (-9223372036854775808 ≤ n ∧ n ≤ 9223372036854775807) ∧ numL l
def numL : List Vc → Prop
  | [] => True
  | x :: r => numV x ∧ numL r
end
theorem numL_mem : ∀ {l : List Vc}, numL l → ∀ x ∈ l, numV x
  | [], _, x, hx => nomatch hx
  | y :: r, h, x, hx => by
    rcases List.mem_cons.1 hx with rfl | hx
    · exact h.1
    · exact numL_mem h.2 x hx
theorem numL_of : ∀ {l : List Vc}, (∀ x ∈ l, numV x) → numL l
  | [], _ => trivial
  | y :: _, h => ⟨h y (List.mem_cons_self ..), numL_of fun x hx => h x (List.mem_cons_of_mem _ hx)⟩
theorem VxOk.num {w : World} {S : Nat → Prop} (x : Vx) : VxOk w S x → numV x.v := by
  induction x using Vx.ind_ with
  | h k n pb b cb pl l cl ih =>
    intro h
    rw [VxOk.iff] at h
    rw [Vx.v, numV]
    refine ⟨⟨h.2.2.1.n1, h.2.2.1.n2⟩, numL_of fun y hy => ?_⟩
    rw [vsOf_map] at hy
    obtain ⟨z, hz, rfl⟩ := List.mem_map.1 hy
    exact ih z hz (h.2.2.2 z hz)
theorem enc_pos {v : Vc} (h : allV v = true) : 1 ≤ (encV v).length := by
  obtain ⟨x, t, e, _⟩ := enc_head h
  rw [e]; simp
theorem encL_len : ∀ {l : List Vc}, allL l = true → l.length ≤ (encL l).length
  | [], _ => Nat.zero_le _
  | x :: r, h => by
    simp only [allL, Bool.and_eq_true] at h
    have h1 := enc_pos h.1
    have h2 := encL_len h.2
    rw [encL, List.length_append, List.length_cons]; omega
theorem enc_ne {v : Vc} (h : allV v = true) (r : List Nat) {b : List Nat} {j : Nat} (hd : b.drop j = encV v ++ r) : j < b.length ∧ b.getD j 0 ≠ 41 := by
  obtain ⟨x, t, e, hx⟩ := enc_head h
  have hl : j < b.length := by
    rcases Nat.lt_or_ge j b.length with h1 | h1
    · exact h1
    · rw [List.drop_of_length_le h1, e] at hd
      cases hd
  refine ⟨hl, fun h41 => ?_⟩
  rw [List.drop_eq_getElem_cons hl, e] at hd
  injection hd with hd _
  have : b.getD j 0 = b[j] := by simp [hl]
  rw [this, hd] at h41
  omega
theorem get_head {b : List Nat} {j c : Nat} {r : List Nat} (hd : b.drop j = c :: r) : j < b.length ∧ b.getD j 0 = c ∧ b.drop (j + 1) = r := by
  have hl : j < b.length := by
    rcases Nat.lt_or_ge j b.length with h1 | h1
    · exact h1
    · rw [List.drop_of_length_le h1] at hd
      cases hd
  rw [List.drop_eq_getElem_cons hl] at hd
  injection hd with hd hr
  exact ⟨hl, by rw [← hd]; simp [hl], hr⟩
theorem only_new {a b c : World} {r : Option Nat} {g : Option Nat} (h : a.grownBy b g) (k : b.grownBy c r) (hr : ∀ x, r = some x → a.heap.size ≤ x) : a.grownBy c g :=
  ⟨k.os.trans h.os, k.tape.trans h.tape, k.output.trans h.output, Nat.le_trans h.size k.size, fun x hx hg => (k.block x (Nat.lt_of_lt_of_le hx h.size) (fun e => by have := hr x e.symm; omega)).trans (h.block x hx hg)⟩
theorem Rst.gr {w w' : World} {R : Nat} {A : Option Addr} {n c : Nat} {b : List Nat} {i : Nat} {e : Int} {r : Option Nat} (h : Rst w R A n c b i e) (hg : w.grownBy w' r) (hr : ∀ x, r = some x → R < x) : Rst w' R A n c b i e :=
  ⟨h.blk.grown hg (fun e => by have := hr R e.symm; omega), h.row.keep fun p hp => World.cell?_of_block (hg.block p.block (Nat.lt_trans hp h.blk.lt) (fun e => by have := hr _ e.symm; omega)), h.len, h.le, h.cap, h.nm, h.by_⟩

/-- What the reader's value answers at a value's bytes. -/
def ValPost (w : World) (R : Nat) (A : Option Addr) (n c : Nat) (b : List Nat) (j : Nat) (v : Vc) (e : Ending) (w' : World) : Prop :=
  ∃ x : Vx, e = .returned (.agg (vxC x).toArray) ∧ x.v = v ∧ VxOk w' (fun g => w.heap.size ≤ g ∧ g < w'.heap.size) x ∧ Rst w' R A n c b j 0 ∧ w.grownBy w' (some R)
def ValP (v : Vc) : Prop := ∀ (d : Nat) (w : World) (R : Nat) (A : Option Addr) (n c : Nat) (b : List Nat) (i : Nat) (rest : List Nat), allV v = true → numV v → d + depV v ≤ 9 → Rst w R A n c b i 0 → b.drop i = encV v ++ rest →
  Calls Tryd.prog 23 #[.pointer (some ⟨R, 0, none⟩), .int .i64 d] w (ValPost w R A n c b (i + (encV v).length) v)
def ListPost (w : World) (R : Nat) (A : Option Addr) (n c : Nat) (b : List Nat) (j : Nat) (l : List Vc) (e : Ending) (w' : World) : Prop :=
  ∃ (pl : Option Addr) (q cl : Nat) (l' : List Vx), e = .returned (.slice pl q cl) ∧ l'.length = q ∧ l'.map Vx.v = l ∧ w'.ownsRow w.heap.size 26 4 (.slice pl q cl) q (vxsC l') ∧ (∀ x ∈ l', VxOk w' (fun g => w.heap.size ≤ g ∧ g < w'.heap.size) x) ∧ Rst w' R A n c b j 0 ∧ w.grownBy w' (some R)
def lenS : Value → Nat
  | .slice _ n _ => n
  | _ => 0

set_option maxRecDepth 100000 in
set_option maxHeartbeats 2000000 in
theorem list_of (l : List Vc) (hall : allL l = true) (hnum : numL l) (ih : ∀ x ∈ l, ValP x) (d : Nat) (hd : d ≤ 8) (hdep : d + 1 + depL l ≤ 9) (w : World) (R : Nat) (A : Option Addr) (n c : Nat) (b : List Nat) (i : Nat) (rest : List Nat)
    (h : Rst w R A n c b i 0) (hb : b.drop i = 40 :: (encL l ++ 41 :: rest)) :
    Calls Tryd.prog 36 #[.pointer (some ⟨R, 0, none⟩), .int .i64 d] w (ListPost w R A n c b (i + (encL l).length + 2) l) := by
  obtain ⟨hin, hg40, hb1⟩ := get_head hb
  have hlen := h.len
  rw [hlen] at hin
  have hnm := h.nm
  have HT0 := Sl.mk (take_any 40 R A n c b i w h hin hg40)
  have HT1 := Sl.mk (fun W j hW h1 h2 => take_any 41 R A n c b j W hW h1 h2)
  have HI := Sl.mk (fun W j hW => is_any 41 R A n c b j 0 W hW)
  obtain ⟨N, hN⟩ : ∃ N, l.length = N := ⟨_, rfl⟩
  have HN := Sl.mk hN
  have HB1 := Sl.mk hb1
  have hNm : N ≤ 1000000 := by
    have h1 := encL_len hall
    have h2 := congrArg List.length hb1
    rw [List.length_drop, List.length_append] at h2
    omega
  have HLEN := Sl.mk hlen
  obtain ⟨D, hD⟩ : ∃ D, d + 1 = D := ⟨_, rfl⟩
  have HIH := Sl.mk (fun (x : Vc) (hx : x ∈ l) (W : World) (j : Nat) (r : List Nat) (hR : Rst W R A n c b j 0) (hr : b.drop j = encV x ++ r) =>
    ih x hx D W R A n c b j r (allL_mem hall x hx) (numL_mem hnum x hx) (by have := depL_mem x hx; omega) hR hr)
  have hd1 : (d : Int) + 1 = (D : Int) := by omega
  have hd8 : ¬ (8 : Int) < (d : Int) := by omega
  have HALL := Sl.mk hall
  have hRw := h.blk.lt
  clear hb hb1 hg40 h hin hlen hnum ih hdep hall hN hD
  obtain ⟨i0, hi0, hz0, hz1, hz2⟩ := info_parts vxInfo
  have HINF := Sl.mk (And.intro hi0 (And.intro hz0 (And.intro hz1 hz2)))
  clear hi0 hz0 hz1 hz2
  go_enter Tryd.func36, Tryd.ntmps36
  go_wp2_with fail
  refine HT0.out.mono ?_
  rintro e w1 ⟨rfl, hR1, hG1⟩
  clear HT0
  go_wp2_with fail
  go_loopw [5] (fun v5 wr => ∃ (k j c' : Nat) (A' : Option Addr) (l' : List Vx), k ≤ N ∧ v5 = .slice A' k c' ∧ Rst wr R A n c b j 0 ∧ w.grownBy wr (some R) ∧
      Sl (wr.ownsRow w.heap.size 26 4 (.slice A' k c') k (vxsC l') ∧ l'.length = k ∧ l'.map Vx.v = l.take k ∧ j = i + 1 + (encL (l.take k)).length ∧ b.drop j = encL (l.drop k) ++ 41 :: rest ∧
        ∀ x ∈ l', VxOk wr (fun g => w.heap.size ≤ g ∧ g < wr.heap.size ∧ some g ≠ Value.ownBlock (.slice A' k c')) x)) (fun v5 _ => N - lenS v5)
  case atStart => exact ⟨0, i + 1, 0, none, [], Nat.zero_le _, rfl, hR1, hG1, ⟨World.ownsRow_nil _ _ _ _, rfl, rfl, rfl, HB1.out, fun x hx => nomatch hx⟩⟩
  case round =>
    obtain ⟨k, j, c', A', l', hk, rfl, hR, hG, HS⟩ := hrel
    have c2 := hR.blk.cell 2
    by_cases hkN : k < N
    · obtain ⟨x, hx⟩ : ∃ x, l[k]? = some x := ⟨_, List.getElem?_eq_getElem (by rw [HN.out]; exact hkN)⟩
      have hxm : x ∈ l := List.mem_of_getElem? hx
      have hbj : b.drop j = encV x ++ (encL (l.drop (k + 1)) ++ 41 :: rest) := by rw [HS.out.2.2.2.2.1, drop_one hx, encL, List.append_assoc]
      obtain ⟨hjb, h41⟩ := enc_ne (allL_mem HALL.out x hxm) _ hbj
      rw [HLEN.out] at hjb
      have HI1 := Sl.mk (HI.out wr j hR)
      rw [decide_eq_true hjb, decide_eq_false h41] at HI1
      have HV := Sl.mk (fun W hW => HIH.out x hxm W j _ hW hbj)
      have HX := Sl.mk (And.intro hx hbj)
      clear hx hbj hjb h41 hxm
      go_wp2_with fail
      refine HI1.out.mono ?_
      rintro e w2 ⟨rfl, q, hw2⟩
      have hR2 : Rst w2 R A n c b j 0 := by rw [hw2]; exact hR.dr q
      have hBw : Below wr.heap.size wr w2 := by rw [hw2]; exact below_drN (Below.refl _ _) q
      have hG2 := only_below hG hBw
      have HBW := Sl.mk hBw
      clear hw2 hR hG hBw HI1 c2
      go_wp2_with fail
      refine (HV.out w2 hR2).mono ?_
      rintro e w3 ⟨y, rfl, hyv, hyk, hR3, hG3⟩
      have HYV := Sl.mk hyv
      have HYK := Sl.mk hyk
      have hG4 := only_trans hG2 hG3
      have hs23 := hG3.size
      have hs2 := HBW.out.size
      have hwr := hG2.size
      have HG3 := Sl.mk hG3
      obtain ⟨k7, n7, pb7, b7, cb7, pl7, l7, cl7⟩ := y
      rw [vxC_mk]
      obtain ⟨hz0, hz1, hz2, hz3⟩ := HINF.out
      have hBa := below_al (Below.refl w3.heap.size w3) (.cells #[.int .i64 k7, .int .i64 n7, .slice pb7 b7.length cb7, .slice pl7 l7.length cl7] 26)
      have hro2 := own_below ((own_below HS.out.1 HBW.out).kept hG3 (ownNe HS.out.1 (by omega))) hBa
      have hRx : Reads (w3.alloc (.cells #[.int .i64 k7, .int .i64 n7, .slice pb7 b7.length cb7, .slice pl7 l7.length cl7] 26)) (w3.heap.size + 1) 4 (some ⟨w3.heap.size, 0, none⟩) 1 (vxC (.mk k7 n7 pb7 b7 cb7 pl7 l7 cl7)) := ⟨rfl, fun _ => ⟨_, rfl, Nat.lt_succ_self _, fun j u hu => by
          have e2 : (⟨w3.heap.size, 0, none⟩ : Addr).add j = ⟨w3.heap.size, j, none⟩ := by unfold Addr.add; split <;> simp_all
          rw [e2, (Blk.new _ _ _).cell j]; simpa [vxC_mk] using hu⟩⟩
      clear hyv hyk hG2 hR2 hG3
      go_wp2_with (at_builtin; refine wpList_append_any _ rfl (.tmp 24) (.tmp 29) 24 rfl w.heap.size 26 i0 (.agg #[.int .i64 0, .int .i64 0, .slice none 0 0, .slice none 0 0]) 4 64 Tryd.underlying24 hz0 hz1 hz2 hz3 rfl (by decide) _ k (vxsC l') rfl hro2 (w3.heap.size + 1) _ 1 1 (vxC (.mk k7 n7 pb7 b7 cb7 pl7 l7 cl7)) rfl hRx (vxC_one _) (by unfold maxLen; omega) (by omega) (by simp; omega) ?_)
      intro v4 w4 ho4 hg4 hv4
      obtain ⟨A4, c4, rfl⟩ := ownForm ho4
      have hwe : (w3.alloc (.cells #[.int .i64 k7, .int .i64 n7, .slice pb7 b7.length cb7, .slice pl7 l7.length cl7] 26)).heap.size = w3.heap.size + 1 := by simp
      have hown0 : ∀ g, Value.ownBlock (.slice A' k c') = some g → w.heap.size ≤ g := fun g e => ownGe hro2 e
      have hR4 := (hR3.be hBa).gr hg4 (fun g e => by have := hown0 g e; omega)
      have hG5 := only_new (only_below hG4 hBa) hg4 hown0
      have hw4 := hg4.size
      have HF := Sl.mk (show w4.ownsRow w.heap.size 26 4 (.slice A4 (k + 1) c4) (k + 1) (vxsC (l' ++ [Vx.mk k7 n7 pb7 b7 cb7 pl7 l7 cl7])) ∧ (l' ++ [Vx.mk k7 n7 pb7 b7 cb7 pl7 l7 cl7]).length = k + 1 ∧ (l' ++ [Vx.mk k7 n7 pb7 b7 cb7 pl7 l7 cl7]).map Vx.v = l.take (k + 1) ∧
          j + (encV x).length = i + 1 + (encL (l.take (k + 1))).length ∧ b.drop (j + (encV x).length) = encL (l.drop (k + 1)) ++ 41 :: rest ∧
            ∀ x ∈ l' ++ [Vx.mk k7 n7 pb7 b7 cb7 pl7 l7 cl7], VxOk w4 (fun g => w.heap.size ≤ g ∧ g < w4.heap.size ∧ some g ≠ Value.ownBlock (.slice A4 (k + 1) c4)) x by
        obtain ⟨hro, hll, hmap, hj, hbd, hkid⟩ := HS.out
        refine ⟨by rw [vxsC_app, vxsC_one']; exact ho4, by rw [List.length_append, hll]; rfl, ?_, ?_, ?_, fun y hy => ?_⟩
        · rw [List.map_append, hmap, take_one HX.out.1]
          simp only [List.map_cons, List.map_nil, HYV.out]
        · rw [take_one HX.out.1, encL_app, List.length_append, hj]
          simp only [encL, List.append_nil]
          omega
        · rw [← List.drop_drop, HX.out.2, List.drop_left]
        · rcases List.mem_append.1 hy with hy | hy
          · have h1 := VxOk.keep (w' := w2) (fun p hp => HBW.out.cell hp.2.1) y (hkid y hy)
            have h2 := h1.only HG3.out (fun g hg => ⟨by omega, fun e => by injection e; omega⟩)
            have h3 := VxOk.keep (w' := w3.alloc _) (fun p hp => hBa.cell (by omega)) y h2
            have h4 := h3.only hg4 (fun g hg => ⟨by omega, hg.2.2⟩)
            refine VxOk.mono (fun g hg => ⟨hg.1, by omega, ?_⟩) y h4
            rcases hv4 with e | e
            · rw [e]; exact hg.2.2
            · rw [e]; intro e'; injection e'; omega
          · obtain rfl : y = _ := by simpa using hy
            have h2 := VxOk.keep (w' := w3.alloc _) (fun p hp => hBa.cell hp.2) _ HYK.out
            have h3 := h2.only hg4 (fun g hg => ⟨by omega, fun e => by
              have := (hro.lt g e.symm).2
              omega⟩)
            refine VxOk.mono (fun g hg => ⟨by omega, by omega, ?_⟩) _ h3
            rcases hv4 with e | e
            · rw [e]; intro e'; have := (hro.lt g e'.symm).2; omega
            · rw [e]; intro e'; injection e'; omega)
      clear hz0 hz1 hz2 hz3 hRx hro2 hg4 hv4 ho4 hBa hG4 hR3 hown0 HIH HV HS
      go_wp2_with fail
      go_roundw
      case rel => exact ⟨k + 1, j + (encV x).length, c4, A4, _, by omega, rfl, hR4, hG5, HF⟩
      case measure => simp [lenS]; omega
    · obtain rfl : k = N := by omega
      have hbj : b.drop j = 41 :: rest := by rw [HS.out.2.2.2.2.1, List.drop_of_length_le (by rw [HN.out]; omega)]; rfl
      obtain ⟨hjb, h41, hbn⟩ := get_head hbj
      rw [HLEN.out] at hjb
      have HI1 := Sl.mk (HI.out wr j hR)
      rw [decide_eq_true hjb, decide_eq_true h41] at HI1
      have HT := Sl.mk (fun W hW => HT1.out W j hW hjb h41)
      clear hbj hjb h41 hbn
      go_wp2_with fail
      refine HI1.out.mono ?_
      rintro e w2 ⟨rfl, q, hw2⟩
      have hR2 : Rst w2 R A n c b j 0 := by rw [hw2]; exact hR.dr q
      have hBw : Below wr.heap.size wr w2 := by rw [hw2]; exact below_drN (Below.refl _ _) q
      have hG2 := only_below hG hBw
      have HBW := Sl.mk hBw
      clear hw2 hR hG hBw HI1 c2
      go_wp2_with fail
      refine (HT.out w2 hR2).mono ?_
      rintro e w3 ⟨rfl, hR3, hG3⟩
      have hG4 := only_trans hG2 hG3
      have HG3 := Sl.mk hG3
      clear hR2 hG2 hG3
      go_wp2_with fail
      go_ret
      obtain ⟨hro, hll, hmap, hj, hbd, hkid⟩ := HS.out
      have hwr := HBW.out.size
      have hw3 := HG3.out.size
      refine ⟨A', k, c', l', rfl, hll, ?_, (own_below hro HBW.out).kept HG3.out (ownNe hro (by omega)), fun y hy => ?_, ?_, hG4⟩
      · rw [hmap, List.take_of_length_le (by rw [HN.out]; omega)]
      · have h1 := VxOk.keep (w' := w2) (fun p hp => HBW.out.cell hp.2.1) y (hkid y hy)
        have h2 := h1.only HG3.out (fun g hg => ⟨by omega, fun e => by injection e; omega⟩)
        exact VxOk.mono (fun g hg => ⟨hg.1, by omega⟩) y h2
      · rw [List.take_of_length_le (by rw [HN.out]; omega)] at hj
        rw [show i + (encL l).length + 2 = j + 1 by omega]
        exact hR3

end Go.Proofs.YtbnmbncjefnpiaaDoor
