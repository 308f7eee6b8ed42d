/-
  The contracts of Find's predicate, slices.IndexFunc at entries, Find.
-/
import Derived.Test.YticcphppnmoogaaDoorArcB
namespace Go.Proofs.YticcphppnmoogaaDoor
open Go.RowKit
attribute [local go_sem ↓] Go.wp_at_zero Go.wp_at_succ

theorem below_of_drewN {w w' : World} (h : ∃ k, w' = w.drewN k) : Below w.heap.size w w' := by
  obtain ⟨k, rfl⟩ := h
  exact below_drN (Below.refl _ _) k

theorem pred_any (x : Ex) (A2 : Option Addr) (m d : Nat) (q : List ByteArray) (g : Nat) (w : World) (hx : ExOk w w.heap.size x) (hm : m ≤ 1000) (hg : g < w.heap.size) (hc : w.cell? ⟨g, 0, none⟩ = some (.slice A2 m d)) (hq : Reads w w.heap.size 1 A2 m (strV q)) :
    Calls Tryd.prog 23 #[.agg (exC x).toArray, .pointer (some ⟨g, 0, none⟩)] w fun e w' => e = .returned (.bool (eqP x.e.path q)) ∧ Below w.heap.size w w' := by
  obtain ⟨⟨p, k, mo, da⟩, pa, pc, dd, dc⟩ := x
  have hp : Reads w w.heap.size 1 pa p.length (strV p) := hx.path
  have hpl : p.length ≤ 100 := hx.plen
  clear hx
  show Calls Tryd.prog 23 #[.agg #[.slice pa p.length pc, .int .i64 k, .int .i64 mo, .slice dd da.length dc], .pointer (some ⟨g, 0, none⟩)] w _
  obtain ⟨pl, hple⟩ : ∃ pl, p.length = pl := ⟨_, rfl⟩
  obtain ⟨dl, hdle⟩ : ∃ dl, da.length = dl := ⟨_, rfl⟩
  rw [hple] at hp hpl ⊢
  rw [hdle]
  clear hple hdle
  have hE := below_al (Below.refl w.heap.size w) (.cells #[.slice pa pl pc, .int .i64 k, .int .i64 mo, .slice dd dl dc] 34)
  have HS := Sl.mk (same_any pa A2 pl pc m d p q (w.alloc (.cells #[.slice pa pl pc, .int .i64 k, .int .i64 mo, .slice dd dl dc] 34)) (by omega) (by omega) ((hp.below hE).more hE.size) ((hq.below hE).more hE.size))
  have c1 := (World.cell?_alloc_lt w (.cells #[.slice pa pl pc, .int .i64 k, .int .i64 mo, .slice dd dl dc] 34) ⟨g, 0, none⟩ hg).trans hc
  clear hp hq hc
  go_enter Tryd.func23, Tryd.ntmps23
  go_wp2_with fail
  refine HS.out.mono ?_
  rintro e w' ⟨rfl, kk, rfl⟩
  go_wp2_with fail
  go_ret
  exact ⟨rfl, below_drN hE kk⟩

def idxE (q : List ByteArray) : List Ex → Nat
  | [] => 0
  | x :: l => if eqP x.e.path q = true then 0 else idxE q l + 1
def placE (q : List ByteArray) (l : List Ex) : Int := if idxE q l < l.length then idxE q l else -1
theorem idxE_le (q : List ByteArray) : ∀ l : List Ex, idxE q l ≤ l.length
  | [] => Nat.le_refl _
  | x :: l => by unfold idxE; split <;> simp [idxE_le q l]
theorem idxE_lt {q : List ByteArray} : ∀ {l : List Ex} {x : Ex}, x ∈ l → eqP x.e.path q = true → idxE q l < l.length
  | y :: l, x, hx, he => by
    unfold idxE
    rcases List.mem_cons.1 hx with rfl | hx
    · rw [if_pos he]; simp
    · split
      · simp
      · have := idxE_lt hx he
        simp; omega

section
variable {P : Program} {ops : Array Oper} {rest : List Oper} {op : Oper} {a : Act} {w : World} {Q : Exit → Act → World → Prop}
/-- A struct is loaded from any address. -/
theorem ld_ex {ad : Addr} {x : Ex} (hc : ∀ j v, (exC x)[j]? = some v → w.cell? (ad.add j) = some v) (hgd : op.guard = none) (y : Operand) (ho : op.op = .load 34 y) (hy : a.eval y = .pointer (some ad))
    (h : wpList Tryd.prog ops Q rest (a.put op.dst (.agg (exC x).toArray)) w) : wpList Tryd.prog ops Q (op :: rest) a w :=
  wpList_load_at hgd 34 y ho _ hy (exC x) _ hc Tryd.underlying34 rfl (by rw [enSize, exC_len]) h
end

set_option maxHeartbeats 1000000 in
theorem indexe_any (A2 : Option Addr) (m d : Nat) (q : List ByteArray) (g : Nat) (A : Option Addr) (n c : Nat) (l : List Ex) (w : World) (hn : n ≤ 1000000) (hE : Exs w A n l) (hm : m ≤ 1000) (hg : g < w.heap.size) (hc : w.cell? ⟨g, 0, none⟩ = some (.slice A2 m d)) (hq : Reads w w.heap.size 1 A2 m (strV q)) :
    Calls Tryd.prog 22 #[.slice A n c, .func (.func 23) #[] #[.pointer (some ⟨g, 0, none⟩)]] w fun e w' => e = .returned (.int .i64 (placE q l)) ∧ Below w.heap.size w w' := by
  have HL := Sl.mk hE.n_
  have HE := Sl.mk hE
  have HQ := Sl.mk hq
  have HC := Sl.mk hc
  clear hE hq hc
  go_enter Tryd.func22, Tryd.ntmps22
  go_wp2_with fail
  go_loopw [5, 8] (fun _ s8 wr => ∃ i : Nat, i ≤ n ∧ s8 = .int .i64 i ∧ Sl (idxE q l = i + idxE q (l.drop i)) ∧ Below w.heap.size w wr) (fun _ s8 _ => n - (intOf s8).toNat)
  case atStart => exact ⟨0, Nat.zero_le _, rfl, ⟨by simp⟩, Below.refl _ _⟩
  case round =>
    obtain ⟨i, hi, rfl, HI, hB⟩ := hrel
    by_cases hil : i < n
    · obtain ⟨x, hx⟩ : ∃ x, l[i]? = some x := ⟨_, List.getElem?_eq_getElem (by rw [HL.out]; exact hil)⟩
      obtain ⟨ad, rfl, hbl, hld, hok⟩ := (HE.out.be hB).at_ hx
      have hd0 : wr.cell? (ad.add (i * 4)) = some (.slice x.pa x.e.path.length x.pc) := by have := hld 0 _ rfl; simpa [Addr.add] using this
      have HD := Sl.mk (drop_cons1 hx)
      have HP := Sl.mk (pred_any x A2 m d q g wr hok hm (Nat.lt_of_lt_of_le hg hB.size) ((hB.cell (p := ⟨g, 0, none⟩) hg).trans HC.out) ((HQ.out.below hB).more hB.size))
      clear hx hok
      go_wp2_with (refine ld_ex hld rfl (.tmp 14) rfl rfl ?_)
      refine HP.out.mono ?_
      rintro e w2 ⟨rfl, hB2⟩
      have hE2 := below_tr hB hB2
      clear hB hld hB2 hd0
      cases eR : eqP x.e.path q
      · have HN := Sl.mk (show idxE q l = (i + 1) + idxE q (l.drop (i + 1)) by rw [HI.out, HD.out, idxE, if_neg (by rw [eR]; simp)]; omega)
        go_wp2_with fail
        go_roundw
        case rel => exact ⟨i + 1, by omega, by go_num, HN, hE2⟩
        case measure => simp [intOf]; omega
      · have HN := Sl.mk (show placE q l = i by
          have : idxE q l = i := by rw [HI.out, HD.out, idxE, if_pos eR]; omega
          unfold placE; rw [this, if_pos (by rw [HL.out]; exact hil)])
        go_wp2_with fail
        go_ret
        exact ⟨by rw [HN.out]; rfl, hE2⟩
    · obtain rfl : i = n := by omega
      have HN := Sl.mk (show placE q l = -1 by
        have h : l.drop i = [] := List.drop_of_length_le (by rw [HL.out]; omega)
        have h0 := HI.out
        rw [h] at h0
        unfold placE; rw [if_neg (by rw [HL.out, h0]; simp [idxE])])
      go_wp2_with fail
      go_ret
      exact ⟨by rw [HN.out]; rfl, hB⟩

def FindPost (w : World) (q : List ByteArray) (l : List Ex) (e : Ending) (w' : World) : Prop :=
  Below w.heap.size w w' ∧ ((∃ x x' : Ex, l[idxE q l]? = some x ∧ x'.e = x.e ∧ ExOwn w' w.heap.size x' ∧ e = .returned (.tuple #[.agg (exC x').toArray, .int .i64 0])) ∨
    (idxE q l = l.length ∧ e = .returned (.tuple #[.agg #[.slice none 0 0, .int .i64 0, .int .i64 0, .slice none 0 0], .int .i64 7])))

set_option maxRecDepth 100000 in
set_option maxHeartbeats 1000000 in
theorem find_any (A2 : Option Addr) (m d : Nat) (q : List ByteArray) (A : Option Addr) (n c : Nat) (l : List Ex) (w : World) (hn : n ≤ 1000000) (hE : Exs w A n l) (hm : m ≤ 1000) (hq : Reads w w.heap.size 1 A2 m (strV q)) :
    Calls Tryd.prog 10 #[.slice A n c, .slice A2 m d] w (FindPost w q l) := by
  obtain ⟨w0, hw0⟩ : ∃ w0, (w.alloc (.cells #[.slice A2 m d] 31)).alloc (.cells #[.slice none 0 0, .int .i64 0, .int .i64 0, .slice none 0 0] 34) = w0 := ⟨_, rfl⟩
  have hB0 : Below w.heap.size w w0 := by rw [← hw0]; exact below_al (below_al (Below.refl _ _) _) _
  have hG0 : Blk w0 w.heap.size 31 #[.slice A2 m d] := by rw [← hw0]; exact (Blk.new _ _ _).alloc _
  have hZ0 : Blk w0 (w.heap.size + 1) 34 #[.slice none 0 0, .int .i64 0, .int .i64 0, .slice none 0 0] := by rw [← hw0]; exact Blk.new' (by simp)
  have hs0 : w0.heap.size = w.heap.size + 2 := by rw [← hw0]; simp
  have HIX := Sl.mk (indexe_any A2 m d q w.heap.size A n c l w0 hn (hE.be hB0) hm hG0.lt (hG0.cell 0) ((hq.below hB0).more hB0.size))
  have HE0 := Sl.mk (hE.be hB0)
  have HL := Sl.mk hE.n_
  clear hE hq
  go_enter Tryd.func10, Tryd.ntmps10
  go_wp2_with fail
  clear hw0
  refine HIX.out.mono ?_
  rintro e w1 ⟨rfl, hB1⟩
  have hZ1 := hZ0.be hB1
  have hE1 := below_tr hB0 hB1
  have HE1 := Sl.mk (HE0.out.be hB1)
  have hge1 := hB1.size
  rw [hs0] at hge1
  clear hZ0 hB0 hB1 HE0 hG0 HIX hs0
  by_cases hi : idxE q l < l.length
  · obtain ⟨x, hx⟩ : ∃ x, l[idxE q l]? = some x := ⟨_, List.getElem?_eq_getElem hi⟩
    have hp : placE q l = ((idxE q l : Nat) : Int) := by unfold placE; rw [if_pos hi]
    obtain ⟨ad, rfl, hbl, hld, hok⟩ := HE1.out.at_ hx
    rw [hp]
    have HX := Sl.mk hx
    obtain ⟨i, hii⟩ : ∃ i, idxE q l = i := ⟨_, rfl⟩
    have hin : i < n := by have := HL.out; omega
    have HII := Sl.mk hii
    have hd0 : w1.cell? (ad.add (idxE q l * 4)) = some (.slice x.pa x.e.path.length x.pc) := by have := hld 0 _ rfl; simpa [Addr.add] using this
    have HC := Sl.mk (copied_any x w1 hok)
    rw [hii] at hld hd0 ⊢
    clear hp hi hx hii hok
    go_wp2_with (refine ld_ex hld rfl (.tmp 15) rfl rfl ?_)
    refine HC.out.mono ?_
    rintro e w2 ⟨x', rfl, hxe, hok2, hB2⟩
    have hZ2 := hZ1.be hB2
    have hE2 := below_tr hE1 hB2
    have hge2 := hB2.size
    clear hZ1 hE1 hld hd0
    obtain ⟨⟨p', k', m', d'⟩, pa', pc', da', dc'⟩ := x'
    have HOK := Sl.mk hok2
    have HXE := Sl.mk hxe
    clear hok2 hxe
    go_wp2_with (refine st_en hZ2 rfl (.tmp 4) (.tmp 17) rfl pa' p'.length pc' k' m' da' d'.length dc' rfl rfl rfl ?_)
    intro w3 hZ3 hG3 _
    have hE3 := below_only hE2 hG3 hE2.size (by omega)
    have HG := Sl.mk hG3
    clear hG3
    go_wp2_with fail
    refine bodyPost_ret (v := .tuple #[.agg #[.slice pa' p'.length pc', .int .i64 k', .int .i64 m', .slice da' d'.length dc'], .int .i64 0]) (res_cell_tmp Tryd.results10 _ _ _ rfl hZ3 Tryd.underlying34 enSize rfl) rfl ?_
    refine ⟨hE3, .inl ⟨x, ⟨⟨p', k', m', d'⟩, pa', pc', da', dc'⟩, HX.out, HXE.out, ?_, rfl⟩⟩
    exact (HOK.out.far HG.out (by omega)).mono (by omega)
  · have hp : placE q l = -1 := by unfold placE; rw [if_neg hi]
    have HP := Sl.mk (show idxE q l = l.length by have := idxE_le q l; omega)
    rw [hp]
    clear hp hi
    go_wp2_with (refine st_en hZ1 rfl (.tmp 4) (.tmp 12) rfl none 0 0 0 0 none 0 0 rfl (by rfl) rfl ?_)
    intro w3 hZ3 hG3 _
    have hE3 := below_only hE1 hG3 hE1.size (by omega)
    clear hG3
    go_wp2_with fail
    refine bodyPost_ret (v := .tuple #[.agg #[.slice none 0 0, .int .i64 0, .int .i64 0, .slice none 0 0], .int .i64 7]) (res_cell_tmp Tryd.results10 _ _ _ rfl hZ3 Tryd.underlying34 enSize rfl) rfl ?_
    exact ⟨hE3, .inr ⟨HP.out, rfl⟩⟩

end Go.Proofs.YticcphppnmoogaaDoor
