/-
  The contracts of creelref05.Same, creelref12.Find, bytes.Equal, archive.same.
-/
import Derived.Test.YticcphppnmoogaaDoorArcK
import Derived.Test.YticcphppnmoogaaDoorArcLit
namespace Go.Proofs.YticcphppnmoogaaDoor
open Go.RowKit
attribute [local go_sem ↓] Go.wp_at_zero Go.wp_at_succ

set_option maxHeartbeats 1000000 in
theorem rsame_any (A1 A2 : Option Addr) (n c m d : Nat) (p q : List ByteArray) (w : World) (hn : n ≤ 1000000) (hm : m ≤ 1000000) (hR1 : Reads w w.heap.size 1 A1 n (strV p)) (hR2 : Reads w w.heap.size 1 A2 m (strV q)) :
    Calls Tryd.prog 26 #[.slice A1 n c, .slice A2 m d] w fun e w' => e = .returned (.bool (eqP p q)) ∧ ∃ k, w' = w.drewN k := by
  have HL1 := Sl.mk (strs_n hR1)
  have HL2 := Sl.mk (strs_n hR2)
  have HR1 := Sl.mk hR1
  have HR2 := Sl.mk hR2
  clear hR1 hR2
  by_cases hnm : n = m
  · subst hnm
    go_enter Tryd.func26, Tryd.ntmps26
    go_wp2_with fail
    go_loopw [5] (fun s5 wr => ∃ i k : Nat, i ≤ n ∧ s5 = .int .i64 i ∧ Sl (p.take i = q.take i) ∧ wr = w.drewN k) (fun s5 _ => n - (intOf s5).toNat)
    case atStart => exact ⟨0, 0, Nat.zero_le _, rfl, ⟨rfl⟩, rfl⟩
    case round =>
      obtain ⟨i, k, hi, rfl, HT, rfl⟩ := hrel
      by_cases hil : i < n
      · obtain ⟨s, hs⟩ : ∃ s, p[i]? = some s := ⟨_, List.getElem?_eq_getElem (by rw [HL1.out]; exact hil)⟩
        obtain ⟨t, ht⟩ : ∃ t, q[i]? = some t := ⟨_, List.getElem?_eq_getElem (by rw [HL2.out]; exact hil)⟩
        obtain ⟨a1, rfl, hb1, hc1⟩ := strs_at HR1.out hs
        obtain ⟨a2, rfl, hb2, hc2⟩ := strs_at HR2.out ht
        by_cases hst : s = t
        · subst hst
          have HT2 := Sl.mk (show p.take (i + 1) = q.take (i + 1) by rw [take_snoc' hs, take_snoc' ht, HT.out])
          have hbb : (s.toList == s.toList) = true := by simp
          clear hs ht
          go_wp2_with fail
          go_quiet (fail)
          go_wp2_with fail
          go_roundw
          case rel => exact ⟨i + 1, _, by omega, by go_num, HT2, rfl⟩
          case measure => simp [intOf]; omega
        · have HF := Sl.mk (eqP_take hs ht hst)
          have hbb := str_ne hst
          clear hs ht hst
          go_wp2_with fail
          go_quiet (fail)
          go_wp2_with fail
          go_ret
          exact ⟨by rw [HF.out]; rfl, k + nq, by rw [World.drewN_drewN]⟩
      · obtain rfl : i = n := by omega
        have HF := Sl.mk (show eqP p q = true by
          have h := HT.out
          rw [List.take_of_length_le (by rw [HL1.out]; omega), List.take_of_length_le (by rw [HL2.out]; omega)] at h
          exact decide_eq_true h)
        go_wp2_with fail
        go_ret
        exact ⟨by rw [HF.out]; rfl, k, rfl⟩
  · have HF := Sl.mk (show eqP p q = false from decide_eq_false fun e => hnm (by rw [← HL1.out, ← HL2.out, e]))
    have h1 : ((n : Int) != (m : Int)) = true := by simp; omega
    have h2 : ((n : Int) == (m : Int)) = false := by simp; omega
    clear hnm
    go_enter Tryd.func26, Tryd.ntmps26
    go_wp2_with fail
    go_ret
    exact ⟨by rw [HF.out]; rfl, 0, rfl⟩

theorem Exs.drewN {w : World} {A : Option Addr} {n : Nat} {l : List Ex} (h : Exs w A n l) (k : Nat) : Exs (w.drewN k) A n l := h.be (below_drN (Below.refl _ _) k)
set_option maxHeartbeats 1000000 in
theorem rfind_any (A2 : Option Addr) (m d : Nat) (q : List ByteArray) (A : Option Addr) (n c : Nat) (l : List Ex) (w : World) (hn : n ≤ 1000000) (hE : Exs w A n l) (hm : m ≤ 1000) (hq : Reads w w.heap.size 1 A2 m (strV q)) :
    Calls Tryd.prog 11 #[.slice A n c, .slice A2 m d] w fun e w' => e = .returned (.int .i64 (placE q l)) ∧ ∃ k, w' = w.drewN k := by
  have HL := Sl.mk hE.n_
  have HE := Sl.mk hE
  have HQ := Sl.mk hq
  clear hE hq
  go_enter Tryd.func11, Tryd.ntmps11
  go_wp2_with fail
  go_loopw [5] (fun s5 wr => ∃ i k : Nat, i ≤ n ∧ s5 = .int .i64 i ∧ Sl (idxE q l = i + idxE q (l.drop i)) ∧ wr = w.drewN k) (fun s5 _ => n - (intOf s5).toNat)
  case atStart => exact ⟨0, 0, Nat.zero_le _, rfl, ⟨by simp⟩, rfl⟩
  case round =>
    obtain ⟨i, k, hi, rfl, HI, rfl⟩ := hrel
    by_cases hil : i < n
    · obtain ⟨x, hx⟩ : ∃ x, l[i]? = some x := ⟨_, List.getElem?_eq_getElem (by rw [HL.out]; exact hil)⟩
      obtain ⟨ad, rfl, hbl, hld, hok⟩ := HE.out.at_ hx
      have hd0 : w.cell? (ad.add (i * 4)) = some (.slice x.pa x.e.path.length x.pc) := by have := hld 0 _ rfl; simpa [Addr.add] using this
      have HD := Sl.mk (drop_cons1 hx)
      have hpl := hok.plen
      have HP := Sl.mk (rsame_any x.pa A2 x.e.path.length x.pc m d x.e.path q (w.drewN k) (by omega) (by omega) (hok.path.drewN k) (HQ.out.drewN k))
      clear hx hok hld
      go_wp2_with fail
      refine HP.out.mono ?_
      rintro e w2 ⟨rfl, k2, rfl⟩
      cases eR : eqP x.e.path q
      · have HN := Sl.mk (show idxE q l = (i + 1) + idxE q (l.drop (i + 1)) by rw [HI.out, HD.out, idxE, if_neg (by rw [eR]; simp)]; omega)
        go_wp2_with fail
        go_roundw
        case rel => exact ⟨i + 1, k + k2, by omega, by go_num, HN, by first | rfl | rw [World.drewN_drewN]⟩
        case measure => simp [intOf]; omega
      · have HN := Sl.mk (show placE q l = i by
          have : idxE q l = i := by rw [HI.out, HD.out, idxE, if_pos eR]; omega
          unfold placE; rw [this, if_pos (by rw [HL.out]; exact hil)])
        go_wp2_with fail
        go_ret
        exact ⟨by rw [HN.out]; rfl, k + k2, by first | rfl | rw [World.drewN_drewN]⟩
    · obtain rfl : i = n := by omega
      have HN := Sl.mk (show placE q l = -1 by
        have h : l.drop i = [] := List.drop_of_length_le (by rw [HL.out]; omega)
        have h0 := HI.out
        rw [h] at h0
        unfold placE; rw [if_neg (by rw [HL.out, h0]; simp [idxE])])
      go_wp2_with fail
      go_ret
      exact ⟨by rw [HN.out]; rfl, k, rfl⟩

theorem strN_inj : ∀ {p q : List Nat}, (∀ b ∈ p, b < 256) → (∀ b ∈ q, b < 256) → p.map UInt8.ofNat = q.map UInt8.ofNat → p = q
  | [], [], _, _, _ => rfl
  | [], _ :: _, _, _, h => by simp at h
  | _ :: _, [], _, _, h => by simp at h
  | a :: p, b :: q, hp, hq, h => by
    simp only [List.map_cons, List.cons.injEq] at h
    have h1 := congrArg UInt8.toNat h.1
    rw [UInt8.toNat_ofNat', UInt8.toNat_ofNat', Nat.mod_eq_of_lt (hp a (List.mem_cons_self ..)), Nat.mod_eq_of_lt (hq b (List.mem_cons_self ..))] at h1
    rw [h1, strN_inj (fun x hx => hp x (List.mem_cons_of_mem _ hx)) (fun x hx => hq x (List.mem_cons_of_mem _ hx)) h.2]
theorem strN_eq {p q : List Nat} (hp : ∀ b ∈ p, b < 256) (hq : ∀ b ∈ q, b < 256) : ((strN p).toList == (strN q).toList) = eqB p q := by
  have e : ∀ l : List Nat, (strN l).toList = l.map UInt8.ofNat := fun l => by rw [ByteArray.toList_eq]; rfl
  rw [e, e]
  by_cases h : p = q
  · subst h
    simp [eqB]
  · have : ¬ p.map UInt8.ofNat = q.map UInt8.ofNat := fun h2 => h (strN_inj hp hq h2)
    rw [show eqB p q = false from decide_eq_false h]
    simpa using this

theorem bequal_any (A1 A2 : Option Addr) (n c m d : Nat) (p q : List Nat) (w : World) (hp : ∀ b ∈ p, b < 256) (hq : ∀ b ∈ q, b < 256) (hR1 : Reads w w.heap.size 1 A1 n (u8s p)) (hR2 : Reads w w.heap.size 1 A2 m (u8s q)) :
    Calls Tryd.prog 43 #[.slice A1 n c, .slice A2 m d] w fun e w' => e = .returned (.bool (eqB p q)) ∧ w = w' := by
  have h1 := conv_str (c := c) hR1 hp
  have h2 := conv_str (c := d) hR2 hq
  have h3 := strN_eq hp hq
  obtain ⟨s, hs⟩ : ∃ s, strN p = s := ⟨_, rfl⟩
  obtain ⟨t, ht⟩ : ∃ t, strN q = t := ⟨_, rfl⟩
  rw [hs] at h1 h3
  rw [ht] at h2 h3
  have H3 := Sl.mk h3
  clear hs ht hR1 hR2 hp hq h3
  go_enter Tryd.func43, Tryd.ntmps43
  go_wp2_with fail
  go_ret
  exact ⟨ret_bool H3.out, rfl⟩

/-- Are two entries the same? -/
def sameE (a b : En) : Bool := eqP a.path b.path && (a.kind == b.kind) && (a.mode == b.mode) && eqB a.data b.data
theorem sameE_iff (a b : En) : sameE a b = true ↔ a = b := by
  obtain ⟨p, k, m, d⟩ := a
  obtain ⟨p', k', m', d'⟩ := b
  simp [sameE, eqP, eqB, and_assoc]

set_option maxRecDepth 100000 in
set_option maxHeartbeats 4000000 in
theorem samee_any (x y : Ex) (w : World) (hx : ExOk w w.heap.size x) (hy : ExOk w w.heap.size y) :
    Calls Tryd.prog 30 #[.agg (exC x).toArray, .agg (exC y).toArray] w fun e w' => e = .returned (.bool (sameE x.e y.e)) ∧ Below w.heap.size w w' := by
  obtain ⟨⟨p, k, m, d⟩, pa, pc, da, dc⟩ := x
  obtain ⟨⟨p', k', m', d'⟩, pa', pc', da', dc'⟩ := y
  have hp : Reads w w.heap.size 1 pa p.length (strV p) := hx.path
  have hp' : Reads w w.heap.size 1 pa' p'.length (strV p') := hy.path
  have hd : Reads w w.heap.size 1 da d.length (u8s d) := hx.data
  have hd' : Reads w w.heap.size 1 da' d'.length (u8s d') := hy.data
  have h1 : p.length ≤ 100 := hx.plen
  have h2 : p'.length ≤ 100 := hy.plen
  have hb : ∀ b ∈ d, b < 256 := hx.byte
  have hb' : ∀ b ∈ d', b < 256 := hy.byte
  clear hx hy
  show Calls Tryd.prog 30 #[.agg #[.slice pa p.length pc, .int .i64 k, .int .i64 m, .slice da d.length dc], .agg #[.slice pa' p'.length pc', .int .i64 k', .int .i64 m', .slice da' d'.length dc']] w fun e w' => e = .returned (.bool (sameE ⟨p, k, m, d⟩ ⟨p', k', m', d'⟩)) ∧ Below w.heap.size w w'
  have HF : Sl (sameE ⟨p, k, m, d⟩ ⟨p', k', m', d'⟩ = (eqP p p' && (k == k') && (m == m') && eqB d d')) := ⟨rfl⟩
  obtain ⟨w0, hw0⟩ : ∃ w0, (w.alloc (.cells #[.slice pa p.length pc, .int .i64 k, .int .i64 m, .slice da d.length dc] 34)).alloc (.cells #[.slice pa' p'.length pc', .int .i64 k', .int .i64 m', .slice da' d'.length dc'] 34) = w0 := ⟨_, rfl⟩
  have hE0 : Below w.heap.size w w0 := by rw [← hw0]; exact below_al (below_al (Below.refl _ _) _) _
  have hX0 : Blk w0 w.heap.size 34 #[.slice pa p.length pc, .int .i64 k, .int .i64 m, .slice da d.length dc] := by rw [← hw0]; exact (Blk.new _ _ _).alloc _
  have hY0 : Blk w0 (w.heap.size + 1) 34 #[.slice pa' p'.length pc', .int .i64 k', .int .i64 m', .slice da' d'.length dc'] := by rw [← hw0]; exact Blk.new' (by simp)
  have HS := Sl.mk (same_any pa pa' p.length pc p'.length pc' p p' w0 (by omega) (by omega) ((hp.below hE0).more hE0.size) ((hp'.below hE0).more hE0.size))
  have HQ := Sl.mk (fun kk => bequal_any da da' d.length dc d'.length dc' d d' (w0.drewN kk) hb hb' (((hd.below hE0).more hE0.size).drewN kk) (((hd'.below hE0).more hE0.size).drewN kk))
  clear hp hp' hd hd' hb hb'
  go_enter Tryd.func30, Tryd.ntmps30
  have x0 := hX0.cell 0
  have x1 := hX0.cell 1
  have x2 := hX0.cell 2
  have x3 := hX0.cell 3
  have y0 := hY0.cell 0
  have y1 := hY0.cell 1
  have y2 := hY0.cell 2
  have y3 := hY0.cell 3
  go_wp2_with fail
  clear hw0
  refine HS.out.mono ?_
  rintro e w1 ⟨rfl, kk, rfl⟩
  have hE1 := below_drN hE0 kk
  cases e1 : eqP p p'
  · go_wp2_with fail
    go_ret
    exact ⟨by rw [HF.out, e1]; rfl, hE1⟩
  cases e2 : (k == k')
  · go_wp2_with fail
    go_ret
    exact ⟨by rw [HF.out, e1, e2]; rfl, hE1⟩
  cases e3 : (m == m')
  · go_wp2_with fail
    go_ret
    exact ⟨by rw [HF.out, e1, e2, e3]; rfl, hE1⟩
  · go_wp2_with fail
    refine (HQ.out kk).mono ?_
    rintro e w1 ⟨rfl, rfl⟩
    go_wp2_with fail
    go_ret
    exact ⟨by rw [HF.out, e1, e2, e3]; rfl, hE1⟩

end Go.Proofs.YticcphppnmoogaaDoor
