/-
  The verifier in memory; the contract of its reach.
-/
import Derived.Test.YtliealcdiogilaaDoorCoL
import Derived.Lib.SlKeysI
namespace Go.Proofs.YtliealcdiogilaaDoor
open Go.RowKit
attribute [local go_sem ↓] Go.wp_at_zero Go.wp_at_succ

/-- A bool's reading. -/
def boolR : Value → Option (DataW Unit × List MemPlace)
  | .bool x => some (.lit (.bool x), [])
  | _ => none
/-- The map's keys are the places that are still to be looked at. -/
def KeysIn (D : DataW Unit) (todo : List Bool) : Prop := ∀ x : Int, Maps.has D (.int .i64 x) = true ↔ ∃ k : Nat, x = k ∧ todo.getD k false = true
theorem keysIn_put {D : DataW Unit} {todo : List Bool} (h : KeysIn D todo) (hD : Maps.IsMap D) (k : Nat) (hk : k < todo.length) (d : DataW Unit) : KeysIn (D.put (.int .i64 k) d) (todo.set k true) := by
  intro x
  by_cases hx : x = k
  · subst hx
    rw [Maps.has_put_same hD (by trivial)]
    refine ⟨fun _ => ⟨k, rfl, ?_⟩, fun _ => rfl⟩
    rw [List.getD_eq_getElem?_getD, List.getElem?_set_self hk]; rfl
  · rw [Maps.has_put_other (by intro e; injection e with _ e2; exact hx e2), h x]
    constructor
    · rintro ⟨j, rfl, hj⟩
      refine ⟨j, rfl, ?_⟩
      rw [List.getD_eq_getElem?_getD, List.getElem?_set_ne (by omega), ← List.getD_eq_getElem?_getD]
      exact hj
    · rintro ⟨j, rfl, hj⟩
      refine ⟨j, rfl, ?_⟩
      rw [List.getD_eq_getElem?_getD, List.getElem?_set_ne (by omega), ← List.getD_eq_getElem?_getD] at hj
      exact hj
theorem keysIn_del {D : DataW Unit} {todo : List Bool} (h : KeysIn D todo) (k : Nat) : KeysIn (D.del (.int .i64 k)) (todo.set k false) := by
  intro x
  by_cases hx : x = k
  · subst hx
    rw [Maps.has_del_same]
    constructor
    · intro h; cases h
    · rintro ⟨j, hj, hj2⟩
      obtain rfl : k = j := by omega
      by_cases hk : k < todo.length
      · rw [List.getD_eq_getElem?_getD, List.getElem?_set_self hk] at hj2; cases hj2
      · rw [List.getD_eq_getElem?_getD, List.getElem?_eq_none (by rw [List.length_set]; omega)] at hj2; cases hj2
  · rw [Maps.has_del_other (by intro e; injection e with _ e2; exact hx e2), h x]
    constructor
    · rintro ⟨j, rfl, hj⟩
      refine ⟨j, rfl, ?_⟩
      rw [List.getD_eq_getElem?_getD, List.getElem?_set_ne (by omega), ← List.getD_eq_getElem?_getD]
      exact hj
    · rintro ⟨j, rfl, hj⟩
      refine ⟨j, rfl, ?_⟩
      rw [List.getD_eq_getElem?_getD, List.getElem?_set_ne (by omega), ← List.getD_eq_getElem?_getD] at hj
      exact hj
theorem blk_map_ne {w : World} {g b : Nat} {t : TypeId} {cs : Array Value} {n : Nat} {D : DataW Unit} (h : Blk w g t cs) (hm : w.ownsMap Tryd.prog 3 boolR b n D) : g ≠ b := by
  obtain ⟨es, clock, he, _⟩ := hm
  rintro rfl
  unfold Blk at h
  rw [h] at he
  cases he
theorem map_below {w w' : World} {base b n : Nat} {D : DataW Unit} (hm : w.ownsMap Tryd.prog 3 boolR b n D) (hb : Below base w w') (h : b < base) : w'.ownsMap Tryd.prog 3 boolR b n D := by
  obtain ⟨es, clock, he, h1⟩ := hm
  exact ⟨es, clock, (hb.block b h).trans he, h1⟩

/-- The verifier: its struct, its states, its map, all of the call's own. -/
structure Vr (w : World) (base vb sb mb : Nat) (A : Option Addr) (n c : Nat) (v : Vs) : Prop where
  blk : Blk w vb 90 #[.slice A n c, .slice (some ⟨sb, 0, none⟩) (n + 1) (n + 1), .map (some mb)]
  sts : Blk w sb 9 (strsC v.1).toArray
  map : ∃ (nn : Nat) (D : DataW Unit), w.ownsMap Tryd.prog 3 boolR mb nn D ∧ nn + v.1.countP (· == [45]) ≤ n + 1 ∧ KeysIn D v.2
  l1 : v.1.length = n + 1
  l2 : v.2.length = n + 1
  bb : base ≤ vb ∧ base ≤ sb ∧ base ≤ mb
  mlt : mb < w.heap.size
  slen : ∀ s ∈ v.1, s.length ≤ 16
theorem Vr.be {w w' : World} {base vb sb mb n c : Nat} {A : Option Addr} {v : Vs} (h : Vr w base vb sb mb A n c v) (hb : Below w.heap.size w w') : Vr w' base vb sb mb A n c v := by
  obtain ⟨nn, D, hm, h1, h2⟩ := h.map
  exact ⟨h.blk.be hb, h.sts.be hb, ⟨nn, D, map_below hm hb h.mlt, h1, h2⟩, h.l1, h.l2, h.bb, Nat.lt_of_lt_of_le h.mlt hb.size, h.slen⟩
theorem strsC_get {l : List (List UInt8)} {k : Nat} (h : k < l.length) : (strsC l).toArray[k]? = some (.string (bsS (l.getD k []))) := by
  rw [List.getElem?_toArray, List.getD_eq_getElem?_getD]
  simp [strsC, List.getElem?_eq_getElem h]
theorem strsC_set (l : List (List UInt8)) (k : Nat) (s : List UInt8) : (strsC l).toArray.setIfInBounds k (.string (bsS s)) = (strsC (l.set k s)).toArray := by
  apply Array.ext'
  simp [strsC, List.map_set]
theorem bsS_inj {a b : List UInt8} (h : bsS a = bsS b) : a = b := by
  have := congrArg (fun x => x.data.toList) h
  exact this
theorem bs_beq (a b : List UInt8) : ((bsS a).toList == (bsS b).toList) = decide (a = b) := by
  rw [bs_list, bs_list]
  by_cases h : a = b
  · subst h; simp
  · rw [decide_eq_false h]; exact beq_eq_false_iff_ne.2 h
theorem intWf {k : Nat} (h : k ≤ 1000000) : (Lit.int .i64 (k : Int)).wf = true := by
  have h1 : IntKind.i64.min = -9223372036854775808 := by decide
  have h2 : IntKind.i64.max = 9223372036854775807 := by decide
  simp [Lit.wf, h1, h2]; omega
theorem count_set {l : List (List UInt8)} {k : Nat} {s : List UInt8} (hk : k < l.length) (h : l.getD k [] = [45]) (hs : s ≠ [45]) : (l.set k s).countP (· == [45]) + 1 = l.countP (· == [45]) := by
  have h2 : l[k] = [45] := by rw [List.getD_eq_getElem?_getD, List.getElem?_eq_getElem hk] at h; exact h
  have h3 : 0 < l.countP (· == [45]) := List.countP_pos_iff.2 ⟨l[k], List.getElem_mem hk, by rw [h2]; rfl⟩
  rw [List.countP_set hk, h2, beq_eq_false_iff_ne.2 hs]
  simp
  omega
/-- Blocks of other types stay. -/
def KeepI (w w' : World) : Prop := ∀ g cs, Blk w g 45 cs → Blk w' g 45 cs
def RcPost (w : World) (base vb sb mb : Nat) (A : Option Addr) (n c : Nat) (v : Vs) (b : Bool) (e : Ending) (w' : World) : Prop := e = .returned (.bool b) ∧ Vr w' base vb sb mb A n c v ∧ Below base w w' ∧ KeepI w w'
set_option maxRecDepth 100000 in
set_option maxHeartbeats 4000000 in
theorem reach_any (base vb sb mb : Nat) (A : Option Addr) (n c k : Nat) (v : Vs) (s : List UInt8) (w : World) (hV : Vr w base vb sb mb A n c v) (hk : k ≤ n) (hn : n ≤ 1000) (hs : s ≠ [45]) (hs16 : s.length ≤ 16) (hbw : base ≤ w.heap.size) :
    Calls Tryd.prog 44 #[.pointer (some ⟨vb, 0, none⟩), .int .i64 k, .string (bsS s)] w (RcPost w base vb sb mb A n c (reachV v k s) (decide ((reachV v k s).1.getD k [] = s))) := by
  have hk1 : k < v.1.length := by have := hV.l1; omega
  have c1 := hV.blk.cell 1
  have c2 := hV.blk.cell 2
  have d1 := (hV.sts.cell k).trans (strsC_get hk1)
  have f1 := hV.sts.frozen k
  obtain ⟨x, hx⟩ : ∃ x, v.1.getD k [] = x := ⟨_, rfl⟩
  rw [hx] at d1
  have e1 : ((bsS x).toList == [45]) = decide (x = [45]) := by have := bs_beq x [45]; rw [bs_list [45]] at this; exact this
  have e2 : ((bsS x).toList == (bsS s).toList) = decide (x = s) := bs_beq x s
  have HV := Sl.mk hV
  have HX := Sl.mk hx
  have hkN : (k : Int) < (n : Int) + 1 := by omega
  clear hV hx
  obtain ⟨V, hVV⟩ : ∃ V, reachV v k s = V := ⟨_, rfl⟩
  obtain ⟨b, hb⟩ : ∃ b, decide (V.1.getD k [] = s) = b := ⟨_, rfl⟩
  rw [hVV, hb]
  have HVV := Sl.mk hVV
  have HBB := Sl.mk hb
  clear hVV hb
  by_cases hd : x = [45]
  · subst hd
    have hR := Sl.mk (show V = (v.1.set k s, v.2.set k true) by rw [← HVV.out]; unfold reachV; rw [HX.out, if_pos rfl])
    have hbt := Sl.mk (show b = true by rw [← HBB.out, hR.out]; simp [List.getD_eq_getElem?_getD, hk1])
    have hvs : sb ≠ vb := (HV.out.sts.ne_ HV.out.blk (by decide))
    have c2' : (w.setCell ⟨sb, k, none⟩ (.string (bsS s))).cell? ⟨vb, 2, none⟩ = some (.map (some mb)) := by
      rw [World.cell?_setCell_other _ _ _ _ (fun e => hvs (congrArg Addr.block e))]; exact c2
    obtain ⟨nn, D, hm, hcn, hkey⟩ := HV.out.map
    have hmb := HV.out.bb
    have hsm : sb ≠ mb := blk_map_ne HV.out.sts hm
    have hvm : vb ≠ mb := blk_map_ne HV.out.blk hm
    have hm1 : (w.setCell ⟨sb, k, none⟩ (.string (bsS s))).ownsMap Tryd.prog 3 boolR mb nn D := hm.setCell hsm.symm _
    have HM1 := Sl.mk hm1
    have HS1 := Sl.mk (show Blk (w.setCell ⟨sb, k, none⟩ (.string (bsS s))) sb 9 (strsC (v.1.set k s)).toArray by rw [← strsC_set]; exact HV.out.sts.set_ k _)
    have HV1 := Sl.mk (show Blk (w.setCell ⟨sb, k, none⟩ (.string (bsS s))) vb 90 #[.slice A n c, .slice (some ⟨sb, 0, none⟩) (n + 1) (n + 1), .map (some mb)] from HV.out.blk.far (p := ⟨sb, k, none⟩) hvs.symm _)
    have HEs := Sl.mk (show Below base w (w.setCell ⟨sb, k, none⟩ (.string (bsS s))) from (Below.refl _ _).setCell (p := ⟨sb, k, none⟩) hmb.2.1 _)
    have HIM := Sl.mk (show Maps.IsMap D from hm.isMap)
    have hwf : (Lit.int .i64 (k : Int)).wf = true := intWf (by omega)
    have hnn : nn < maxLen := by unfold maxLen; omega
    have hc1 : nn + ((v.1.set k s).countP (· == [45]) + 1) ≤ n + 1 := by rw [count_set hk1 HX.out hs]; exact hcn
    have HCN := Sl.mk hc1
    have HKEY := Sl.mk (keysIn_put hkey HIM.out k (by have := HV.out.l2; omega) (.lit (.bool true)))
    have HDK : Sl (∀ w2, w2.ownsMap Tryd.prog 3 boolR mb (nn + 1) (D.put (.int .i64 k) (.lit (.bool true))) → (w.setCell ⟨sb, k, none⟩ (.string (bsS s))).grownBy w2 (some mb) → (Vr w2 base vb sb mb A n c V ∧ KeepI w w2) ∧ Below base w w2 ∧ w2.cell? ⟨vb, 1, none⟩ = some (.slice (some ⟨sb, 0, none⟩) (n + 1) (n + 1)) ∧ w2.cell? ⟨sb, k, none⟩ = some (.string (bsS s))) := ⟨fun w2 ho hg => by
      have hv2 := HV1.out.grown hg (by simpa using hvm)
      have hs2 := HS1.out.grown hg (by simpa using hsm)
      have hE := below_only HEs.out hg (by simpa using hbw) hmb.2.2
      have hl1 : (v.1.set k s).length = n + 1 := by rw [List.length_set]; exact HV.out.l1
      refine ⟨⟨?_, fun g cs h => ?_⟩, hE, hv2.cell 1, ?_⟩
      · rw [hR.out]
        refine ⟨hv2, hs2, ⟨nn + 1, _, ho, by have := HCN.out; show nn + 1 + (v.1.set k s).countP (· == [45]) ≤ n + 1; omega, HKEY.out⟩, hl1, by show (v.2.set k true).length = n + 1; rw [List.length_set]; exact HV.out.l2, hmb, ?_, fun x hx => ?_⟩
        · have h1 := HV.out.mlt
          have h2 := hg.size
          simp at h2
          omega
        · rcases List.mem_or_eq_of_mem_set hx with h | rfl
          · exact HV.out.slen x h
          · exact hs16
      · exact (h.far (p := ⟨sb, k, none⟩) (h.ne_ HV.out.sts (by decide)) _).grown hg (by simpa using blk_map_ne h hm)
      · rw [hs2.cell k, strsC_get (by rw [hl1]; omega), List.getD_eq_getElem?_getD, List.getElem?_set_self hk1]; rfl⟩
    have e3 : ((bsS s).toList == (bsS s).toList) = true := by simp
    clear hm hcn hkey hmb hsm hvm hm1 hc1 hvs e2
    rw [decide_eq_true rfl] at e1
    go_enter Tryd.func44, Tryd.ntmps44
    go_wp2_with (refine wpList_mapUpdate_own _ rfl (.tmp 25) (.tmp 26) (.const (.bool true)) 88 rfl 3 4 (Go.Maps.int_keyed Tryd.underlying3) Tryd.underlying88 boolR mb nn D rfl HM1.out hnn _ _ _ rfl rfl (Go.Maps.keyOf_int_mk Tryd.underlying3 hwf) _ [] rfl ?_; intro w2 ho hg; obtain ⟨g1, g2, g3, g4⟩ := HDK.out w2 ho hg; have HG1 := Sl.mk g1; have HG2 := Sl.mk g2; clear g1 g2 ho hg)
    go_ret
    rw [hbt.out]
    exact ⟨rfl, HG1.out.1, HG2.out, HG1.out.2⟩
  · have hR := Sl.mk (show V = v by rw [← HVV.out]; unfold reachV; rw [HX.out, if_neg hd])
    have hR2 := Sl.mk (show b = decide (x = s) by rw [← HBB.out, hR.out, HX.out])
    rw [decide_eq_false hd] at e1
    clear hd
    go_enter Tryd.func44, Tryd.ntmps44
    go_wp2_with fail
    go_ret
    rw [hR.out, hR2.out]
    exact ⟨rfl, HV.out, Below.refl _ _, fun _ _ h => h⟩
end Go.Proofs.YtliealcdiogilaaDoor
