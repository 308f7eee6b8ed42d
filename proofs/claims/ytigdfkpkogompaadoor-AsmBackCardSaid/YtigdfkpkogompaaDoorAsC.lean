/-
  What was assembled so far, in memory; the contract of its mark.
-/
import Derived.Test.YtigdfkpkogompaaDoorAsI
import Derived.Maps.OwnSet
import Derived.Maps.OwnOps
import Derived.StringKeys
namespace Go.Proofs.YtigdfkpkogompaaDoor
open Go.RowKit Go.Maps
attribute [local go_sem ↓] Go.wp_at_zero Go.wp_at_succ

def askC (a : Nat × Nat × List UInt8) : List Value := [.int .i64 (a.1 : Nat), .int .i64 (a.2.1 : Nat), .string (bsS a.2.2)]
theorem askC_len (a : Nat × Nat × List UInt8) : (askC a).length = 3 := rfl
def asksC (l : List (Nat × Nat × List UInt8)) : List Value := l.flatMap askC
theorem asksC_len (l : List (Nat × Nat × List UInt8)) : (asksC l).length = l.length * 3 := by
  induction l with
  | nil => rfl
  | cons x l ih => simp only [asksC, List.flatMap_cons, List.length_append, List.length_cons] at ih ⊢; rw [ih, askC_len]; omega
theorem asksC_app (a b : List (Nat × Nat × List UInt8)) : asksC (a ++ b) = asksC a ++ asksC b := by simp [asksC]
theorem asksC_sing (x : Nat × Nat × List UInt8) : asksC [x] = askC x := by simp [asksC]
theorem asksC_one (l : List (Nat × Nat × List UInt8)) : ∀ v ∈ asksC l, v.oneCell' = true := fun v hv => by
  obtain ⟨x, _, hx⟩ := List.mem_flatMap.1 hv
  simp only [askC, List.mem_cons, List.not_mem_nil, or_false] at hx
  rcases hx with rfl | rfl | rfl <;> rfl
theorem asksC_at : ∀ (l : List (Nat × Nat × List UInt8)) (i : Nat) (r : Nat × Nat × List UInt8), l[i]? = some r → ∀ (j : Nat) (v : Value), (askC r)[j]? = some v → (asksC l)[i * 3 + j]? = some v
  | [], i, r, h, _, _, _ => by simp at h
  | x :: l, 0, r, h, j, v, hv => by
    obtain rfl : x = r := by simpa using h
    have hj : j < (askC x).length := (List.getElem?_eq_some_iff.1 hv).1
    rw [asksC, List.flatMap_cons, Nat.zero_mul, Nat.zero_add, List.getElem?_append_left hj]
    exact hv
  | x :: l, i + 1, r, h, j, v, hv => by
    rw [asksC, List.flatMap_cons, List.getElem?_append_right (by rw [askC_len]; omega), askC_len, show (i + 1) * 3 + j - 3 = i * 3 + j by omega]
    exact asksC_at l i r (by simpa using h) j v hv

/-- The labels, as a map reads. -/
def LabIn (D : DataW Unit) (lab : List (List UInt8 × Nat)) : Prop :=
  ∀ s : List UInt8, Maps.has D (.string s) = (lab.lookup s).isSome ∧ ∀ k, lab.lookup s = some k → D.atKey (.string s) (.lit (.int .i64 0)) = .lit (.int .i64 (k : Nat))
theorem labIn_nil : LabIn (.map []) [] := fun s => ⟨rfl, fun k h => by cases h⟩
theorem labIn_put {D : DataW Unit} {lab : List (List UInt8 × Nat)} (h : LabIn D lab) (hD : IsMap D) (s : List UInt8) (k : Nat) : LabIn (D.put (.string s) (.lit (.int .i64 (k : Nat)))) ((s, k) :: lab) := fun t => by
  by_cases e : t = s
  · subst e
    refine ⟨?_, fun j hj => ?_⟩
    · rw [Maps.has_put_same hD (by trivial)]
      simp
    · rw [Maps.atKey_put_same hD (by trivial)]
      have : j = k := by simpa [List.lookup_cons] using hj.symm
      rw [this]
  · have hne : (t == s) = false := beq_eq_false_iff_ne.2 e
    have hl : ((s, k) :: lab).lookup t = lab.lookup t := by rw [List.lookup_cons, hne]
    have hk : (Lit.string t) ≠ .string s := fun q => e (by injection q)
    rw [hl, Maps.has_put_other hk]
    refine ⟨(h t).1, fun j hj => ?_⟩
    rw [Maps.atKey_put_other hk]
    exact (h t).2 j hj
theorem mapLaw : Keyed Tryd.prog 9 := string_keyed Tryd.underlying9
theorem zeroInt (w : World) : (zeroValue 3).run Tryd.prog w = .ok (.int .i64 0) w := by kernel_rfl
theorem keyS (s : List UInt8) (h : s.length ≤ 1000000) : keyOf Tryd.prog 9 (.string (bsS s)) = some (.string s) := WideMaps.keyOf_string_mk Tryd.underlying9 (by rw [bs_size]; unfold maxLen; omega)
/-- The labels' map. -/
def Mp (w : World) (mb : Nat) (lab : List (List UInt8 × Nat)) : Prop :=
  ∃ D : DataW Unit, w.ownsMap Tryd.prog 9 (plainElem Tryd.prog 3) mb lab.length D ∧ LabIn D lab
theorem Mp.lt {w : World} {mb : Nat} {lab : List (List UInt8 × Nat)} (h : Mp w mb lab) : mb < w.heap.size := by
  obtain ⟨D, h1, _⟩ := h
  exact h1.lt
theorem Mp.kept {w w' : World} {mb : Nat} {lab : List (List UInt8 × Nat)} {row : Option Nat} (h : Mp w mb lab) (hg : w.grownBy w' row) (hne : some mb ≠ row) : Mp w' mb lab := by
  obtain ⟨D, h1, h2⟩ := h
  exact ⟨D, h1.kept hg hne, h2⟩
theorem Mp.look {w : World} {mb : Nat} {lab : List (List UInt8 × Nat)} (h : Mp w mb lab) (s : List UInt8) (hs : s.length ≤ 1000000) :
    ∃ c : Int, (Instr.lookup 60 (.map (some mb)) (.string (bsS s)) true).run Tryd.prog w = .ok (.tuple #[.int .i64 c, .bool (lab.lookup s).isSome]) w ∧ ∀ k, lab.lookup s = some k → c = (k : Nat) := by
  obtain ⟨D, h1, h2⟩ := h
  obtain ⟨v, ps, hrun, hv⟩ := h1.look_ok mapLaw Tryd.underlying60 (zeroInt w) (plainElem_int Tryd.underlying3 (by decide)) (keyS s hs)
  obtain ⟨c, rfl, hc, _⟩ := plainElem_int_inv Tryd.underlying3 hv
  refine ⟨c, by rw [hrun, (h2 s).1], fun k hk => ?_⟩
  have h3 := (h2 s).2 k hk
  have h4 : (DataW.lit (.int .i64 c) : DataW Unit) = .lit (.int .i64 (k : Nat)) := (congrArg Prod.fst hc).symm.trans h3
  simp only [DataW.lit.injEq, Lit.int.injEq, true_and] at h4
  exact h4
theorem litWf {k : Nat} (h : k ≤ 1000000) : (Lit.int .i64 (k : Int)).wf = true := by
  have h1 : IntKind.i64.min = -9223372036854775808 := by decide
  have h2 : IntKind.i64.max = 9223372036854775807 := by decide
  simp [Lit.wf, h1, h2]; omega
theorem blk_mp_ne {w : World} {g mb : Nat} {t : TypeId} {cs : Array Value} {lab : List (List UInt8 × Nat)} (h : Blk w g t cs) (hm : Mp w mb lab) : g ≠ mb := by
  obtain ⟨D, ⟨es, clock, he, _⟩, _⟩ := hm
  rintro rfl
  unfold Blk at h
  rw [h] at he
  cases he
theorem own_mp_ne {w : World} {base mb size n : Nat} {e : TypeId} {v : Value} {xs : List Value} {lab : List (List UInt8 × Nat)} (h : w.ownsRow base e size v n xs) (hm : Mp w mb lab) : v.ownBlock ≠ some mb := by
  intro e
  rcases h.2 with ⟨rfl, _⟩ | ⟨g, cap, cur, rfl, _, hg, _⟩
  · simp [Value.ownBlock] at e
  · have e2 : g = mb := by simpa [Value.ownBlock] using e
    subst e2
    exact blk_mp_ne (t := _) (cs := cur) hg hm rfl

/-- What was assembled so far: its struct, its rows, its map, all of the call's own. -/
structure Pv (w : World) (base pb mb : Nat) (p : Ps) : Prop where
  blk : ∃ A c A2 c2, Blk w pb 63 #[.slice A p.l.length c, .map (some mb), .slice A2 p.ask.length c2] ∧
    w.ownsRow base 41 3 (.slice A p.l.length c) p.l.length (isC p.l) ∧ w.ownsRow base 67 3 (.slice A2 p.ask.length c2) p.ask.length (asksC p.ask)
  map : Mp w mb p.lab
  bb : base ≤ pb ∧ base ≤ mb
/-- Rows of texts stay. -/
def Kps (w w' : World) : Prop := ∀ g cs, Blk w g 9 cs → Blk w' g 9 cs
theorem Kps.refl (w : World) : Kps w w := fun _ _ h => h
theorem Kps.trans {a b c : World} (h : Kps a b) (k : Kps b c) : Kps a c := fun g cs x => k g cs (h g cs x)
theorem Kps.be {w w' : World} (hb : Below w.heap.size w w') : Kps w w' := fun _ _ h => h.be hb
theorem Kps.grown {w w' : World} {row : Option Nat} (hg : w.grownBy w' row) (hn : ∀ g cs, Blk w g 9 cs → some g ≠ row) : Kps w w' := fun g cs h => h.grown hg (hn g cs h)
theorem Pv.be {w w' : World} {base pb mb : Nat} {p : Ps} (h : Pv w base pb mb p) (hb : Below w.heap.size w w') : Pv w' base pb mb p := by
  obtain ⟨A, c, A2, c2, h1, h2, h3⟩ := h.blk
  obtain ⟨D, h4, h5⟩ := h.map
  refine ⟨⟨A, c, A2, c2, h1.be hb, own_below h2 hb, own_below h3 hb⟩, ⟨D, ?_, h5⟩, h.bb⟩
  have hlt := h4.lt
  obtain ⟨es, clock, he, hr⟩ := h4
  exact ⟨es, clock, (hb.block _ hlt).trans he, hr⟩
theorem Pv.lt {w : World} {base pb mb : Nat} {p : Ps} (h : Pv w base pb mb p) : pb < w.heap.size := by
  obtain ⟨A, c, A2, c2, h1, _, _⟩ := h.blk
  exact h1.lt

def MkPost (w : World) (base pb mb : Nat) (p : Ps) (s : List UInt8) (e : Ending) (w' : World) : Prop :=
  e = .returned (.bool (markF p s).isSome) ∧ (∀ q, markF p s = some q → Pv w' base pb mb q) ∧ Below base w w' ∧ Kps w w'
theorem mark_twice {p : Ps} {s : List UInt8} (h : (p.lab.lookup s).isSome = true) : markF p s = none := by
  unfold markF
  rw [if_neg]
  rintro ⟨h1, _⟩
  rw [h1] at h
  cases h
theorem mark_unlike {p : Ps} {s : List UInt8} (h : labF s = false) : markF p s = none := by
  unfold markF
  rw [if_neg]
  rintro ⟨_, h1⟩
  rw [h1] at h
  cases h
theorem mark_good {p : Ps} {s : List UInt8} (h : (p.lab.lookup s).isSome = false) (h2 : labF s = true) : markF p s = some ⟨p.l, (s, p.l.length) :: p.lab, p.ask⟩ := by
  unfold markF
  rw [if_pos]
  refine ⟨?_, h2⟩
  cases e : p.lab.lookup s with
  | none => rfl
  | some k => rw [e] at h; cases h
set_option maxRecDepth 100000 in
set_option maxHeartbeats 4000000 in
theorem mark_any (base pb mb : Nat) (p : Ps) (s : List UInt8) (w : World) (h : Pv w base pb mb p) (hs : s.length ≤ 1000000) (hl : p.l.length ≤ 1000) (hlab : p.lab.length ≤ 1000000) (hbw : base ≤ w.heap.size) :
    Calls Tryd.prog 36 #[.pointer (some ⟨pb, 0, none⟩), .string (bsS s)] w (MkPost w base pb mb p s) := by
  obtain ⟨A, c, A2, c2, hB, hO, hO2⟩ := h.blk
  have c0 := hB.cell 0
  have c1 := hB.cell 1
  obtain ⟨cv, hlk, -⟩ := h.map.look s hs
  obtain ⟨tw, htw⟩ : ∃ tw, (p.lab.lookup s).isSome = tw := ⟨_, rfl⟩
  rw [htw] at hlk
  have HTW := Sl.mk htw
  have HH := Sl.mk h
  have HO := Sl.mk hO
  have HO2 := Sl.mk hO2
  have HB := Sl.mk hB
  have HLA := Sl.mk (fun W => label_any s W hs)
  obtain ⟨L, hL⟩ : ∃ L, p.l.length = L := ⟨_, rfl⟩
  rw [hL] at c0 hl
  have HL := Sl.mk hL
  clear h hO hO2 hB htw hL
  cases tw with
  | true =>
    have HN := Sl.mk (mark_twice HTW.out)
    go_enter Tryd.func36, Tryd.ntmps36
    go_wp2_with fail
    go_ret
    exact ⟨by rw [HN.out]; rfl, fun q hq => (by rw [HN.out] at hq; cases hq), Below.refl _ _, Kps.refl _⟩
  | false =>
    obtain ⟨lb, hlb⟩ : ∃ lb, labF s = lb := ⟨_, rfl⟩
    rw [hlb] at HLA
    have HLB := Sl.mk hlb
    clear hlb
    cases lb with
    | false =>
      have HN := Sl.mk (mark_unlike (p := p) HLB.out)
      go_enter Tryd.func36, Tryd.ntmps36
      go_wp2_with fail
      refine (HLA.out _).mono ?_
      rintro e w1 ⟨rfl, rfl⟩
      go_wp2_with fail
      go_ret
      exact ⟨by rw [HN.out]; rfl, fun q hq => (by rw [HN.out] at hq; cases hq), Below.refl _ _, Kps.refl _⟩
    | true =>
      have HN := Sl.mk (mark_good HTW.out HLB.out)
      go_enter Tryd.func36, Tryd.ntmps36
      go_wp2_with fail
      refine (HLA.out _).mono ?_
      rintro e w1 ⟨rfl, rfl⟩
      go_wp2_with fail
      refine wp_region_quiet_tail 10 (by kernel_rfl) (by kernel_rfl) ?_
      simp only [List.take_succ_cons, List.take_zero, List.drop_succ_cons, List.drop_zero]
      repeat (any_goals (first | go_big_quiet_step (fail) | quiet_step (fail)))
      refine wpQuiet_nil ?_
      intro _ hw'
      obtain ⟨nq, hw''⟩ := hw'
      subst hw''
      obtain ⟨D, hown, hin⟩ := HH.out.map
      have hown2 : (w1.drewN nq).ownsMap Tryd.prog 9 (plainElem Tryd.prog 3) mb p.lab.length D := by
        obtain ⟨es, cl, h⟩ := hown
        exact ⟨es, cl, h⟩
      have HIM := Sl.mk hown.isMap
      refine wpList_mapUpdate_own _ rfl (.tmp 25) (.tmp 26) (.tmp 31) 60 rfl 9 3 mapLaw Tryd.underlying60 _ mb p.lab.length D rfl hown2 (by unfold maxLen; omega) _ _ (.string s) rfl rfl (keyS s hs) _ [] (plainElem_int Tryd.underlying3 (litWf (by omega))) ?_
      intro w3 hown3 hg3
      have HP3 := Sl.mk (show Pv w3 base pb mb ⟨p.l, (s, p.l.length) :: p.lab, p.ask⟩ ∧ Below base w1 w3 ∧ Kps w1 w3 by
        have hbm := blk_mp_ne HB.out HH.out.map
        have hd := Below.refl w1.heap.size w1
        have hdr := below_drN hd nq
        refine ⟨⟨⟨A, c, A2, c2, (HB.out.be hdr).grown hg3 (by simpa using hbm), (own_below HO.out hdr).kept hg3 (.inr (own_mp_ne HO.out HH.out.map)), (own_below HO2.out hdr).kept hg3 (.inr (own_mp_ne HO2.out HH.out.map))⟩, ⟨_, hown3, ?_⟩, HH.out.bb⟩, (hdr.mono hbw).grown hg3 hbw (fun k hk => by injection hk with hk; rw [← hk]; exact HH.out.bb.2), (Kps.be hdr).trans (Kps.grown hg3 fun g cs hg e => ?_)⟩
        · rw [HL.out]
          exact labIn_put hin HIM.out s L
        · injection e with e
          exact blk_mp_ne (w := w1) (show Blk w1 g 9 cs from hg) HH.out.map e)
      clear hown hown2 hin hown3 hg3 hlk
      go_wp2_with fail
      go_ret
      exact ⟨by rw [HN.out]; rfl, fun q hq => (by rw [HN.out] at hq; injection hq with hq; subst hq; exact HP3.out.1), HP3.out.2⟩
end Go.Proofs.YtigdfkpkogompaaDoor
