/-
  The document's nodes: rows of them; creellaw03.nodes.
-/
import Derived.Test.YtbnmbncjefnpiaaDoorCdZ
import Derived.Test.YtbnmbncjefnpiaaDoorCdJ
namespace Go.Proofs.YtbnmbncjefnpiaaDoor
open Go.RowKit
attribute [local go_sem ↓] Go.wp_at_zero Go.wp_at_succ

/-- A node with its headers. -/
structure Nx where
  k : Int
  n : Int
  pb : Option Addr
  b : List Nat
  cb : Nat
  pl : Option Addr
  l : List Nat
  cl : Nat
def idsV (l : List Nat) : List Value := l.map fun (i : Nat) => Value.int .i64 (i : Int)
theorem idsV_len (l : List Nat) : (idsV l).length = l.length := by simp [idsV]
theorem idsV_one (l : List Nat) : ∀ v ∈ idsV l, v.oneCell' = true := by
  intro v hv
  obtain ⟨i, _, rfl⟩ := List.mem_map.1 hv
  rfl
def nxC (x : Nx) : List Value := [.int .i64 x.k, .int .i64 x.n, .slice x.pb x.b.length x.cb, .slice x.pl x.l.length x.cl]
theorem nxC_len (x : Nx) : (nxC x).length = 4 := rfl
theorem nxC_one (x : Nx) : ∀ v ∈ nxC x, v.oneCell' = true := by
  intro v hv
  simp only [nxC, List.mem_cons, List.not_mem_nil, or_false] at hv
  rcases hv with rfl | rfl | rfl | rfl <;> rfl
def nxsC (l : List Nx) : List Value := l.flatMap nxC
theorem nxsC_len (l : List Nx) : (nxsC l).length = l.length * 4 := by
  induction l with
  | nil => rfl
  | cons r l ih => simp only [nxsC, List.flatMap_cons, List.length_append, nxC_len, List.length_cons] at *; omega
theorem nxsC_one (l : List Nx) : ∀ v ∈ nxsC l, v.oneCell' = true := by
  intro v hv
  obtain ⟨r, _, h⟩ := List.mem_flatMap.1 hv
  exact nxC_one r v h
theorem nxsC_at : ∀ (l : List Nx) (i : Nat) (r : Nx), l[i]? = some r → ∀ (j : Nat) (v : Value), (nxC r)[j]? = some v → (nxsC l)[i * 4 + j]? = some v
  | [], i, r, h, _, _, _ => by simp at h
  | x :: l, 0, r, h, j, v, hv => by
    simp at h; subst h
    have hj : j < (nxC x).length := (List.getElem?_eq_some_iff.1 hv).1
    simp only [nxsC, List.flatMap_cons, Nat.zero_mul, Nat.zero_add]
    rw [List.getElem?_append_left hj, hv]
  | x :: l, i + 1, r, h, j, v, hv => by
    have h' : l[i]? = some r := by simpa using h
    have e : (i + 1) * 4 + j = (nxC x).length + (i * 4 + j) := by rw [nxC_len]; omega
    simp only [nxsC, List.flatMap_cons]
    rw [e, List.getElem?_append_right (by omega), Nat.add_sub_cancel_left]
    exact nxsC_at l i r h' j v hv
theorem nxsC_app (a b : List Nx) : nxsC (a ++ b) = nxsC a ++ nxsC b := by simp [nxsC]
theorem nxsC_one' (x : Nx) : nxsC [x] = nxC x := by simp [nxsC]
structure NxOk (w : World) (S : Nat → Prop) (x : Nx) : Prop where
  bs : RdC w S 1 x.pb x.b.length (u8s x.b)
  is_ : RdC w S 1 x.pl x.l.length (idsV x.l)
  bl : x.b.length ≤ 1000000
  ll : x.l.length ≤ 1000000
  bc : x.b.length ≤ x.cb
  lc : x.l.length ≤ x.cl
  lm : x.cl ≤ 9223372036854775807
  bm : x.cb ≤ 9223372036854775807
  n1 : -9223372036854775808 ≤ x.n
  n2 : x.n ≤ 9223372036854775807
  by_ : ∀ y ∈ x.b, y < 256
structure Nods (w : World) (S : Nat → Prop) (A : Option Addr) (n c : Nat) (l : List Nx) : Prop where
  row : RdC w S 4 A n (nxsC l)
  ok : ∀ x ∈ l, NxOk w S x
  cap : n ≤ c ∧ c ≤ 9223372036854775807
section
variable {w w' : World} {S S' : Nat → Prop} {A : Option Addr} {n c B : Nat} {l : List Nx}
theorem Nods.n_ (h : Nods w S A n c l) : l.length = n := by
  have hl := h.row.1
  rw [nxsC_len] at hl
  omega
theorem NxOk.keep {x : Nx} (h : NxOk w S x) (hk : ∀ p : Addr, S p.block → w'.cell? p = w.cell? p) : NxOk w' S x := ⟨h.bs.keep hk, h.is_.keep hk, h.bl, h.ll, h.bc, h.lc, h.lm, h.bm, h.n1, h.n2, h.by_⟩
theorem NxOk.mono {x : Nx} (h : NxOk w S x) (hs : ∀ b, S b → S' b) : NxOk w S' x := ⟨h.bs.mono hs, h.is_.mono hs, h.bl, h.ll, h.bc, h.lc, h.lm, h.bm, h.n1, h.n2, h.by_⟩
theorem Nods.keep (h : Nods w S A n c l) (hk : ∀ p : Addr, S p.block → w'.cell? p = w.cell? p) : Nods w' S A n c l := ⟨h.row.keep hk, fun x hx => (h.ok x hx).keep hk, h.cap⟩
theorem Nods.mono (h : Nods w S A n c l) (hs : ∀ b, S b → S' b) : Nods w S' A n c l := ⟨h.row.mono hs, fun x hx => (h.ok x hx).mono hs, h.cap⟩
theorem Nods.only {r : Option Nat} (h : Nods w S A n c l) (hg : w.grownBy w' r) (hS : ∀ b, S b → b < w.heap.size ∧ some b ≠ r) : Nods w' S A n c l :=
  h.keep fun p hp => World.cell?_of_block (hg.block p.block (hS _ hp).1 (hS _ hp).2)
theorem Nods.be (h : Nods w S A n c l) (hS : ∀ b, S b → b < w.heap.size) (hb : Below w.heap.size w w') : Nods w' S A n c l := h.keep fun _ hp => hb.cell (hS _ hp)
theorem Nods.at_ (h : Nods w S A n c l) {i : Nat} {x : Nx} (hi : l[i]? = some x) :
    ∃ ad, A = some ad ∧ S ad.block ∧ (∀ j v, (nxC x)[j]? = some v → w.cell? ((ad.add (i * 4)).add j) = some v) ∧ NxOk w S x := by
  have hl := h.n_
  have hil : i < l.length := (List.getElem?_eq_some_iff.1 hi).1
  obtain ⟨ad, e, hb, hc⟩ := h.row.2 (by omega)
  exact ⟨ad, e, hb, fun j v hv => by rw [add_of_add]; exact hc _ _ (nxsC_at l i x hi j v hv), h.ok x (List.mem_of_getElem? hi)⟩
end
mutual
/-- The value at a place among nodes. -/
def Rep (all : List Nx) : Nat → Vc → Prop
  | i, .mk k n b l => ∃ x, all[i]? = some x ∧ x.k = k ∧ x.n = n ∧ x.b = b ∧ RepL all x.l l
def RepL (all : List Nx) : List Nat → List Vc → Prop
  | [], [] => True
  | [], _ :: _ => False
  | _ :: _, [] => False
  | i :: r, v :: s => Rep all i v ∧ RepL all r s
end
theorem RepL.app {all : List Nx} : ∀ {r : List Nat} {s : List Vc} {i : Nat} {v : Vc}, RepL all r s → Rep all i v → RepL all (r ++ [i]) (s ++ [v])
  | [], [], _, _, _, h => ⟨h, trivial⟩
  | [], _ :: _, _, _, h, _ => h.elim
  | _ :: _, [], _, _, h, _ => h.elim
  | _ :: _, _ :: _, _, _, h, h2 => ⟨h.1, RepL.app h.2 h2⟩
theorem RepL.len {all : List Nx} : ∀ {r : List Nat} {s : List Vc}, RepL all r s → r.length = s.length
  | [], [], _ => rfl
  | [], _ :: _, h => h.elim
  | _ :: _, [], h => h.elim
  | _ :: r, _ :: s, h => by simp [RepL.len (r := r) (s := s) h.2]
theorem RepL.at_ {all : List Nx} : ∀ {r : List Nat} {s : List Vc}, RepL all r s → ∀ {j : Nat} {v : Vc}, s[j]? = some v → ∃ i, r[j]? = some i ∧ Rep all i v
  | [], [], _, _, _, h => by simp at h
  | [], _ :: _, h, _, _, _ => h.elim
  | _ :: _, [], h, _, _, _ => h.elim
  | i :: r, v :: s, h, 0, _, hj => by simp at hj; subst hj; exact ⟨i, rfl, h.1⟩
  | i :: r, v :: s, h, j + 1, _, hj => by
    obtain ⟨i', h1, h2⟩ := RepL.at_ h.2 (by simpa using hj)
    exact ⟨i', by simpa using h1, h2⟩
theorem RepL.mono {all more : List Nx} : ∀ (r : List Nat) (s : List Vc), (∀ v ∈ s, ∀ i, Rep all i v → Rep (all ++ more) i v) → RepL all r s → RepL (all ++ more) r s
  | [], [], _, _ => trivial
  | [], _ :: _, _, h => h.elim
  | _ :: _, [], _, h => h.elim
  | i :: r, v :: s, hv, h => ⟨hv v (List.mem_cons_self ..) i h.1, RepL.mono r s (fun y hy => hv y (List.mem_cons_of_mem _ hy)) h.2⟩
theorem Rep.mono {all more : List Nx} (v : Vc) : ∀ i, Rep all i v → Rep (all ++ more) i v := by
  induction v using Vc.ind_ with
  | h k n b l ih =>
    intro i h
    rw [Rep] at h ⊢
    obtain ⟨x, h1, h2, h3, h4, h5⟩ := h
    exact ⟨x, by rw [List.getElem?_append_left (List.getElem?_eq_some_iff.1 h1).1]; exact h1, h2, h3, h4, RepL.mono _ _ ih h5⟩
mutual
def cntV : Vc → Nat
  | .mk _ _ _ l => cntL l + 1
def cntL : List Vc → Nat
  | [] => 0
  | x :: r => cntV x + cntL r
end
theorem cntL_app : ∀ l m : List Vc, cntL (l ++ m) = cntL l + cntL m
  | [], m => by simp [cntL]
  | x :: r, m => by show cntL (x :: (r ++ m)) = _; rw [cntL, cntL_app r m, cntL]; omega
theorem cntL_le : ∀ {l : List Vc}, (∀ x ∈ l, cntV x ≤ (encV x).length) → cntL l ≤ (encL l).length
  | [], _ => Nat.zero_le _
  | x :: r, h => by
    have h1 := h x (List.mem_cons_self ..)
    have h2 := cntL_le fun y hy => h y (List.mem_cons_of_mem _ hy)
    rw [cntL, encL, List.length_append]; omega
theorem cnt_le (v : Vc) : allV v = true → cntV v ≤ (encV v).length := by
  induction v using Vc.ind_ with
  | h k n b l ih =>
    intro h
    have h0 := h
    simp only [allV, Bool.and_eq_true] at h
    rcases kind_zero h.1 with rfl | rfl | rfl
    · rw [cntV, kind_leaf h.1 (by decide), cntL]; exact enc_pos (by rw [← kind_leaf h.1 (by decide)]; exact h0)
    · rw [cntV, kind_leaf h.1 (by decide), cntL]; exact enc_pos (by rw [← kind_leaf h.1 (by decide)]; exact h0)
    · have h2 := cntL_le fun x hx => ih x hx (allL_mem h.2 x hx)
      rw [cntV, encV, if_neg (by decide), if_neg (by decide), if_pos rfl]
      simp; omega
theorem nxSize : (Tryd.prog.info? 70).map (·.size) = some 4 := by kernel_rfl
theorem nxInfo : (Tryd.prog.info? 70).map (fun i => (i.zero, i.size, i.bytes)) = some (some (.agg #[.int .i64 0, .int .i64 0, .slice none 0 0, .slice none 0 0]), 4, 64) := by kernel_rfl
theorem intInfo : (Tryd.prog.info? 3).map (fun i => (i.zero, i.size, i.bytes)) = some (some (.int .i64 0), 1, 8) := by kernel_rfl

theorem cntL_take (l : List Vx) (j : Nat) : cntL (vsOf l) = cntL (vsOf (l.take j)) + cntL (vsOf (l.drop j)) := by
  rw [← cntL_app, ← vsOf_app, List.take_append_drop]
theorem nodes_end {w wd w9 : World} {S T : Nat → Prop} {Aq A9 Am pb : Option Addr} {q cq c9 cm cb bl i : Nat} {all : List Nx} {k n0 : Int} {b ids : List Nat} {ln cl : Nat} (hwd : Below w.heap.size w wd) (hb : Below wd.heap.size wd w9) (hall : Nods wd T Aq q cq all) (hT : ∀ g, T g → S g ∨ (w.heap.size ≤ g ∧ g < wd.heap.size))
    (hS : ∀ g, S g → g < w.heap.size) (hB : RdC w S 1 pb bl (u8s b)) (hbl : b.length = bl) (hn : VxNum k n0 b cb ln cl) (ho : wd.ownsRow w.heap.size 3 1 (.slice Am i cm) i (idsV ids)) (hil : ids.length = i) (him : i ≤ 1000000)
    (h9 : w9.ownsRow wd.heap.size 70 4 (.slice A9 (q + 1) c9) (q + 1) (nxsC all ++ nxC ⟨k, n0, pb, b, cb, Am, ids, cm⟩)) :
    Nods w9 (fun g => S g ∨ (w.heap.size ≤ g ∧ g < w9.heap.size)) A9 (q + 1) c9 (all ++ [⟨k, n0, pb, b, cb, Am, ids, cm⟩]) ∧ Below w.heap.size w w9 := by
  have hE := hwd.trans (hb.mono hwd.size)
  have hz1 := hwd.size
  have hz2 := hb.size
  have hTl : ∀ g, T g → g < wd.heap.size := fun g hg => by
    rcases hT g hg with h | h
    · have := hS g h; omega
    · exact h.2
  refine ⟨⟨by rw [nxsC_app, nxsC_one']; exact RdC.own h9 fun g _ h1 h2 => .inr ⟨by omega, h2⟩, fun x hx => ?_, ownCapS h9⟩, hE⟩
  rcases List.mem_append.1 hx with hx | hx
  · exact ((hall.ok x hx).keep fun p hp => hb.cell (hTl _ hp)).mono fun g hg => by
      rcases hT g hg with h | h
      · exact .inl h
      · exact .inr ⟨h.1, by omega⟩
  · obtain rfl : x = _ := by simpa using hx
    subst hbl hil
    refine ⟨(hB.keep fun p hp => hE.cell (hS _ hp)).mono fun g hg => .inl hg, ?_, hn.bl, him, hn.bc.1, (ownCapS ho).1, (ownCapS ho).2, hn.bc.2, hn.n1, hn.n2, hn.by_⟩
    exact RdC.own (own_below ho hb) fun g e h1 h2 => .inr ⟨h1, h2⟩
def NodPost (w : World) (S : Nat → Prop) (all : List Nx) (v : Vc) (e : Ending) (w' : World) : Prop :=
  ∃ (A : Option Addr) (n c : Nat) (more : List Nx), e = .returned (.tuple #[.slice A (n + 1) c, .int .i64 n]) ∧ Nods w' (fun g => S g ∨ (w.heap.size ≤ g ∧ g < w'.heap.size)) A (n + 1) c (all ++ more) ∧ n + 1 = all.length + cntV v ∧ Rep (all ++ more) n v ∧ Below w.heap.size w w'

set_option maxRecDepth 100000 in
set_option maxHeartbeats 4000000 in
theorem nodes_any (x : Vx) : ∀ (S : Nat → Prop) (A : Option Addr) (n c : Nat) (all : List Nx) (w : World), (∀ g, S g → g < w.heap.size) → VxOk w S x → Nods w S A n c all → n + cntV x.v ≤ 100000 →
    Calls Tryd.prog 15 #[.slice A n c, .agg (vxC x).toArray] w (NodPost w S all x.v) := by
  induction x using Vx.ind_ with
  | h k n0 pb b cb pl l cl ih =>
    intro S A n c all w hS0 hx hN hcnt
    have hv : (Vx.mk k n0 pb b cb pl l cl).v = .mk k n0 b (vsOf l) := rfl
    rw [hv] at hcnt ⊢
    have HVX := Sl.mk (VxOk.iff.1 hx).2.2.2
    have HBS := Sl.mk (VxOk.iff.1 hx).1
    have HS0 := Sl.mk hS0
    obtain ⟨hb, hl, hNum⟩ := (VxOk.mono hS0 _ hx : VxIn w _).parts
    clear hS0
    obtain ⟨bl, hbl⟩ : ∃ bl, b.length = bl := ⟨_, rfl⟩
    obtain ⟨ll, hlle⟩ : ∃ ll, l.length = ll := ⟨_, rfl⟩
    have HNUM := Sl.mk hNum
    have hll := hNum.ll
    have hlc := hNum.lc
    rw [vxC_mk]
    rw [hbl] at hb
    rw [hlle] at hl hll hlc
    rw [hbl, hlle]
    have HBL := Sl.mk hbl
    have HLL := Sl.mk hlle
    have HB := Sl.mk hb
    have HL := Sl.mk hl
    have HN := Sl.mk hN
    have HCNT := Sl.mk hcnt
    have HIH := Sl.mk ih
    have hB0 := below_al (Below.refl w.heap.size w) (.cells #[.int .i64 k, .int .i64 n0, .slice pb bl cb, .slice pl ll cl] 26)
    have hX0 := Blk.new w 26 #[.int .i64 k, .int .i64 n0, .slice pb bl cb, .slice pl ll cl]
    clear hx hN hcnt hv hb hl hNum hbl hlle ih
    obtain ⟨w0, hw0⟩ : ∃ w0, w.alloc (.cells #[.int .i64 k, .int .i64 n0, .slice pb bl cb, .slice pl ll cl] 26) = w0 := ⟨_, rfl⟩
    rw [hw0] at hB0 hX0
    have HW0 := Sl.mk hw0
    clear hw0
    obtain ⟨u0, hu0, hu1, hu2, hu3⟩ := info_parts intInfo
    obtain ⟨i0, hi0, hz0, hz1, hz2⟩ := info_parts nxInfo
    have HU := Sl.mk (And.intro hu0 (And.intro hu1 (And.intro hu2 hu3)))
    have HINF := Sl.mk (And.intro hi0 (And.intro hz0 (And.intro hz1 hz2)))
    clear hu0 hu1 hu2 hu3 hi0 hz0 hz1 hz2
    go_enter Tryd.func15, Tryd.ntmps15
    go_wp2_with fail
    rw [HW0.out]
    go_loopw [0, 6, 7] (fun v0 v6 v7 wr => ∃ (i q cq : Nat) (Aq : Option Addr) (m cm : Nat) (Am : Option Addr) (more : List Nx) (ids : List Nat), i ≤ ll ∧ v7 = .int .i64 i ∧ v6 = .slice Am i cm ∧ v0 = .slice Aq q cq ∧ m = i ∧ Blk wr w.heap.size 26 #[.int .i64 k, .int .i64 n0, .slice pb bl cb, .slice pl ll cl] ∧ Below w.heap.size w wr ∧
      Sl (Nods wr (fun g => S g ∨ (w.heap.size ≤ g ∧ g < wr.heap.size ∧ some g ≠ Value.ownBlock (.slice Am i cm))) Aq q cq (all ++ more) ∧ q = n + cntL (vsOf (l.take i)) ∧ wr.ownsRow w.heap.size 3 1 (.slice Am i cm) i (idsV ids) ∧ RepL (all ++ more) ids (vsOf (l.take i)) ∧ w0.heap.size ≤ wr.heap.size)) (fun _ _ v7 _ => ll - (intOf v7).toNat)
    case atStart => exact ⟨0, n, c, A, 0, 0, none, [], [], Nat.zero_le _, rfl, rfl, rfl, rfl, hX0, hB0, ⟨by rw [List.append_nil]; exact (HN.out.be HS0.out hB0).mono fun g hg => .inl hg, rfl, World.ownsRow_nil _ _ _ _, trivial, Nat.le_refl _⟩⟩
    case round =>
      obtain ⟨i, q, cq, Aq, m, cm, Am, more, ids, hi, rfl, rfl, rfl, -, hX, hB, HS⟩ := hrel
      have c3 := hX.cell 3
      by_cases hil : i < ll
      · obtain ⟨x, hx⟩ : ∃ x, l[i]? = some x := ⟨_, List.getElem?_eq_getElem (by rw [HLL.out]; exact hil)⟩
        obtain ⟨ad, hpl, hadb, hld, hok⟩ := (HL.out.be hB).at_ hx
        subst hpl
        obtain ⟨hNq, hq, hown, hrep, hwr0⟩ := HS.out
        have hct := cntL_take l (i + 1)
        rw [take_one hx, vsOf_app, cntL_app] at hct
        have hcx : cntL (vsOf [x]) = cntV x.v := by simp [vsOf, cntL]
        rw [hcx] at hct
        have hcn := HCNT.out
        rw [cntV] at hcn
        have hmem := List.mem_of_getElem? hx
        have HC := Sl.mk (HIH.out x hmem _ Aq q cq (all ++ more) wr (fun g hg => hg.elim (fun h => by have := HS0.out g h; have := hB.size; omega) (fun h => h.2.1)) (VxOk.mono (fun g hg => .inl hg) _ (VxOk.keep (fun p hp => hB.cell (HS0.out _ hp)) _ (HVX.out x hmem))) hNq (by omega))
        have HNL := Sl.mk hNq.n_
        have HXI := Sl.mk hx
        have HQ := Sl.mk hq
        have HOWN := Sl.mk hown
        have HREP := Sl.mk hrep
        have HCX := Sl.mk hcx
        have hwi : IntKind.i64.wrap (i : Int) = (i : Int) := IntWalk.i64_in _ (by omega)
        have hsw := hB.size
        obtain ⟨k', n', pb', b', cb', pl', l2, cl'⟩ := x
        rw [vxC_mk] at *
        clear hx hmem hok hNq hq hown hrep hct hcx hcn HS hadb
        go_wp2_with (refine ld_vxl hld rfl (.tmp 22) rfl rfl ?_)
        refine HC.out.mono ?_
        rintro e w2 ⟨A2, n2, c2, more2, rfl, hN2, hn2, hR2, hB2⟩
        have hX2 := hX.be hB2
        have hE2 := hB.trans (hB2.mono hB.size)
        have hs2 := hB2.size
        have hba := below_al (Below.refl w2.heap.size w2) (.cells #[.int .i64 n2] 3)
        have hown3 := own_below (own_below HOWN.out hB2) hba
        have hRi : Reads (w2.alloc (.cells #[.int .i64 n2] 3)) (w2.heap.size + 1) 1 (some ⟨w2.heap.size, 0, none⟩) 1 (idsV [n2]) := ⟨rfl, fun _ => ⟨_, rfl, Nat.lt_succ_self _, fun j u hu => by rw [ad_zero, (Blk.new _ _ _).cell j]; simpa [idsV] using hu⟩⟩
        have hn2' : n2 + 1 = q + cntV (Vx.mk k' n' pb' b' cb' pl' l2 cl').v := by
          have h1 := HQ.out
          rw [HNL.out] at hn2; exact hn2
        have HN2 := Sl.mk hN2
        have HN2' := Sl.mk hn2'
        have HR2 := Sl.mk hR2
        obtain ⟨hz0, hz1, hz2, hz3⟩ := HU.out
        clear hN2 hn2 hn2' hR2 hX hB hld hB2 c3 HC HIH
        go_wp2_with (at_builtin; refine wpList_append_any _ rfl (.tmp 28) (.tmp 30) 38 rfl w.heap.size 3 u0 (.int .i64 0) 1 8 Tryd.underlying38 hz0 hz1 hz2 hz3 rfl (by decide) _ i (idsV ids) rfl hown3 (w2.heap.size + 1) _ 1 1 (idsV [n2]) rfl hRi (idsV_one _) (by unfold maxLen; omega) (by omega) (by simp; omega) ?_)
        intro v5 w5 ho5 hg5 hv5
        obtain ⟨A5, c5, rfl⟩ := ownForm ho5
        have hown0 : ∀ g, Value.ownBlock (.slice Am i cm) = some g → w.heap.size ≤ g := fun g e => ownGe hown3 e
        have hX5 := (hX2.be hba).grown hg5 (fun e => own_blk_ne hown3 (hX2.be hba) (by decide) e.symm)
        have hE5 := (hE2.trans (hba.mono (by omega))).grown hg5 (by simp; omega) hown0
        have hwe : (w2.alloc (.cells #[.int .i64 n2] 3)).heap.size = w2.heap.size + 1 := by simp
        have hs5 := hg5.size
        have HF := Sl.mk (show Nods w5 (fun g => S g ∨ (w.heap.size ≤ g ∧ g < w5.heap.size ∧ some g ≠ Value.ownBlock (.slice A5 (i + 1) c5))) A2 (n2 + 1) c2 (all ++ (more ++ more2)) ∧ n2 + 1 = n + cntL (vsOf (l.take (i + 1))) ∧ w5.ownsRow w.heap.size 3 1 (.slice A5 (i + 1) c5) (i + 1) (idsV (ids ++ [n2])) ∧ RepL (all ++ (more ++ more2)) (ids ++ [n2]) (vsOf (l.take (i + 1))) ∧ w0.heap.size ≤ w5.heap.size by
          rw [← List.append_assoc]
          have hsub : ∀ g, ((S g ∨ (w.heap.size ≤ g ∧ g < wr.heap.size ∧ some g ≠ Value.ownBlock (.slice Am i cm))) ∨ (wr.heap.size ≤ g ∧ g < w2.heap.size)) → g < w2.heap.size ∧ some g ≠ Value.ownBlock (.slice Am i cm) ∧ (S g ∨ w.heap.size ≤ g) := fun g hg => by
            rcases hg with (h | h) | h
            · have h1 := HS0.out g h
              exact ⟨by omega, fun e => by have := hown0 g e.symm; omega, .inl h⟩
            · exact ⟨by omega, h.2.2, .inr h.1⟩
            · exact ⟨h.2, fun e => by have := (HOWN.out.lt g e.symm).2; omega, .inr (by omega)⟩
          refine ⟨?_, ?_, ?_, ?_, by omega⟩
          · have h1 := HN2.out.keep (w' := w2.alloc (.cells #[.int .i64 n2] 3)) fun p hp => hba.cell (hsub _ hp).1
            have h2 := h1.only hg5 fun g hg => ⟨by have := (hsub g hg).1; omega, (hsub g hg).2.1⟩
            refine h2.mono fun g hg => ?_
            have h3 := hsub g hg
            rcases h3.2.2 with h | h
            · exact .inl h
            · refine .inr ⟨h, by omega, ?_⟩
              rcases hv5 with e | e
              · rw [e]; exact h3.2.1
              · rw [e]; intro e2; injection e2; omega
          · rw [HN2'.out, HQ.out, take_one HXI.out, vsOf_app, cntL_app, HCX.out, Nat.add_assoc]
          · rw [show idsV (ids ++ [n2]) = idsV ids ++ idsV [n2] by simp [idsV]]; exact ho5
          · rw [take_one HXI.out, vsOf_app]
            exact RepL.app (RepL.mono _ _ (fun v _ => Rep.mono v) HREP.out) HR2.out)
        clear hX2 hE2 hba hown3 hRi hz0 hz1 hz2 hz3 ho5 hg5 hv5 hown0 hwe hs5
        go_wp2_with fail
        go_roundw
        case rel => exact ⟨i + 1, n2 + 1, c2, A2, i + 1, c5, A5, more ++ more2, ids ++ [n2], by omega, by go_num, rfl, rfl, rfl, hX5, hE5, HF⟩
        case measure => simp [intOf]; omega
      · obtain rfl : i = ll := by omega
        obtain ⟨hNq, hq, hown, hrep, hwr0⟩ := HS.out
        rw [List.take_of_length_le (by rw [HLL.out]; omega)] at hq hrep
        have hcn := HCNT.out
        rw [cntV] at hcn
        have hrl := hrep.len
        rw [vsOf_len, HLL.out] at hrl
        have HIDL := Sl.mk hrl
        have HQ := Sl.mk hq
        have hq5 : q ≤ 100000 := by omega
        have HCQ := Sl.mk (show q + 1 = all.length + cntV (.mk k n0 b (vsOf l)) by rw [cntV, HN.out.n_, hq]; omega)
        have HREP := Sl.mk (show Rep ((all ++ more) ++ [⟨k, n0, pb, b, cb, Am, ids, cm⟩]) q (.mk k n0 b (vsOf l)) by
          have h1 := hNq.n_
          rw [Rep]
          exact ⟨⟨k, n0, pb, b, cb, Am, ids, cm⟩, by rw [List.getElem?_append_right (by omega), h1]; simp, rfl, rfl, rfl, RepL.mono _ _ (fun v _ => Rep.mono v) hrep⟩)
        have HCM := Sl.mk (show i ≤ 1000000 from hll)
        go_wp2_with fail
        obtain ⟨wd, hwd⟩ : ∃ wd, wr.drew = wd := ⟨_, rfl⟩
        have hXd : Blk wd w.heap.size 26 #[.int .i64 k, .int .i64 n0, .slice pb bl cb, .slice pl i cl] := by rw [← hwd]; exact hX.drew
        have HWD := Sl.mk (show Below w.heap.size w wd by rw [← hwd]; exact hB.drew)
        have HALL := Sl.mk (show Nods wd (fun g => S g ∨ (w.heap.size ≤ g ∧ g < wr.heap.size ∧ some g ≠ Value.ownBlock (.slice Am i cm))) Aq q cq (all ++ more) by rw [← hwd]; exact hNq.keep fun p hp => rfl)
        have HTS := Sl.mk (show ∀ g, (S g ∨ (w.heap.size ≤ g ∧ g < wr.heap.size ∧ some g ≠ Value.ownBlock (.slice Am i cm))) → S g ∨ (w.heap.size ≤ g ∧ g < wd.heap.size) from fun g hg => by rw [← hwd]; exact hg.elim (fun h => .inl h) (fun h => .inr ⟨h.1, h.2.1⟩))
        have HTL := Sl.mk (show ∀ g, (S g ∨ (w.heap.size ≤ g ∧ g < wr.heap.size ∧ some g ≠ Value.ownBlock (.slice Am i cm))) → g < wd.heap.size from fun g hg => by rw [← hwd]; exact hg.elim (fun h => by have := HS0.out g h; have := hB.size; show g < wr.heap.size; omega) (fun h => h.2.1))
        have HOWN := Sl.mk (show wd.ownsRow w.heap.size 3 1 (.slice Am i cm) i (idsV ids) by rw [← hwd]; exact own_below hown (Below.refl _ _).drew)
        have HSF : Sl (∀ W, Below wd.heap.size wd W → (W.cell? ⟨w.heap.size, 0, none⟩ = some (.int .i64 k) ∧ W.cell? ⟨w.heap.size, 1, none⟩ = some (.int .i64 n0) ∧ W.cell? ⟨w.heap.size, 2, none⟩ = some (.slice pb bl cb))) := Sl.mk (fun W hW => ⟨(hXd.be hW).cell 0, (hXd.be hW).cell 1, (hXd.be hW).cell 2⟩)
        have hqc : q ≤ cq ∧ cq ≤ 9223372036854775807 := hNq.cap
        clear HS hNq hq hown hrep hcn hrl hX hB c3 hXd
        refine wp_region_X (fun W => Below wd.heap.size wd W) [12, 13] (by kernel_rfl) (by rw [hwd]; exact Below.refl _ _) (fun hb_wd => ?_)
        rw [hwd] at hb_wd ⊢
        clear hwd
        have hS := hb_wd
        refine wpAnyX_S (i := 1) (v := ?_) rfl (by kernel_rfl) (by kernel_rfl) (by kernel_rfl) (by kernel_rfl) (fun _ _ _ h => h) (Or.inl ⟨by rfl, ?_⟩) hS ?_
        rotate_left 1
        · (intro w' hw'; (first | rw [hw'] | (have hw2 := HSF.out w' hw') | skip); go_simp; (try with_reducible rfl))
        simp only [Act.put, List.setIfInBounds_toArray, List.set_cons_zero, List.set_cons_succ]
        refine wpAnyX_S (i := 3) (v := ?_) rfl (by kernel_rfl) (by kernel_rfl) (by kernel_rfl) (by kernel_rfl) (fun _ _ _ h => h) (Or.inl ⟨by rfl, ?_⟩) hS ?_
        rotate_left 1
        · (intro w' hw'; (first | rw [hw'] | (have hw2 := HSF.out w' hw') | skip); go_simp; (try with_reducible rfl))
        simp only [Act.put, List.setIfInBounds_toArray, List.set_cons_zero, List.set_cons_succ]
        refine wpAnyX_S (i := 4) (v := ?_) rfl (by kernel_rfl) (by kernel_rfl) (by kernel_rfl) (by kernel_rfl) (fun _ _ _ h => h) (Or.inl ⟨by rfl, ?_⟩) hS ?_
        rotate_left 1
        · (intro w' hw'; (first | rw [hw'] | (have hw2 := HSF.out w' hw') | skip); go_simp; (try with_reducible rfl))
        simp only [Act.put, List.setIfInBounds_toArray, List.set_cons_zero, List.set_cons_succ]
        refine wpAnyX_S (i := 5) (v := ?_) rfl (by kernel_rfl) (by kernel_rfl) (by kernel_rfl) (by kernel_rfl) (fun _ _ _ h => h) (Or.inl ⟨by rfl, ?_⟩) hS ?_
        rotate_left 1
        · (intro w' hw'; (first | rw [hw'] | (have hw2 := HSF.out w' hw') | skip); go_simp; (try with_reducible rfl))
        simp only [Act.put, List.setIfInBounds_toArray, List.set_cons_zero, List.set_cons_succ]
        refine wpAnyX_S (i := 6) (v := ?_) rfl (by kernel_rfl) (by kernel_rfl) (by kernel_rfl) (by kernel_rfl) (fun _ _ _ h => h) (Or.inl ⟨by rfl, ?_⟩) hS ?_
        rotate_left 1
        · (intro w' hw'; (first | rw [hw'] | (have hw2 := HSF.out w' hw') | skip); go_simp; (try with_reducible rfl))
        simp only [Act.put, List.setIfInBounds_toArray, List.set_cons_zero, List.set_cons_succ]
        refine wpAnyX_S (i := 7) (v := ?_) rfl (by kernel_rfl) (by kernel_rfl) (by kernel_rfl) (by kernel_rfl) (fun _ _ _ h => h) (Or.inl ⟨by rfl, ?_⟩) hS ?_
        rotate_left 1
        · (intro w' hw'; (first | rw [hw'] | (have hw2 := HSF.out w' hw') | skip); go_simp; (try with_reducible rfl))
        simp only [Act.put, List.setIfInBounds_toArray, List.set_cons_zero, List.set_cons_succ]
        refine wpAnyX_S (i := 8) (v := ?_) rfl (by kernel_rfl) (by kernel_rfl) (by kernel_rfl) (by kernel_rfl) (fun _ _ _ h => h) (Or.inl ⟨by rfl, ?_⟩) hS ?_
        rotate_left 1
        · (intro w' hw'; (first | rw [hw'] | (have hw2 := HSF.out w' hw') | skip); go_simp; (try with_reducible rfl))
        simp only [Act.put, List.setIfInBounds_toArray, List.set_cons_zero, List.set_cons_succ]
        refine wpAnyX_S (i := 9) (v := ?_) rfl (by kernel_rfl) (by kernel_rfl) (by kernel_rfl) (by kernel_rfl) (fun _ _ _ h => h) (Or.inl ⟨by rfl, ?_⟩) hS ?_
        rotate_left 1
        · (intro w' hw'; (first | rw [hw'] | (have hw2 := HSF.out w' hw') | skip); go_simp; (try with_reducible rfl))
        simp only [Act.put, List.setIfInBounds_toArray, List.set_cons_zero, List.set_cons_succ]
        refine wpAnyX_S (i := 10) (v := ?_) rfl (by kernel_rfl) (by kernel_rfl) (by kernel_rfl) (by kernel_rfl) (fun _ _ _ h => h) (Or.inl ⟨by rfl, ?_⟩) hS ?_
        rotate_left 1
        · (intro w' hw'; (first | rw [hw'] | (have hw2 := HSF.out w' hw') | skip); go_simp; (try with_reducible rfl))
        simp only [Act.put, List.setIfInBounds_toArray, List.set_cons_zero, List.set_cons_succ]
        refine wpAnyX_twoL (i := 0) (j := 11) rfl rfl (by kernel_rfl) rfl rfl ?_ ?_
        · refine wp_of_run (v := .slice (some ⟨wd.heap.size, 0, none⟩) 0 0) (w' := wd.alloc (.cells #[] 70)) (by go_simp) ⟨fun _ => hb_wd.alloc hb_wd.size _, ?_⟩
          simp only [Act.put, List.setIfInBounds_toArray, List.set_cons_zero, List.set_cons_succ]
          have hb_w1 : Below wd.heap.size wd (wd.alloc (.cells #[] 70)) := hb_wd.alloc hb_wd.size _
          have he_w1 := own_empty wd 70 4
          obtain ⟨ge, hge⟩ : ∃ ge, wd.heap.size = ge := ⟨_, rfl⟩
          have hgw : wd.heap.size ≤ ge := by rw [← hge]; exact hb_wd.size
          obtain ⟨w1, hww1⟩ : ∃ w1, wd.alloc (.cells #[] 70) = w1 := ⟨_, rfl⟩
          rw [hww1] at hb_w1 he_w1 ⊢
          have ege : (Value.slice (some ⟨wd.heap.size, 0, none⟩) 0 0) = .slice (some ⟨ge, 0, none⟩) 0 0 := by rw [hge]
          rw [ege]
          rw [hge] at he_w1
          have hgl : ge < w1.heap.size := (he_w1.lt ge rfl).2
          clear hge ege hww1
          refine wpAnyX_twoL (i := 2) (j := 11) rfl rfl (by kernel_rfl) rfl rfl ?_ ?_
          · obtain ⟨hz0, hz1, hz2, hz3⟩ := HINF.out
            have hrd := (HALL.out.keep (w' := w1) fun p hp => hb_w1.cell (HTL.out _ hp)).row.reads (B := w1.heap.size) (fun g hg => Nat.lt_of_lt_of_le (HTL.out g hg) hb_w1.size)
            refine wp_append_any w1 (.tmp 32) (.tmp 33) 44 rfl wd.heap.size 70 i0 (.agg #[.int .i64 0, .int .i64 0, .slice none 0 0, .slice none 0 0]) 4 64 Tryd.underlying44 hz0 hz1 hz2 hz3 rfl (by decide) _ 0 [] rfl (own_base he_w1 hgw) w1.heap.size Aq q cq (nxsC (all ++ more)) rfl hrd (nxsC_one _) (by unfold maxLen; omega) (by omega) hb_w1.size (fun v2 w2 ho_w2 hg_w2 hv2 => ?_)
            rw [Nat.zero_add, List.nil_append] at ho_w2
            obtain ⟨A2, c2, rfl⟩ := ownForm ho_w2
            have hb_w2 : Below wd.heap.size wd w2 := hb_w1.grown hg_w2 hb_w1.size (fun g e => by have e2 : some ge = some g := e; injection e2 with e2; omega)
            refine ⟨fun _ => hb_w2, ?_⟩
            simp only [Act.put, List.setIfInBounds_toArray, List.set_cons_zero, List.set_cons_succ]
            clear hz0 hz1 hz2 hz3 hrd
            refine wpAnyX_oneL (k := 11) rfl (by kernel_rfl) rfl ?_
            refine wp_of_run (v := .slice (some ⟨w2.heap.size, 0, none⟩) 1 1) (w' := w2.alloc (.cells #[.int .i64 k, .int .i64 n0, .slice pb bl cb, .slice Am i cm] 70)) (by go_simp) ⟨fun _ => hb_w2.alloc hb_w2.size _, ?_⟩
            simp only [Act.put, List.setIfInBounds_toArray, List.set_cons_zero, List.set_cons_succ]
            have hb_w3 : Below wd.heap.size wd (w2.alloc (.cells #[.int .i64 k, .int .i64 n0, .slice pb bl cb, .slice Am i cm] 70)) := hb_w2.alloc hb_w2.size _
            have hbb : Below w2.heap.size w2 (w2.alloc (.cells #[.int .i64 k, .int .i64 n0, .slice pb bl cb, .slice Am i cm] 70)) := below_al (Below.refl _ _) _
            have hn_w3 := Blk.new w2 70 #[.int .i64 k, .int .i64 n0, .slice pb bl cb, .slice Am i cm]
            obtain ⟨gn, hgn⟩ : ∃ gn, w2.heap.size = gn := ⟨_, rfl⟩
            obtain ⟨w3, hww3⟩ : ∃ w3, w2.alloc (.cells #[.int .i64 k, .int .i64 n0, .slice pb bl cb, .slice Am i cm] 70) = w3 := ⟨_, rfl⟩
            rw [hww3] at hb_w3 hbb hn_w3 ⊢
            have egn : (Value.slice (some ⟨w2.heap.size, 0, none⟩) 1 1) = .slice (some ⟨gn, 0, none⟩) 1 1 := by rw [hgn]
            rw [egn]
            rw [hgn] at hn_w3
            clear hgn egn hww3
            have ho_w3 := own_below ho_w2 hbb
            obtain ⟨hz0, hz1, hz2, hz3⟩ := HINF.out
            have hRn : Reads w3 w3.heap.size 4 (some ⟨gn, 0, none⟩) 1 (nxC ⟨k, n0, pb, b, cb, Am, ids, cm⟩) := ⟨rfl, fun _ => ⟨_, rfl, hn_w3.lt, fun j u hu => by rw [ad_zero, hn_w3.cell j]; unfold nxC at hu; simp only [HBL.out, HIDL.out] at hu; simpa using hu⟩⟩
            refine wpAnyX_tailF [12, 13] (by kernel_rfl) (by rfl) (by rfl) (by rfl) ?_
            simp only [List.filterMap_cons, List.filterMap_nil, List.getElem?_cons_succ, List.getElem?_cons_zero]
            refine wpList_append_any w3 rfl (.tmp 34) (.tmp 43) 44 rfl wd.heap.size 70 i0 (.agg #[.int .i64 0, .int .i64 0, .slice none 0 0, .slice none 0 0]) 4 64 Tryd.underlying44 hz0 hz1 hz2 hz3 rfl (by decide) _ q _ rfl ho_w3 w3.heap.size _ 1 1 (nxC ⟨k, n0, pb, b, cb, Am, ids, cm⟩) rfl hRn (nxC_one _) (by unfold maxLen; omega) (by omega) hb_w3.size ?_
            intro v9 w9 ho9 hg9 hv9
            obtain ⟨A9, c9, rfl⟩ := ownForm ho9
            have hb9 : Below wd.heap.size wd w9 := hb_w3.grown hg9 hb_w3.size (fun g e => (ho_w3.lt g e).1)
            have HF := Sl.mk (nodes_end (k := k) (n0 := n0) (pb := pb) (cb := cb) HWD.out hb9 HALL.out HTS.out HS0.out (by have h := HBS.out; rw [HBL.out] at h; exact h) HBL.out HNUM.out HOWN.out HIDL.out HCM.out ho9)
            clear hz0 hz1 hz2 hz3 hRn ho9 hg9 hv9 hb9
            go_wp2_with fail
            refine NoPanic.normal ?_
            go_wp2_with fail
            go_ret2
            exact ⟨A9, q, c9, more ++ [⟨k, n0, pb, b, cb, Am, ids, cm⟩], rfl, by rw [← List.append_assoc]; exact HF.out.1, HCQ.out, by rw [← List.append_assoc]; exact HREP.out, HF.out.2⟩
          · refine wp_of_run (v := .slice (some ⟨w1.heap.size, 0, none⟩) 1 1) (w' := w1.alloc (.cells #[.int .i64 k, .int .i64 n0, .slice pb bl cb, .slice Am i cm] 70)) (by go_simp) ⟨fun _ => hb_w1.alloc hb_w1.size _, ?_⟩
            simp only [Act.put, List.setIfInBounds_toArray, List.set_cons_zero, List.set_cons_succ]
            have hb_w2 : Below wd.heap.size wd (w1.alloc (.cells #[.int .i64 k, .int .i64 n0, .slice pb bl cb, .slice Am i cm] 70)) := hb_w1.alloc hb_w1.size _
            have hbb : Below w1.heap.size w1 (w1.alloc (.cells #[.int .i64 k, .int .i64 n0, .slice pb bl cb, .slice Am i cm] 70)) := below_al (Below.refl _ _) _
            have hn_w2 := Blk.new w1 70 #[.int .i64 k, .int .i64 n0, .slice pb bl cb, .slice Am i cm]
            obtain ⟨gn, hgn⟩ : ∃ gn, w1.heap.size = gn := ⟨_, rfl⟩
            obtain ⟨w2, hww2⟩ : ∃ w2, w1.alloc (.cells #[.int .i64 k, .int .i64 n0, .slice pb bl cb, .slice Am i cm] 70) = w2 := ⟨_, rfl⟩
            rw [hww2] at hb_w2 hbb hn_w2 ⊢
            have egn : (Value.slice (some ⟨w1.heap.size, 0, none⟩) 1 1) = .slice (some ⟨gn, 0, none⟩) 1 1 := by rw [hgn]
            rw [egn]
            rw [hgn] at hn_w2
            have hgnE := hgn
            clear hgn egn hww2
            have he_w2 := own_below he_w1 hbb
            have hgle : ge < gn := by rw [← hgnE]; exact hgl
            have hgl2 := hbb.size
            refine wpAnyX_oneL (k := 2) rfl (by kernel_rfl) rfl ?_
            obtain ⟨hz0, hz1, hz2, hz3⟩ := HINF.out
            have hrd := (HALL.out.keep (w' := w2) fun p hp => hb_w2.cell (HTL.out _ hp)).row.reads (B := w2.heap.size) (fun g hg => Nat.lt_of_lt_of_le (HTL.out g hg) hb_w2.size)
            refine wp_append_any w2 (.tmp 32) (.tmp 33) 44 rfl wd.heap.size 70 i0 (.agg #[.int .i64 0, .int .i64 0, .slice none 0 0, .slice none 0 0]) 4 64 Tryd.underlying44 hz0 hz1 hz2 hz3 rfl (by decide) _ 0 [] rfl (own_base he_w2 hgw) w2.heap.size Aq q cq (nxsC (all ++ more)) rfl hrd (nxsC_one _) (by unfold maxLen; omega) (by omega) hb_w2.size (fun v2 w3 ho_w3 hg_w3 hv2 => ?_)
            rw [Nat.zero_add, List.nil_append] at ho_w3
            obtain ⟨A2, c2, rfl⟩ := ownForm ho_w3
            have hb_w3 : Below wd.heap.size wd w3 := hb_w2.grown hg_w3 hb_w2.size (fun g e => by have e2 : some ge = some g := e; injection e2 with e2; omega)
            refine ⟨fun _ => hb_w3, ?_⟩
            simp only [Act.put, List.setIfInBounds_toArray, List.set_cons_zero, List.set_cons_succ]
            clear hz0 hz1 hz2 hz3 hrd
            have hn_w3 := hn_w2.grown hg_w3 (fun e => by have e2 : some gn = some ge := e; injection e2 with e2; have := hgle; omega)
            obtain ⟨hz0, hz1, hz2, hz3⟩ := HINF.out
            have hRn : Reads w3 w3.heap.size 4 (some ⟨gn, 0, none⟩) 1 (nxC ⟨k, n0, pb, b, cb, Am, ids, cm⟩) := ⟨rfl, fun _ => ⟨_, rfl, hn_w3.lt, fun j u hu => by rw [ad_zero, hn_w3.cell j]; unfold nxC at hu; simp only [HBL.out, HIDL.out] at hu; simpa using hu⟩⟩
            refine wpAnyX_tailF [12, 13] (by kernel_rfl) (by rfl) (by rfl) (by rfl) ?_
            simp only [List.filterMap_cons, List.filterMap_nil, List.getElem?_cons_succ, List.getElem?_cons_zero]
            refine wpList_append_any w3 rfl (.tmp 34) (.tmp 43) 44 rfl wd.heap.size 70 i0 (.agg #[.int .i64 0, .int .i64 0, .slice none 0 0, .slice none 0 0]) 4 64 Tryd.underlying44 hz0 hz1 hz2 hz3 rfl (by decide) _ q _ rfl ho_w3 w3.heap.size _ 1 1 (nxC ⟨k, n0, pb, b, cb, Am, ids, cm⟩) rfl hRn (nxC_one _) (by unfold maxLen; omega) (by omega) hb_w3.size ?_
            intro v9 w9 ho9 hg9 hv9
            obtain ⟨A9, c9, rfl⟩ := ownForm ho9
            have hb9 : Below wd.heap.size wd w9 := hb_w3.grown hg9 hb_w3.size (fun g e => (ho_w3.lt g e).1)
            have HF := Sl.mk (nodes_end (k := k) (n0 := n0) (pb := pb) (cb := cb) HWD.out hb9 HALL.out HTS.out HS0.out (by have h := HBS.out; rw [HBL.out] at h; exact h) HBL.out HNUM.out HOWN.out HIDL.out HCM.out ho9)
            clear hz0 hz1 hz2 hz3 hRn ho9 hg9 hv9 hb9
            go_wp2_with fail
            refine NoPanic.normal ?_
            go_wp2_with fail
            go_ret2
            exact ⟨A9, q, c9, more ++ [⟨k, n0, pb, b, cb, Am, ids, cm⟩], rfl, by rw [← List.append_assoc]; exact HF.out.1, HCQ.out, by rw [← List.append_assoc]; exact HREP.out, HF.out.2⟩
        · refine wp_of_run (v := .slice (some ⟨wd.heap.size, 0, none⟩) 1 1) (w' := wd.alloc (.cells #[.int .i64 k, .int .i64 n0, .slice pb bl cb, .slice Am i cm] 70)) (by go_simp) ⟨fun _ => hb_wd.alloc hb_wd.size _, ?_⟩
          simp only [Act.put, List.setIfInBounds_toArray, List.set_cons_zero, List.set_cons_succ]
          have hb_w1 : Below wd.heap.size wd (wd.alloc (.cells #[.int .i64 k, .int .i64 n0, .slice pb bl cb, .slice Am i cm] 70)) := hb_wd.alloc hb_wd.size _
          have hbb : Below wd.heap.size wd (wd.alloc (.cells #[.int .i64 k, .int .i64 n0, .slice pb bl cb, .slice Am i cm] 70)) := below_al (Below.refl _ _) _
          have hn_w1 := Blk.new wd 70 #[.int .i64 k, .int .i64 n0, .slice pb bl cb, .slice Am i cm]
          obtain ⟨gn, hgn⟩ : ∃ gn, wd.heap.size = gn := ⟨_, rfl⟩
          obtain ⟨w1, hww1⟩ : ∃ w1, wd.alloc (.cells #[.int .i64 k, .int .i64 n0, .slice pb bl cb, .slice Am i cm] 70) = w1 := ⟨_, rfl⟩
          rw [hww1] at hb_w1 hbb hn_w1 ⊢
          have egn : (Value.slice (some ⟨wd.heap.size, 0, none⟩) 1 1) = .slice (some ⟨gn, 0, none⟩) 1 1 := by rw [hgn]
          rw [egn]
          rw [hgn] at hn_w1
          clear hgn egn hww1
          have hgn1 := hn_w1.lt
          refine wpAnyX_oneL (k := 0) rfl (by kernel_rfl) rfl ?_
          refine wp_of_run (v := .slice (some ⟨w1.heap.size, 0, none⟩) 0 0) (w' := w1.alloc (.cells #[] 70)) (by go_simp) ⟨fun _ => hb_w1.alloc hb_w1.size _, ?_⟩
          simp only [Act.put, List.setIfInBounds_toArray, List.set_cons_zero, List.set_cons_succ]
          have hb_w2 : Below wd.heap.size wd (w1.alloc (.cells #[] 70)) := hb_w1.alloc hb_w1.size _
          have he_w2 := own_empty w1 70 4
          obtain ⟨ge, hge⟩ : ∃ ge, w1.heap.size = ge := ⟨_, rfl⟩
          have hgw : wd.heap.size ≤ ge := by rw [← hge]; exact hb_w1.size
          have hgne : gn < ge := by rw [← hge]; exact hgn1
          have hbe : Below w1.heap.size w1 (w1.alloc (.cells #[] 70)) := below_al (Below.refl _ _) _
          obtain ⟨w2, hww2⟩ : ∃ w2, w1.alloc (.cells #[] 70) = w2 := ⟨_, rfl⟩
          rw [hww2] at hb_w2 he_w2 hbe ⊢
          have ege : (Value.slice (some ⟨w1.heap.size, 0, none⟩) 0 0) = .slice (some ⟨ge, 0, none⟩) 0 0 := by rw [hge]
          rw [ege]
          rw [hge] at he_w2
          have hgl : ge < w2.heap.size := (he_w2.lt ge rfl).2
          clear hge ege hww2
          refine wpAnyX_oneL (k := 2) rfl (by kernel_rfl) rfl ?_
          obtain ⟨hz0, hz1, hz2, hz3⟩ := HINF.out
          have hrd := (HALL.out.keep (w' := w2) fun p hp => hb_w2.cell (HTL.out _ hp)).row.reads (B := w2.heap.size) (fun g hg => Nat.lt_of_lt_of_le (HTL.out g hg) hb_w2.size)
          refine wp_append_any w2 (.tmp 32) (.tmp 33) 44 rfl wd.heap.size 70 i0 (.agg #[.int .i64 0, .int .i64 0, .slice none 0 0, .slice none 0 0]) 4 64 Tryd.underlying44 hz0 hz1 hz2 hz3 rfl (by decide) _ 0 [] rfl (own_base he_w2 hgw) w2.heap.size Aq q cq (nxsC (all ++ more)) rfl hrd (nxsC_one _) (by unfold maxLen; omega) (by omega) hb_w2.size (fun v2 w3 ho_w3 hg_w3 hv2 => ?_)
          rw [Nat.zero_add, List.nil_append] at ho_w3
          obtain ⟨A2, c2, rfl⟩ := ownForm ho_w3
          have hb_w3 : Below wd.heap.size wd w3 := hb_w2.grown hg_w3 hb_w2.size (fun g e => by have e2 : some ge = some g := e; injection e2 with e2; omega)
          refine ⟨fun _ => hb_w3, ?_⟩
          simp only [Act.put, List.setIfInBounds_toArray, List.set_cons_zero, List.set_cons_succ]
          clear hz0 hz1 hz2 hz3 hrd
          have hn_w3 := (hn_w1.be hbe).grown hg_w3 (fun e => by have e2 : some gn = some ge := e; injection e2 with e2; omega)
          obtain ⟨hz0, hz1, hz2, hz3⟩ := HINF.out
          have hRn : Reads w3 w3.heap.size 4 (some ⟨gn, 0, none⟩) 1 (nxC ⟨k, n0, pb, b, cb, Am, ids, cm⟩) := ⟨rfl, fun _ => ⟨_, rfl, hn_w3.lt, fun j u hu => by rw [ad_zero, hn_w3.cell j]; unfold nxC at hu; simp only [HBL.out, HIDL.out] at hu; simpa using hu⟩⟩
          refine wpAnyX_tailF [12, 13] (by kernel_rfl) (by rfl) (by rfl) (by rfl) ?_
          simp only [List.filterMap_cons, List.filterMap_nil, List.getElem?_cons_succ, List.getElem?_cons_zero]
          refine wpList_append_any w3 rfl (.tmp 34) (.tmp 43) 44 rfl wd.heap.size 70 i0 (.agg #[.int .i64 0, .int .i64 0, .slice none 0 0, .slice none 0 0]) 4 64 Tryd.underlying44 hz0 hz1 hz2 hz3 rfl (by decide) _ q _ rfl ho_w3 w3.heap.size _ 1 1 (nxC ⟨k, n0, pb, b, cb, Am, ids, cm⟩) rfl hRn (nxC_one _) (by unfold maxLen; omega) (by omega) hb_w3.size ?_
          intro v9 w9 ho9 hg9 hv9
          obtain ⟨A9, c9, rfl⟩ := ownForm ho9
          have hb9 : Below wd.heap.size wd w9 := hb_w3.grown hg9 hb_w3.size (fun g e => (ho_w3.lt g e).1)
          have HF := Sl.mk (nodes_end (k := k) (n0 := n0) (pb := pb) (cb := cb) HWD.out hb9 HALL.out HTS.out HS0.out (by have h := HBS.out; rw [HBL.out] at h; exact h) HBL.out HNUM.out HOWN.out HIDL.out HCM.out ho9)
          clear hz0 hz1 hz2 hz3 hRn ho9 hg9 hv9 hb9
          go_wp2_with fail
          refine NoPanic.normal ?_
          go_wp2_with fail
          go_ret2
          exact ⟨A9, q, c9, more ++ [⟨k, n0, pb, b, cb, Am, ids, cm⟩], rfl, by rw [← List.append_assoc]; exact HF.out.1, HCQ.out, by rw [← List.append_assoc]; exact HREP.out, HF.out.2⟩

end Go.Proofs.YtbnmbncjefnpiaaDoor
