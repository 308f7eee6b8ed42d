/-
  The contracts of Encode of no entries, and of the law's known.
  Entries at an address that is written out.
  The contracts of creelref05.Same, creelref12.Find, bytes.Equal, archive.same.
  The contracts of slices.EqualFunc at entries, archive.Same, creelref12.Same.
-/
import Derived.Test.YticcphppnmoogaaGreatDoorBy9
import Derived.Lib.SlBytesConst
import Derived.Lib.SmallJoins
import Derived.Test.YticcphppnmoogaaGreatDoorBy7

namespace Go.Proofs.YticcphppnmoogaaGreatDoor
open Go.RowKit
attribute [local go_sem ↓] Go.wp_at_zero Go.wp_at_succ

theorem ref_known : refusedE ⟨[⟨#[120]⟩], 2, 511, [46, 46, 47, 121]⟩ ([] : List Ex) = 10 := by decide +kernel
theorem check_nil {N : Nat} {E : Int} (h : CheckR [] N E) : N = 0 ∧ E = 0 := by
  rcases h with ⟨h, _⟩ | ⟨_, h, _, h2⟩
  · simp at h
  · have h0 : N = 0 := by simpa using h
    subst h0
    rcases h2 with ⟨_, h2⟩ | ⟨x, hx, _⟩
    · exact ⟨rfl, h2⟩
    · simp at hx
theorem check_known {x : Ex} (hx : refusedE x.e [] = 10) {N : Nat} {E : Int} (h : CheckR [x] N E) : N = 0 ∧ E = 10 := by
  rcases h with ⟨h, _⟩ | ⟨_, h, hz, h2⟩
  · simp at h
  · by_cases h0 : 0 < N
    · have := hz 0 x h0 rfl
      rw [show ([x] : List Ex).take 0 = [] from rfl, hx] at this
      cases this
    · obtain rfl : N = 0 := by omega
      rcases h2 with ⟨h2, _⟩ | ⟨y, hy, h2, _⟩
      · simp at h2
      · simp at hy
        subst hy
        exact ⟨rfl, by rw [h2]; exact hx⟩
theorem exs_nil (w : World) : Exs w none 0 [] := ⟨Reads.none_, fun x hx => by cases hx⟩
/-- A literal of bytes behind its conversion, and what is built behind it. -/
theorem mark_cells (w : World) (l : List Value) (t : TypeId) (fr : Nat × Nat) (o : Obj) : ∀ b, some (⟨w.heap.size, 0, none⟩ : Addr) = some b → ∀ j u, l[j]? = some u → ((w.alloc (.cells l.toArray t fr)).alloc o).cell? (b.add j) = some u := fun b hb j u hj => by
  rw [← Option.some.inj hb]
  have hadd : (⟨w.heap.size, 0, none⟩ : Addr).add j = ⟨w.heap.size, j, none⟩ := by unfold Addr.add; split <;> simp_all
  rw [hadd, World.cell?_alloc_lt _ _ _ (by simp), World.cell?_alloc_mark]
  simpa using hj
theorem new_cells (w : World) (v : Value) (t : TypeId) : ∀ j u, [v][j]? = some u → (w.alloc (.cells #[v] t)).cell? ((⟨w.heap.size, 0, none⟩ : Addr).add j) = some u := fun j u hj => by
  obtain ⟨ad, e, _, h⟩ := (reads_new1 w v t (Nat.lt_succ_self _)).2 (by omega)
  rw [Option.some.inj e]
  exact h j u hj

def EncNil (w : World) (e : Ending) (w' : World) : Prop := ∃ (A : Option Addr) (c : Nat), e = .returned (.tuple #[.slice A 5 c, .int .i64 0]) ∧ Reads w' w'.heap.size 1 A 5 (u8s [67, 82, 69, 76, 0]) ∧ Below w.heap.size w w'

set_option maxRecDepth 100000 in
set_option maxHeartbeats 2000000 in
theorem encode_nil (w : World) (hM : Mx w) : Calls Tryz.prog 12 #[.slice none 0 0] w (EncNil w) := by
  have HC := Sl.mk (acheck_any none 0 0 [] w (by omega) ⟨by omega, by omega⟩ (exs_nil w) hM)
  obtain ⟨j0, hj0, hy0, hy1, hy2⟩ := info_parts u8Info
  have kc := fun (w : World) (C : Array Value) (n c : Nat) => Lib.run_convert_bytes_const (P := Tryz.prog) w 22 5 C n c Tryz.underlying22 Tryz.underlying5
  unfold CheckPost at HC
  clear hM
  go_enter Tryz.func12, Tryz.ntmps12
  go_wp2_with fail
  refine HC.out.mono ?_
  rintro e w1 ⟨N, E, rfl, hR, hB⟩
  obtain ⟨rfl, rfl⟩ := check_nil hR
  clear hR
  have hmc := mark_cells w1 [.int .u8 67, .int .u8 82, .int .u8 69, .int .u8 76] 5 (4, 5) (.cells #[.int .u8 0] 5)
  have HMC := Sl.mk hmc
  have HNC := Sl.mk (new_cells (w1.alloc (.cells #[.int .u8 67, .int .u8 82, .int .u8 69, .int .u8 76] 5 (4, 5))) (.int .u8 0) 5)
  clear hmc
  go_wp2_with (at_builtin; refine wpList_append_grows _ rfl (.tmp 18) (.tmp 22) 22 rfl 5 j0 (.int .u8 0) 1 1 Tryz.underlying22 hj0 hy0 hy1 hy2 rfl (by decide) (some ⟨w1.heap.size, 0, none⟩) 4 4 [.int .u8 67, .int .u8 82, .int .u8 69, .int .u8 76] rfl (fun e => by cases e) rfl HMC.out ⟨w1.heap.size + 1, 0, none⟩ 1 1 [.int .u8 0] rfl rfl (by simpa using HNC.out) (by intro u hu; simp at hu; subst hu; rfl) (by omega) (by unfold maxLen; omega) (by omega) ?_)
  intro v2 w2 ho2 hg2
  obtain ⟨A2, c2, rfl⟩ := ownForm ho2
  have hE2 : Below w.heap.size w w2 := (below_al (below_al hB _) _).grown hg2 (by have := hB.size; simp; omega) (fun g hg => by cases hg)
  have HR2 := Sl.mk (Reads.of_own ho2)
  clear ho2 hg2 hB
  go_wp2_with fail
  refine wp_loop_rounds 1 ?_
  rw [rounds_succ]
  go_wp2_with fail
  go_ret2
  exact ⟨A2, c2, rfl, HR2.out, hE2⟩

def xK (w : World) : Ex := ⟨⟨[⟨#[120]⟩], 2, 511, [46, 46, 47, 121]⟩, some ⟨w.heap.size, 0, none⟩, 1, some ⟨w.heap.size + 1, 0, none⟩, 4⟩
theorem addr_add0 (g j : Nat) : (⟨g, 0, none⟩ : Addr).add j = ⟨g, j, none⟩ := by unfold Addr.add; split <;> simp_all
theorem known_exs (w : World) : Exs (((w.alloc (.cells #[.string ⟨#[120]⟩] 9)).alloc (.cells #[.int .u8 46, .int .u8 46, .int .u8 47, .int .u8 121] 5 (4, 5))).alloc (.cells #[.slice (some ⟨w.heap.size, 0, none⟩) 1 1, .int .i64 2, .int .i64 511, .slice (some ⟨w.heap.size + 1, 0, none⟩) 4 4] 40)) (some ⟨w.heap.size + 1 + 1, 0, none⟩) 1 [xK w] := by
  obtain ⟨w1, hw1⟩ : ∃ w1, w.alloc (.cells #[.string ⟨#[120]⟩] 9) = w1 := ⟨_, rfl⟩
  obtain ⟨w2, hw2⟩ : ∃ w2, w1.alloc (.cells #[.int .u8 46, .int .u8 46, .int .u8 47, .int .u8 121] 5 (4, 5)) = w2 := ⟨_, rfl⟩
  have s1 : w1.heap.size = w.heap.size + 1 := by rw [← hw1]; simp
  have s2 : w2.heap.size = w.heap.size + 1 + 1 := by rw [← hw2]; simp [s1]
  rw [hw1, hw2, ← s2]
  have r1 : Reads w1 w1.heap.size 1 (some ⟨w.heap.size, 0, none⟩) 1 (strV [⟨#[120]⟩]) := by rw [← hw1]; exact reads_new1 w _ _ (by simp)
  have r2 : Reads w2 w2.heap.size 1 (some ⟨w.heap.size + 1, 0, none⟩) 4 (u8s [46, 46, 47, 121]) := by
    refine ⟨rfl, fun _ => ⟨_, rfl, by show w.heap.size + 1 < _; omega, fun j u hj => ?_⟩⟩
    rw [addr_add0, ← s1, ← hw2, World.cell?_alloc_mark]
    simpa [u8s] using hj
  have b2 : Below w1.heap.size w1 w2 := by rw [← hw2]; exact (Below.refl _ _).alloc (Nat.le_refl _) _
  have b3 := (Below.refl w2.heap.size w2).alloc (Nat.le_refl _) (.cells #[.slice (some ⟨w.heap.size, 0, none⟩) 1 1, .int .i64 2, .int .i64 511, .slice (some ⟨w.heap.size + 1, 0, none⟩) 4 4] 40)
  have b13 := below_tr b2 b3
  refine ⟨?_, fun x hx => ?_⟩
  · have := reads_row4 w2 (.slice (some ⟨w.heap.size, 0, none⟩) 1 1) (.int .i64 2) (.int .i64 511) (.slice (some ⟨w.heap.size + 1, 0, none⟩) 4 4) 40
    exact this.more (by simp)
  · simp at hx
    subst hx
    exact ⟨(r1.below b13).more b13.size, (r2.below b3).more b3.size, ⟨Nat.le_refl _, by show 1 ≤ _; omega⟩, ⟨Nat.le_refl _, by show 4 ≤ _; omega⟩, by show 1 ≤ 100; omega, fun s hs => by simp [xK] at hs; subst hs; show 1 ≤ 1000; omega, by show 4 ≤ 100000; omega, fun b hb => by simp [xK] at hb; omega⟩

set_option maxRecDepth 100000 in
set_option maxHeartbeats 2000000 in
theorem aknown_any (w : World) (hM : Mx w) : Calls Tryz.prog 10 #[] w fun e w' => e = .returned (.bool true) ∧ Below w.heap.size w w' := by
  have HE := Sl.mk (encode_nil w hM)
  have HM := Sl.mk hM
  unfold EncNil at HE
  clear hM
  go_enter Tryz.func10, Tryz.ntmps10
  go_wp2_with fail
  refine HE.out.mono ?_
  rintro e w1 ⟨A1, c1, rfl, hR1, hB1⟩
  have kc := fun (C : Array Value) (n c : Nat) => Go.Joins.run_convert_bytes_const_at (P := Tryz.prog) (w1.alloc (.cells #[.string ⟨#[120]⟩] 9)) 22 5 C n c (w1.heap.size + 1) (by simp) Tryz.underlying22 Tryz.underlying5
  have HR1 := Sl.mk hR1
  clear hR1 HE
  go_wp2_with fail
  refine (acheck_any _ 1 1 [xK w1] _ (by omega) ⟨by omega, by omega⟩ (known_exs w1) (HM.out.be (below_al (below_al (below_al hB1 _) _) _))).mono ?_
  rintro e w2 ⟨N, E, rfl, hR, hB⟩
  obtain ⟨rfl, rfl⟩ := check_known ref_known hR
  have hE2 := below_tr (below_al (below_al (below_al hB1 (.cells #[.string ⟨#[120]⟩] 9)) (.cells #[.int .u8 46, .int .u8 46, .int .u8 47, .int .u8 121] 5 (4, 5))) (.cells #[.slice (some ⟨w1.heap.size, 0, none⟩) 1 1, .int .i64 2, .int .i64 511, .slice (some ⟨w1.heap.size + 1, 0, none⟩) 4 4] 40)) hB
  have hbb := below_tr (below_al (below_al (below_al (Below.refl w1.heap.size w1) (.cells #[.string ⟨#[120]⟩] 9)) (.cells #[.int .u8 46, .int .u8 46, .int .u8 47, .int .u8 121] 5 (4, 5))) (.cells #[.slice (some ⟨w1.heap.size, 0, none⟩) 1 1, .int .i64 2, .int .i64 511, .slice (some ⟨w1.heap.size + 1, 0, none⟩) 4 4] 40)) hB
  have HR2 := Sl.mk ((HR1.out.below hbb).more hbb.size)
  clear hR hB hbb kc
  go_wp2_with fail
  have hba := (Below.refl w2.heap.size w2).alloc (Nat.le_refl _) (.cells #[.int .u8 67, .int .u8 82, .int .u8 69, .int .u8 76, .int .u8 0] 5)
  refine (bsame_any A1 (some ⟨w2.heap.size, 0, none⟩) 5 c1 5 5 [67, 82, 69, 76, 0] [67, 82, 69, 76, 0] _ (by omega) (by omega) ((HR2.out.below hba).more hba.size) (reads_newL w2 [.int .u8 67, .int .u8 82, .int .u8 69, .int .u8 76, .int .u8 0] 5 (by simp))).mono ?_
  rintro e w3 ⟨rfl, k, rfl⟩
  have heq : eqB [67, 82, 69, 76, 0] [67, 82, 69, 76, 0] = true := by decide
  rw [heq]
  clear heq hba
  go_wp2_with fail
  go_ret
  exact ⟨rfl, below_drN (below_al hE2 _) k⟩

end Go.Proofs.YticcphppnmoogaaGreatDoor

namespace Go.Proofs.YticcphppnmoogaaGreatDoor
open Go.RowKit

theorem Exs.lit {w : World} {A : Option Addr} {n : Nat} {l : List Ex} (h : Exs w A n l) {i : Nat} {x : Ex} (hi : l[i]? = some x) :
    ∃ b o, A = some ⟨b, o, none⟩ ∧ b < w.heap.size ∧ (∀ j v, (exC x)[j]? = some v → w.cell? ⟨b, o + i * 4 + j, none⟩ = some v) ∧ ExOk w w.heap.size x := by
  obtain ⟨ad, rfl, hb, hc, hok⟩ := h.at_ hi
  have hil : i < l.length := (List.getElem?_eq_some_iff.1 hi).1
  have hl := h.n_
  obtain ⟨ad', e', _, hcc⟩ := h.row.2 (by omega)
  have e'' := Option.some.inj e'
  subst e''
  have hlen : 0 < (exsC l).length := by rw [exsC_len]; omega
  have e := addr_lit (hcc 0 _ (List.getElem?_eq_getElem hlen))
  refine ⟨ad.block, ad.off, by rw [← e], hb, fun j v hv => ?_, hok⟩
  have h1 := hc j v hv
  rw [add_of_add, e, Addr.add_lit] at h1
  rw [Nat.add_assoc]
  exact h1

theorem yieldsIf_loadA {P : Program} {ops : Array Oper} {S : World → Prop} {o : Oper} {a : Act} {v : Value} (hw : Region.wanted o (yielded ops a.tmps) = true) (ty : TypeId) (x : Operand) (ho : o.op = .load ty x) (ad : Addr) (u : Value) (hx : a.eval x = .pointer (some ad))
    (hL : ∀ w, S w → (loadVar ty ad).run P w = .ok u w) (hv : v = u := by rfl) : YieldsIf P ops S o v a := by
  subst hv
  exact .inl ⟨hw, fun w hS => by unfold execOp; simp only [ho, hx, Instr.loadAt, Instr.sureAddr, Sem.run_bind, Sem.run_pure, Result.andThen_ok, hL w hS]⟩

/-- The one operation that is ready, its guard true. -/
theorem wpAnyX_oneG {P : Program} {md : Region.Mode} {l : List Oper} {S : World → Prop} {Q : Exit → Act → World → Prop} {X : List Nat} {k f : Nat} {s : Array Bool} {o : Oper} {a : Act} {w : World} (ho : l[k]? = some o) (hr : Region.ready md l.toArray s = [k])
    (hg : Region.wanted o (yielded l.toArray a.tmps) = true)
    (h : o.wp P a w (fun a' w' => (X.contains k = false → S w') ∧ wpAnyX P md l.toArray Q S X f (s.setIfInBounds k true) a' w') Q) : wpAnyX P md l.toArray Q S X (f + 1) s a w := by
  refine ⟨fun h0 => (by rw [hr] at h0; cases h0), ?_⟩
  rw [hr]
  intro i hi
  obtain rfl : i = k := by simpa using hi
  have hi' : l.toArray[i]? = some o := by simpa using ho
  unfold wpOp
  simp only [hi', hg, if_true]
  exact .inl h

end Go.Proofs.YticcphppnmoogaaGreatDoor

namespace Go.Proofs.YticcphppnmoogaaGreatDoor
open Go.RowKit
attribute [local go_sem ↓] Go.wp_at_zero Go.wp_at_succ

set_option maxHeartbeats 1000000 in
theorem rsame_any (A1 A2 : Option Addr) (n c m d : Nat) (p q : List ByteArray) (w : World) (hn : n ≤ 1000000) (hm : m ≤ 1000000) (hR1 : Reads w w.heap.size 1 A1 n (strV p)) (hR2 : Reads w w.heap.size 1 A2 m (strV q)) :
    Calls Tryz.prog 27 #[.slice A1 n c, .slice A2 m d] w fun e w' => e = .returned (.bool (eqP p q)) ∧ ∃ k, w' = w.drewN k := by
  have HL1 := Sl.mk (strs_n hR1)
  have HL2 := Sl.mk (strs_n hR2)
  have HR1 := Sl.mk hR1
  have HR2 := Sl.mk hR2
  clear hR1 hR2
  by_cases hnm : n = m
  · subst hnm
    go_enter Tryz.func27, Tryz.ntmps27
    go_wp2_with fail
    go_loopw [5] (fun s5 wr => ∃ i k : Nat, i ≤ n ∧ s5 = .int .i64 i ∧ Sl (p.take i = q.take i) ∧ wr = w.drewN k) (fun s5 _ => n - (intOf s5).toNat)
    case atStart => exact ⟨0, 0, Nat.zero_le _, rfl, ⟨rfl⟩, rfl⟩
    case round =>
      obtain ⟨i, k, hi, rfl, HT, rfl⟩ := hrel
      by_cases hil : i < n
      · obtain ⟨s, hs⟩ : ∃ s, p[i]? = some s := ⟨_, List.getElem?_eq_getElem (by rw [HL1.out]; exact hil)⟩
        obtain ⟨t, ht⟩ : ∃ t, q[i]? = some t := ⟨_, List.getElem?_eq_getElem (by rw [HL2.out]; exact hil)⟩
        obtain ⟨a1, rfl, hb1, hc1⟩ := strs_at HR1.out hs
        obtain ⟨a2, rfl, hb2, hc2⟩ := strs_at HR2.out ht
        by_cases hst : s = t
        · subst hst
          have HT2 := Sl.mk (show p.take (i + 1) = q.take (i + 1) by rw [take_snoc' hs, take_snoc' ht, HT.out])
          have hbb : (s.toList == s.toList) = true := by simp
          clear hs ht
          go_wp2_with fail
          go_quiet (fail)
          go_wp2_with fail
          go_roundw
          case rel => exact ⟨i + 1, _, by omega, by go_num, HT2, rfl⟩
          case measure => simp [intOf]; omega
        · have HF := Sl.mk (eqP_take hs ht hst)
          have hbb := str_ne hst
          clear hs ht hst
          go_wp2_with fail
          go_quiet (fail)
          go_wp2_with fail
          go_ret
          exact ⟨by rw [HF.out]; rfl, k + nq, by rw [World.drewN_drewN]⟩
      · obtain rfl : i = n := by omega
        have HF := Sl.mk (show eqP p q = true by
          have h := HT.out
          rw [List.take_of_length_le (by rw [HL1.out]; omega), List.take_of_length_le (by rw [HL2.out]; omega)] at h
          exact decide_eq_true h)
        go_wp2_with fail
        go_ret
        exact ⟨by rw [HF.out]; rfl, k, rfl⟩
  · have HF := Sl.mk (show eqP p q = false from decide_eq_false fun e => hnm (by rw [← HL1.out, ← HL2.out, e]))
    have h1 : ((n : Int) != (m : Int)) = true := by simp; omega
    have h2 : ((n : Int) == (m : Int)) = false := by simp; omega
    clear hnm
    go_enter Tryz.func27, Tryz.ntmps27
    go_wp2_with fail
    go_ret
    exact ⟨by rw [HF.out]; rfl, 0, rfl⟩

theorem Exs.drewN {w : World} {A : Option Addr} {n : Nat} {l : List Ex} (h : Exs w A n l) (k : Nat) : Exs (w.drewN k) A n l := h.be (below_drN (Below.refl _ _) k)
set_option maxHeartbeats 1000000 in
theorem rfind_any (A2 : Option Addr) (m d : Nat) (q : List ByteArray) (A : Option Addr) (n c : Nat) (l : List Ex) (w : World) (hn : n ≤ 1000000) (hE : Exs w A n l) (hm : m ≤ 1000) (hq : Reads w w.heap.size 1 A2 m (strV q)) :
    Calls Tryz.prog 42 #[.slice A n c, .slice A2 m d] w fun e w' => e = .returned (.int .i64 (placE q l)) ∧ ∃ k, w' = w.drewN k := by
  have HL := Sl.mk hE.n_
  have HE := Sl.mk hE
  have HQ := Sl.mk hq
  clear hE hq
  go_enter Tryz.func42, Tryz.ntmps42
  go_wp2_with fail
  go_loopw [5] (fun s5 wr => ∃ i k : Nat, i ≤ n ∧ s5 = .int .i64 i ∧ Sl (idxE q l = i + idxE q (l.drop i)) ∧ wr = w.drewN k) (fun s5 _ => n - (intOf s5).toNat)
  case atStart => exact ⟨0, 0, Nat.zero_le _, rfl, ⟨by simp⟩, rfl⟩
  case round =>
    obtain ⟨i, k, hi, rfl, HI, rfl⟩ := hrel
    by_cases hil : i < n
    · obtain ⟨x, hx⟩ : ∃ x, l[i]? = some x := ⟨_, List.getElem?_eq_getElem (by rw [HL.out]; exact hil)⟩
      obtain ⟨ad, rfl, hbl, hld, hok⟩ := HE.out.at_ hx
      have hd0 : w.cell? (ad.add (i * 4)) = some (.slice x.pa x.e.path.length x.pc) := by have := hld 0 _ rfl; simpa [Addr.add] using this
      have HD := Sl.mk (drop_cons1 hx)
      have hpl := hok.plen
      have HP := Sl.mk (rsame_any x.pa A2 x.e.path.length x.pc m d x.e.path q (w.drewN k) (by omega) (by omega) (hok.path.drewN k) (HQ.out.drewN k))
      clear hx hok hld
      go_wp2_with fail
      refine HP.out.mono ?_
      rintro e w2 ⟨rfl, k2, rfl⟩
      cases eR : eqP x.e.path q
      · have HN := Sl.mk (show idxE q l = (i + 1) + idxE q (l.drop (i + 1)) by rw [HI.out, HD.out, idxE, if_neg (by rw [eR]; simp)]; omega)
        go_wp2_with fail
        go_roundw
        case rel => exact ⟨i + 1, k + k2, by omega, by go_num, HN, by first | rfl | rw [World.drewN_drewN]⟩
        case measure => simp [intOf]; omega
      · have HN := Sl.mk (show placE q l = i by
          have : idxE q l = i := by rw [HI.out, HD.out, idxE, if_pos eR]; omega
          unfold placE; rw [this, if_pos (by rw [HL.out]; exact hil)])
        go_wp2_with fail
        go_ret
        exact ⟨by rw [HN.out]; rfl, k + k2, by first | rfl | rw [World.drewN_drewN]⟩
    · obtain rfl : i = n := by omega
      have HN := Sl.mk (show placE q l = -1 by
        have h : l.drop i = [] := List.drop_of_length_le (by rw [HL.out]; omega)
        have h0 := HI.out
        rw [h] at h0
        unfold placE; rw [if_neg (by rw [HL.out, h0]; simp [idxE])])
      go_wp2_with fail
      go_ret
      exact ⟨by rw [HN.out]; rfl, k, rfl⟩

theorem strN_inj : ∀ {p q : List Nat}, (∀ b ∈ p, b < 256) → (∀ b ∈ q, b < 256) → p.map UInt8.ofNat = q.map UInt8.ofNat → p = q
  | [], [], _, _, _ => rfl
  | [], _ :: _, _, _, h => by simp at h
  | _ :: _, [], _, _, h => by simp at h
  | a :: p, b :: q, hp, hq, h => by
    simp only [List.map_cons, List.cons.injEq] at h
    have h1 := congrArg UInt8.toNat h.1
    rw [UInt8.toNat_ofNat', UInt8.toNat_ofNat', Nat.mod_eq_of_lt (hp a (List.mem_cons_self ..)), Nat.mod_eq_of_lt (hq b (List.mem_cons_self ..))] at h1
    rw [h1, strN_inj (fun x hx => hp x (List.mem_cons_of_mem _ hx)) (fun x hx => hq x (List.mem_cons_of_mem _ hx)) h.2]
theorem strN_eq {p q : List Nat} (hp : ∀ b ∈ p, b < 256) (hq : ∀ b ∈ q, b < 256) : ((strN p).toList == (strN q).toList) = eqB p q := by
  have e : ∀ l : List Nat, (strN l).toList = l.map UInt8.ofNat := fun l => by rw [ByteArray.toList_eq]; rfl
  rw [e, e]
  by_cases h : p = q
  · subst h
    simp [eqB]
  · have : ¬ p.map UInt8.ofNat = q.map UInt8.ofNat := fun h2 => h (strN_inj hp hq h2)
    rw [show eqB p q = false from decide_eq_false h]
    simpa using this

theorem bequal_any (A1 A2 : Option Addr) (n c m d : Nat) (p q : List Nat) (w : World) (hp : ∀ b ∈ p, b < 256) (hq : ∀ b ∈ q, b < 256) (hR1 : Reads w w.heap.size 1 A1 n (u8s p)) (hR2 : Reads w w.heap.size 1 A2 m (u8s q)) :
    Calls Tryz.prog 37 #[.slice A1 n c, .slice A2 m d] w fun e w' => e = .returned (.bool (eqB p q)) ∧ w = w' := by
  have h1 := conv_str (c := c) hR1 hp
  have h2 := conv_str (c := d) hR2 hq
  have h3 := strN_eq hp hq
  obtain ⟨s, hs⟩ : ∃ s, strN p = s := ⟨_, rfl⟩
  obtain ⟨t, ht⟩ : ∃ t, strN q = t := ⟨_, rfl⟩
  rw [hs] at h1 h3
  rw [ht] at h2 h3
  have H3 := Sl.mk h3
  clear hs ht hR1 hR2 hp hq h3
  go_enter Tryz.func37, Tryz.ntmps37
  go_wp2_with fail
  go_ret
  exact ⟨ret_bool H3.out, rfl⟩

/-- Are two entries the same? -/
def sameE (a b : En) : Bool := eqP a.path b.path && (a.kind == b.kind) && (a.mode == b.mode) && eqB a.data b.data
theorem sameE_iff (a b : En) : sameE a b = true ↔ a = b := by
  obtain ⟨p, k, m, d⟩ := a
  obtain ⟨p', k', m', d'⟩ := b
  simp [sameE, eqP, eqB, and_assoc]

set_option maxRecDepth 100000 in
set_option maxHeartbeats 4000000 in
theorem samee_any (x y : Ex) (w : World) (hx : ExOk w w.heap.size x) (hy : ExOk w w.heap.size y) :
    Calls Tryz.prog 36 #[.agg (exC x).toArray, .agg (exC y).toArray] w fun e w' => e = .returned (.bool (sameE x.e y.e)) ∧ Below w.heap.size w w' := by
  obtain ⟨⟨p, k, m, d⟩, pa, pc, da, dc⟩ := x
  obtain ⟨⟨p', k', m', d'⟩, pa', pc', da', dc'⟩ := y
  have hp : Reads w w.heap.size 1 pa p.length (strV p) := hx.path
  have hp' : Reads w w.heap.size 1 pa' p'.length (strV p') := hy.path
  have hd : Reads w w.heap.size 1 da d.length (u8s d) := hx.data
  have hd' : Reads w w.heap.size 1 da' d'.length (u8s d') := hy.data
  have h1 : p.length ≤ 100 := hx.plen
  have h2 : p'.length ≤ 100 := hy.plen
  have hb : ∀ b ∈ d, b < 256 := hx.byte
  have hb' : ∀ b ∈ d', b < 256 := hy.byte
  clear hx hy
  show Calls Tryz.prog 36 #[.agg #[.slice pa p.length pc, .int .i64 k, .int .i64 m, .slice da d.length dc], .agg #[.slice pa' p'.length pc', .int .i64 k', .int .i64 m', .slice da' d'.length dc']] w fun e w' => e = .returned (.bool (sameE ⟨p, k, m, d⟩ ⟨p', k', m', d'⟩)) ∧ Below w.heap.size w w'
  have HF : Sl (sameE ⟨p, k, m, d⟩ ⟨p', k', m', d'⟩ = (eqP p p' && (k == k') && (m == m') && eqB d d')) := ⟨rfl⟩
  obtain ⟨w0, hw0⟩ : ∃ w0, (w.alloc (.cells #[.slice pa p.length pc, .int .i64 k, .int .i64 m, .slice da d.length dc] 40)).alloc (.cells #[.slice pa' p'.length pc', .int .i64 k', .int .i64 m', .slice da' d'.length dc'] 40) = w0 := ⟨_, rfl⟩
  have hE0 : Below w.heap.size w w0 := by rw [← hw0]; exact below_al (below_al (Below.refl _ _) _) _
  have hX0 : Blk w0 w.heap.size 40 #[.slice pa p.length pc, .int .i64 k, .int .i64 m, .slice da d.length dc] := by rw [← hw0]; exact (Blk.new _ _ _).alloc _
  have hY0 : Blk w0 (w.heap.size + 1) 40 #[.slice pa' p'.length pc', .int .i64 k', .int .i64 m', .slice da' d'.length dc'] := by rw [← hw0]; exact Blk.new' (by simp)
  have HS := Sl.mk (same_any pa pa' p.length pc p'.length pc' p p' w0 (by omega) (by omega) ((hp.below hE0).more hE0.size) ((hp'.below hE0).more hE0.size))
  have HQ := Sl.mk (fun kk => bequal_any da da' d.length dc d'.length dc' d d' (w0.drewN kk) hb hb' (((hd.below hE0).more hE0.size).drewN kk) (((hd'.below hE0).more hE0.size).drewN kk))
  clear hp hp' hd hd' hb hb'
  go_enter Tryz.func36, Tryz.ntmps36
  have x0 := hX0.cell 0
  have x1 := hX0.cell 1
  have x2 := hX0.cell 2
  have x3 := hX0.cell 3
  have y0 := hY0.cell 0
  have y1 := hY0.cell 1
  have y2 := hY0.cell 2
  have y3 := hY0.cell 3
  go_wp2_with fail
  clear hw0
  refine HS.out.mono ?_
  rintro e w1 ⟨rfl, kk, rfl⟩
  have hE1 := below_drN hE0 kk
  cases e1 : eqP p p'
  · go_wp2_with fail
    go_ret
    exact ⟨by rw [HF.out, e1]; rfl, hE1⟩
  cases e2 : (k == k')
  · go_wp2_with fail
    go_ret
    exact ⟨by rw [HF.out, e1, e2]; rfl, hE1⟩
  cases e3 : (m == m')
  · go_wp2_with fail
    go_ret
    exact ⟨by rw [HF.out, e1, e2, e3]; rfl, hE1⟩
  · go_wp2_with fail
    refine (HQ.out kk).mono ?_
    rintro e w1 ⟨rfl, rfl⟩
    go_wp2_with fail
    go_ret
    exact ⟨by rw [HF.out, e1, e2, e3]; rfl, hE1⟩

end Go.Proofs.YticcphppnmoogaaGreatDoor

namespace Go.Proofs.YticcphppnmoogaaGreatDoor
open Go.RowKit
attribute [local go_sem ↓] Go.wp_at_zero Go.wp_at_succ

/-- The same entries? -/
def eqL : List Ex → List Ex → Bool
  | [], [] => true
  | x :: l, y :: m => sameE x.e y.e && eqL l m
  | _, _ => false
theorem eqL_iff : ∀ l m : List Ex, eqL l m = true ↔ l.map (·.e) = m.map (·.e)
  | [], [] => by simp [eqL]
  | [], _ :: _ => by simp [eqL]
  | _ :: _, [] => by simp [eqL]
  | x :: l, y :: m => by
    have h1 := sameE_iff x.e y.e
    have h2 := eqL_iff l m
    simp only [eqL, Bool.and_eq_true, List.map_cons, List.cons.injEq, h1, h2]
theorem eqL_len {l m : List Ex} (h : l.length ≠ m.length) : eqL l m = false := by
  cases he : eqL l m
  · rfl
  · have := (eqL_iff l m).1 he
    have h2 := congrArg List.length this
    simp at h2
    exact absurd h2 h

set_option maxRecDepth 100000 in
set_option maxHeartbeats 4000000 in
theorem eqfunc_any (A1 A2 : Option Addr) (n c m d : Nat) (l1 l2 : List Ex) (w : World) (hn : n ≤ 1000000) (hm : m ≤ 1000000) (hE1 : Exs w A1 n l1) (hE2 : Exs w A2 m l2) :
    Calls Tryz.prog 35 #[.slice A1 n c, .slice A2 m d, .func (.func 36) #[] #[]] w fun e w' => e = .returned (.bool (eqL l1 l2)) ∧ Below w.heap.size w w' := by
  have HL1 := Sl.mk hE1.n_
  have HL2 := Sl.mk hE2.n_
  have HE1 := Sl.mk hE1
  have HE2 := Sl.mk hE2
  clear hE1 hE2
  by_cases hnm : n = m
  · subst hnm
    go_enter Tryz.func35, Tryz.ntmps35
    go_wp2_with fail
    go_loopw [7, 8, 9, 17] (fun _ _ _ v17 wr => ∃ i : Nat, i ≤ n ∧ v17 = .int .i64 i ∧ Sl (eqL l1 l2 = eqL (l1.drop i) (l2.drop i)) ∧ Below w.heap.size w wr) (fun _ _ _ v17 _ => n - (intOf v17).toNat)
    case atStart => exact ⟨0, Nat.zero_le _, rfl, ⟨by simp⟩, Below.refl _ _⟩
    case round =>
      obtain ⟨i, hi, rfl, HI, hB⟩ := hrel
      by_cases hil : i < n
      · obtain ⟨x, hx⟩ : ∃ x, l1[i]? = some x := ⟨_, List.getElem?_eq_getElem (by rw [HL1.out]; exact hil)⟩
        obtain ⟨y, hy⟩ : ∃ y, l2[i]? = some y := ⟨_, List.getElem?_eq_getElem (by rw [HL2.out]; exact hil)⟩
        obtain ⟨a1, rfl, hb1, hld1, hok1⟩ := (HE1.out.be hB).at_ hx
        obtain ⟨a2, rfl, hb2, hld2, hok2⟩ := (HE2.out.be hB).at_ hy
        have hd1 : wr.cell? (a1.add (i * 4)) = some (.slice x.pa x.e.path.length x.pc) := by have := hld1 0 _ rfl; simpa [Addr.add] using this
        have hd2 : wr.cell? (a2.add (i * 4)) = some (.slice y.pa y.e.path.length y.pc) := by have := hld2 0 _ rfl; simpa [Addr.add] using this
        have hba : Below wr.heap.size wr (wr.alloc (.cells #[.slice x.pa x.e.path.length x.pc, .int .i64 x.e.kind, .int .i64 x.e.mode, .slice x.da x.e.data.length x.dc] 40)) := (Below.refl _ _).alloc (Nat.le_refl _) _
        have hld3 : ∀ j v, (exC y)[j]? = some v → (wr.alloc (.cells #[.slice x.pa x.e.path.length x.pc, .int .i64 x.e.kind, .int .i64 x.e.mode, .slice x.da x.e.data.length x.dc] 40)).cell? ((a2.add (i * 4)).add j) = some v := fun j v hv => (hba.cell (p := (a2.add (i * 4)).add j) (by rw [block_of_add, block_of_add]; exact hb2)).trans (hld2 j v hv)
        have hd3 := (hba.cell (p := a2.add (i * 4)) (by rw [block_of_add]; exact hb2)).trans hd2
        have hbb := below_al hba (.cells #[.slice y.pa y.e.path.length y.pc, .int .i64 y.e.kind, .int .i64 y.e.mode, .slice y.da y.e.data.length y.dc] 40)
        have HS := Sl.mk (samee_any x y _ (hok1.be hbb) (hok2.be hbb))
        have HD : Sl (eqL (l1.drop i) (l2.drop i) = (sameE x.e y.e && eqL (l1.drop (i + 1)) (l2.drop (i + 1)))) := ⟨by rw [drop_cons1 hx, drop_cons1 hy]; rfl⟩
        have hEb := below_tr hB hbb
        clear hx hy hok1 hok2 hb1 hb2 hba hbb
        go_wp2_with (first | refine ld_exl hld1 rfl (.tmp 20) rfl rfl ?_ | refine ld_exl hld3 rfl (.tmp 24) rfl rfl ?_)
        refine HS.out.mono ?_
        rintro e w2 ⟨rfl, hB2⟩
        have hE2' := below_tr hEb hB2
        clear hB hld1 hld2 hld3 hd1 hd2 hd3 hB2 hEb
        cases eS : sameE x.e y.e
        · have HF := Sl.mk (show eqL l1 l2 = false by rw [HI.out, HD.out, eS]; rfl)
          go_wp2_with fail
          go_ret
          exact ⟨by rw [HF.out]; rfl, hE2'⟩
        · have HF := Sl.mk (show eqL l1 l2 = eqL (l1.drop (i + 1)) (l2.drop (i + 1)) by rw [HI.out, HD.out, eS]; rfl)
          go_wp2_with fail
          go_roundw
          case rel => exact ⟨i + 1, by omega, by go_num, HF, hE2'⟩
          case measure => simp [intOf]; omega
      · obtain rfl : i = n := by omega
        have HF := Sl.mk (show eqL l1 l2 = true by rw [HI.out, List.drop_of_length_le (by rw [HL1.out]; omega), List.drop_of_length_le (by rw [HL2.out]; omega)]; rfl)
        go_wp2_with fail
        go_ret
        exact ⟨by rw [HF.out]; rfl, hB⟩
  · have HF := Sl.mk (show eqL l1 l2 = false from eqL_len (by rw [HL1.out, HL2.out]; exact hnm))
    have h1 : ((n : Int) != (m : Int)) = true := by simp; omega
    have h2 : ((n : Int) == (m : Int)) = false := by simp; omega
    clear hnm
    go_enter Tryz.func35, Tryz.ntmps35
    go_wp2_with fail
    go_ret
    exact ⟨by rw [HF.out]; rfl, Below.refl _ _⟩

theorem asame_any (A1 A2 : Option Addr) (n c m d : Nat) (l1 l2 : List Ex) (w : World) (hn : n ≤ 1000000) (hm : m ≤ 1000000) (hE1 : Exs w A1 n l1) (hE2 : Exs w A2 m l2) :
    Calls Tryz.prog 18 #[.slice A1 n c, .slice A2 m d] w fun e w' => e = .returned (.bool (eqL l1 l2)) ∧ Below w.heap.size w w' := by
  have H := Sl.mk (eqfunc_any A1 A2 n c m d l1 l2 w hn hm hE1 hE2)
  clear hE1 hE2
  go_enter Tryz.func18, Tryz.ntmps18
  go_wp2_with fail
  refine H.out.mono ?_
  rintro e w' ⟨rfl, hB⟩
  go_wp2_with fail
  go_ret
  exact ⟨rfl, hB⟩

set_option maxRecDepth 100000 in
set_option maxHeartbeats 8000000 in
theorem rsames_any (A1 A2 : Option Addr) (n c m d : Nat) (l1 l2 : List Ex) (w : World) (hn : n ≤ 1000000) (hm : m ≤ 1000000) (hE1 : Exs w A1 n l1) (hE2 : Exs w A2 m l2) :
    Calls Tryz.prog 8 #[.slice A1 n c, .slice A2 m d] w fun e w' => e = .returned (.bool (eqL l1 l2)) ∧ ∃ k, w' = w.drewN k := by
  have HL1 := Sl.mk hE1.n_
  have HL2 := Sl.mk hE2.n_
  have HE1 := Sl.mk hE1
  have HE2 := Sl.mk hE2
  clear hE1 hE2
  by_cases hnm : n = m
  · subst hnm
    go_enter Tryz.func8, Tryz.ntmps8
    go_wp2_with fail
    go_loopw [5] (fun v5 wr => ∃ i q : Nat, i ≤ n ∧ v5 = .int .i64 i ∧ Sl (eqL l1 l2 = eqL (l1.drop i) (l2.drop i)) ∧ wr = w.drewN q) (fun v5 _ => n - (intOf v5).toNat)
    case atStart => exact ⟨0, 0, Nat.zero_le _, rfl, ⟨by simp⟩, rfl⟩
    case round =>
      obtain ⟨i, q, hi, rfl, HI, hq⟩ := hrel
      by_cases hil : i < n
      · obtain ⟨x, hx⟩ : ∃ x, l1[i]? = some x := ⟨_, List.getElem?_eq_getElem (by rw [HL1.out]; exact hil)⟩
        obtain ⟨y, hy⟩ : ∃ y, l2[i]? = some y := ⟨_, List.getElem?_eq_getElem (by rw [HL2.out]; exact hil)⟩
        have hr1 : Exs wr A1 n l1 := by rw [hq]; exact HE1.out.drewN q
        have hr2 : Exs wr A2 n l2 := by rw [hq]; exact HE2.out.drewN q
        obtain ⟨b1, o1, rfl, hb1, hld1, hok1⟩ := hr1.lit hx
        obtain ⟨b2, o2, rfl, hb2, hld2, hok2⟩ := hr2.lit hy
        have c0 : wr.cell? ⟨b1, o1 + i * 4, none⟩ = some (.slice x.pa x.e.path.length x.pc) := hld1 0 _ rfl
        have c1 : wr.cell? ⟨b1, o1 + i * 4 + 1, none⟩ = some (.int .i64 x.e.kind) := hld1 1 _ rfl
        have c2 : wr.cell? ⟨b1, o1 + i * 4 + 2, none⟩ = some (.int .i64 x.e.mode) := hld1 2 _ rfl
        have c3 : wr.cell? ⟨b1, o1 + i * 4 + 3, none⟩ = some (.slice x.da x.e.data.length x.dc) := hld1 3 _ rfl
        have d0 : wr.cell? ⟨b2, o2 + i * 4, none⟩ = some (.slice y.pa y.e.path.length y.pc) := hld2 0 _ rfl
        have d1 : wr.cell? ⟨b2, o2 + i * 4 + 1, none⟩ = some (.int .i64 y.e.kind) := hld2 1 _ rfl
        have d2 : wr.cell? ⟨b2, o2 + i * 4 + 2, none⟩ = some (.int .i64 y.e.mode) := hld2 2 _ rfl
        have d3 : wr.cell? ⟨b2, o2 + i * 4 + 3, none⟩ = some (.slice y.da y.e.data.length y.dc) := hld2 3 _ rfl
        have hp1 := hok1.plen
        have hp2 := hok2.plen
        have hq1 := hok1.dlen
        have hq2 := hok2.dlen
        have HSP := Sl.mk (fun k => rsame_any x.pa y.pa x.e.path.length x.pc y.e.path.length y.pc x.e.path y.e.path (wr.drewN k) (by omega) (by omega) (hok1.path.drewN k) (hok2.path.drewN k))
        have HSD := Sl.mk (fun k => bsame_any x.da y.da x.e.data.length x.dc y.e.data.length y.dc x.e.data y.e.data (wr.drewN k) (by omega) (by omega) (hok1.data.drewN k) (hok2.data.drewN k))
        have HD : Sl (eqL (l1.drop i) (l2.drop i) = (sameE x.e y.e && eqL (l1.drop (i + 1)) (l2.drop (i + 1)))) := ⟨by rw [drop_cons1 hx, drop_cons1 hy]; rfl⟩
        have HQ := Sl.mk hq
        have hsm : sameE x.e y.e = (eqP x.e.path y.e.path && (x.e.kind == y.e.kind) && (x.e.mode == y.e.mode) && eqB x.e.data y.e.data) := rfl
        have HSM := Sl.mk hsm
        clear hx hy hok1 hok2 hr1 hr2 hld1 hld2 hq hsm
        cases e1 : eqP x.e.path y.e.path
        · have HF := Sl.mk (show eqL l1 l2 = false by rw [HI.out, HD.out, HSM.out, e1]; rfl)
          rw [e1] at HSP
          go_wp2_with fail
          go_quiet ((first | (go_at_call 27; exact Calls.quiet_of (HSP.out _)) | (go_at_call 13; exact Calls.quiet_of (HSD.out _))))
          go_wp2_with fail
          go_ret
          exact ⟨by rw [HF.out]; rfl, q + nq, by rw [HQ.out, World.drewN_drewN]⟩
        rw [e1] at HSP
        cases e2 : (x.e.kind == y.e.kind)
        · have HF := Sl.mk (show eqL l1 l2 = false by rw [HI.out, HD.out, HSM.out, e1, e2]; rfl)
          have e2' : (x.e.kind != y.e.kind) = true := by simp [bne, e2]
          go_wp2_with fail
          go_quiet ((first | (go_at_call 27; exact Calls.quiet_of (HSP.out _)) | (go_at_call 13; exact Calls.quiet_of (HSD.out _))))
          go_wp2_with fail
          go_ret
          exact ⟨by rw [HF.out]; rfl, q + nq, by rw [HQ.out, World.drewN_drewN]⟩
        have e2' : (x.e.kind != y.e.kind) = false := by simp [bne, e2]
        cases e3 : (x.e.mode == y.e.mode)
        · have HF := Sl.mk (show eqL l1 l2 = false by rw [HI.out, HD.out, HSM.out, e1, e2, e3]; rfl)
          have e3' : (x.e.mode != y.e.mode) = true := by simp [bne, e3]
          go_wp2_with fail
          go_quiet ((first | (go_at_call 27; exact Calls.quiet_of (HSP.out _)) | (go_at_call 13; exact Calls.quiet_of (HSD.out _))))
          go_wp2_with fail
          go_ret
          exact ⟨by rw [HF.out]; rfl, q + nq, by rw [HQ.out, World.drewN_drewN]⟩
        have e3' : (x.e.mode != y.e.mode) = false := by simp [bne, e3]
        cases e4 : eqB x.e.data y.e.data
        · have HF := Sl.mk (show eqL l1 l2 = false by rw [HI.out, HD.out, HSM.out, e1, e2, e3, e4]; rfl)
          rw [e4] at HSD
          go_wp2_with fail
          go_quiet ((first | (go_at_call 27; exact Calls.quiet_of (HSP.out _)) | (go_at_call 13; exact Calls.quiet_of (HSD.out _))))
          go_wp2_with fail
          go_ret
          exact ⟨by rw [HF.out]; rfl, q + nq, by rw [HQ.out, World.drewN_drewN]⟩
        · have HF := Sl.mk (show eqL l1 l2 = eqL (l1.drop (i + 1)) (l2.drop (i + 1)) by rw [HI.out, HD.out, HSM.out, e1, e2, e3, e4]; rfl)
          rw [e4] at HSD
          go_wp2_with fail
          go_quiet ((first | (go_at_call 27; exact Calls.quiet_of (HSP.out _)) | (go_at_call 13; exact Calls.quiet_of (HSD.out _))))
          go_wp2_with fail
          go_roundw
          case rel => exact ⟨i + 1, q + nq, by omega, by go_num, HF, by rw [HQ.out, World.drewN_drewN]⟩
          case measure => simp [intOf]; omega
      · obtain rfl : i = n := by omega
        have HF := Sl.mk (show eqL l1 l2 = true by rw [HI.out, List.drop_of_length_le (by rw [HL1.out]; omega), List.drop_of_length_le (by rw [HL2.out]; omega)]; rfl)
        have HQ := Sl.mk hq
        clear hq
        go_wp2_with fail
        go_ret
        exact ⟨by rw [HF.out]; rfl, q, by rw [HQ.out]⟩
  · have HF := Sl.mk (show eqL l1 l2 = false from eqL_len (by rw [HL1.out, HL2.out]; exact hnm))
    have h1 : ((n : Int) != (m : Int)) = true := by simp; omega
    have h2 : ((n : Int) == (m : Int)) = false := by simp; omega
    clear hnm
    go_enter Tryz.func8, Tryz.ntmps8
    go_wp2_with fail
    go_ret
    exact ⟨by rw [HF.out]; rfl, 0, rfl⟩

end Go.Proofs.YticcphppnmoogaaGreatDoor
