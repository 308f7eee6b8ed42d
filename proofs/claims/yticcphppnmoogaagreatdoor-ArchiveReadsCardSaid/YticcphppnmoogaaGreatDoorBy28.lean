/-
  The contracts of creelref12.Check and Encode.
  The contract of creelref12.Encode.
  The walk of the law ArchiveBytes.
-/
import Derived.Test.YticcphppnmoogaaGreatDoorBy27
import Derived.Test.YticcphppnmoogaaGreatDoorBy16
import Derived.Test.YticcphppnmoogaaGreatDoorBy20

namespace Go.Proofs.YticcphppnmoogaaGreatDoor
open Go.RowKit
attribute [local go_sem ↓] Go.wp_at_zero Go.wp_at_succ

theorem exs_load {w : World} {x : Ex} {b o : Nat} (h : ∀ j v, (exC x)[j]? = some v → w.cell? ⟨b, o + j, none⟩ = some v) :
    (loadVar 64 ⟨b, o, none⟩).run Tryz.prog w = .ok (.agg #[.slice x.pa x.e.path.length x.pc, .int .i64 x.e.kind, .int .i64 x.e.mode, .slice x.da x.e.data.length x.dc]) w :=
  run_loadVar_at w ⟨b, o, none⟩ 64 (exC x) _ (fun j v hv => by rw [Addr.add_lit]; exact h j v hv) Tryz.underlying64 rfl refSize

set_option maxRecDepth 100000 in
set_option maxHeartbeats 4000000 in
theorem rcheck_any (A : Option Addr) (n c : Nat) (l : List Ex) (w : World) (hn : n ≤ 1000000) (hnc : n ≤ c ∧ c ≤ 9223372036854775807) (hL : Exs w A n l) :
    Calls Tryz.prog 16 #[.slice A n c] w (CheckPost w l) := by
  have HN := Sl.mk hL.n_
  have HL := Sl.mk hL
  clear hL
  by_cases h40 : 40 < n
  · have h40' : (40 : Int) < (n : Int) := by omega
    go_enter Tryz.func16, Tryz.ntmps16
    go_wp2_with fail
    go_ret2
    exact ⟨40, 2, rfl, .inl ⟨by rw [HN.out]; exact h40, rfl, rfl⟩, Below.refl _ _⟩
  · have h40' : ¬ (40 : Int) < (n : Int) := by omega
    go_enter Tryz.func16, Tryz.ntmps16
    go_wp2_with fail
    go_loopw [4] (fun v4 wr => ∃ i : Nat, i ≤ n ∧ v4 = .int .i64 i ∧ Sl (∀ j x, j < i → l[j]? = some x → refusedE x.e (l.take j) = 0) ∧ Below w.heap.size w wr) (fun v4 _ => n - (intOf v4).toNat)
    case atStart => exact ⟨0, Nat.zero_le _, rfl, ⟨fun j x hj => absurd hj (by omega)⟩, Below.refl _ _⟩
    case round =>
      obtain ⟨i, hi, rfl, HZ, hB⟩ := hrel
      by_cases hil : i < n
      · obtain ⟨x, hx⟩ : ∃ x, l[i]? = some x := ⟨_, List.getElem?_eq_getElem (by rw [HN.out]; exact hil)⟩
        obtain ⟨ab, ao, rfl, hbl, hld, hok⟩ := (HL.out.be hB).lit hx
        have HXI := Sl.mk hx
        have hic : i ≤ c := by omega
        obtain ⟨wd, hwd⟩ : ∃ wd, wr.drew = wd := ⟨_, rfl⟩
        have hbd : Below wr.heap.size wr wd := by rw [← hwd]; exact (Below.refl _ _).drew
        have hEd := below_tr hB hbd
        have HRF := Sl.mk (rrefused_any x (some ⟨ab, ao, none⟩) i c (l.take i) wd (hok.be hbd) (by omega) (((HL.out.be hEd)).take_ hi))
        have HLV : Sl (∀ W, Below wd.heap.size wd W → (loadVar 64 ⟨ab, ao + i * 4, none⟩).run Tryz.prog W = .ok (.agg #[.slice x.pa x.e.path.length x.pc, .int .i64 x.e.kind, .int .i64 x.e.mode, .slice x.da x.e.data.length x.dc]) W) := Sl.mk (fun W hW =>
          exs_load (fun j v hv => ((below_tr hbd hW).cell (p := ⟨ab, ao + i * 4 + j, none⟩) hbl).trans (hld j v hv)))
        clear hx hok hld hB
        go_wp2_with fail
        have HSF : Sl (∀ W, Below wd.heap.size wd W → True) := ⟨fun _ _ => trivial⟩
        refine wp_region_X (fun W => Below wd.heap.size wd W) [8] (by kernel_rfl) (by rw [hwd]; exact Below.refl _ _) (fun hS => ?_)
        rw [hwd] at hS ⊢
        clear hwd
        refine wpAnyX_S (i := 0) (v := ?_) rfl (by kernel_rfl) (by kernel_rfl) (by kernel_rfl) (by kernel_rfl) (fun _ _ _ h => h) (Or.inl ⟨by rfl, ?_⟩) hS ?_
        rotate_left 1
        · (intro w' hw'; (first | rw [hw'] | (have hw2 := HSF.out w' hw') | skip); go_simp; (try with_reducible rfl))
        simp only [Act.put, List.setIfInBounds_toArray, List.set_cons_zero, List.set_cons_succ]
        refine wpAnyX_S (i := 1) (v := ?_) rfl (by kernel_rfl) (by kernel_rfl) (by kernel_rfl) (by kernel_rfl) (fun _ _ _ h => h) (Or.inl ⟨by rfl, ?_⟩) hS ?_
        rotate_left 1
        · (intro w' hw'; (first | rw [hw'] | (have hw2 := HSF.out w' hw') | skip); go_simp; (try with_reducible rfl))
        simp only [Act.put, List.setIfInBounds_toArray, List.set_cons_zero, List.set_cons_succ]
        refine wpAnyX_S (i := 2) (v := ?_) rfl (by kernel_rfl) (by kernel_rfl) (by kernel_rfl) (by kernel_rfl) (fun _ _ _ h => h) (Or.inl ⟨by rfl, ?_⟩) hS ?_
        rotate_left 1
        · (intro w' hw'; (first | rw [hw'] | (have hw2 := HSF.out w' hw') | skip); go_simp; (try with_reducible rfl))
        simp only [Act.put, List.setIfInBounds_toArray, List.set_cons_zero, List.set_cons_succ]
        refine wpAnyX_S (i := 4) (v := ?_) rfl (by kernel_rfl) (by kernel_rfl) (by kernel_rfl) (by kernel_rfl) (fun _ _ _ h => h) (Or.inl ⟨by rfl, ?_⟩) hS ?_
        rotate_left 1
        · (intro w' hw'; (first | rw [hw'] | (have hw2 := HSF.out w' hw') | skip); go_simp; (try with_reducible rfl))
        simp only [Act.put, List.setIfInBounds_toArray, List.set_cons_zero, List.set_cons_succ]
        refine wpAnyX_S (i := 5) (v := ?_) rfl (by kernel_rfl) (by kernel_rfl) (by kernel_rfl) (by kernel_rfl) (fun _ _ _ h => h) (Or.inl ⟨by rfl, ?_⟩) hS ?_
        rotate_left 1
        · (intro w' hw'; (first | rw [hw'] | (have hw2 := HSF.out w' hw') | skip); go_simp; (try with_reducible rfl))
        simp only [Act.put, List.setIfInBounds_toArray, List.set_cons_zero, List.set_cons_succ]
        refine wpAnyX_S (i := 3) (v := .agg #[.slice x.pa x.e.path.length x.pc, .int .i64 x.e.kind, .int .i64 x.e.mode, .slice x.da x.e.data.length x.dc]) rfl (by kernel_rfl) (by kernel_rfl) (by kernel_rfl) (by kernel_rfl) (fun _ _ _ h => h) (yieldsIf_loadA (by rfl) 64 (.tmp 17) rfl ⟨ab, ao + i * 4, none⟩ _ (by go_simp) (fun w' hw' => HLV.out w' hw')) hS ?_
        simp only [Act.put, List.setIfInBounds_toArray, List.set_cons_zero, List.set_cons_succ]
        refine wpAnyX_S (i := 6) (v := ?_) rfl (by kernel_rfl) (by kernel_rfl) (by kernel_rfl) (by kernel_rfl) (fun _ _ _ h => h) (Or.inl ⟨by rfl, ?_⟩) hS ?_
        rotate_left 1
        · (intro w' hw'; (first | rw [hw'] | (have hw2 := HSF.out w' hw') | skip); go_simp; (try with_reducible rfl))
        simp only [Act.put, List.setIfInBounds_toArray, List.set_cons_zero, List.set_cons_succ]
        refine wpAnyX_oneL (k := 7) rfl (by kernel_rfl) rfl ?_
        refine wp_of_call (f := 24) (args := #[.agg #[.slice x.pa x.e.path.length x.pc, .int .i64 x.e.kind, .int .i64 x.e.mode, .slice x.da x.e.data.length x.dc], .slice (some ⟨ab, ao, none⟩) i c]) (by go_simp) HRF.out (fun e w1 hq => ?_)
        obtain ⟨rfl, hB1⟩ := hq
        refine ⟨_, rfl, fun _ => hB1, ?_⟩
        simp only [Act.put, List.setIfInBounds_toArray, List.set_cons_zero, List.set_cons_succ]
        refine wpAnyX_tailF [8] (by kernel_rfl) (by rfl) (by rfl) (by rfl) ?_
        simp only [List.filterMap_cons, List.filterMap_nil, List.getElem?_cons_succ, List.getElem?_cons_zero]
        have hE2 := below_tr hEd hB1
        clear hB1 hEd hbd HRF HLV HSF hS
        by_cases hz : refusedE x.e (l.take i) = 0
        · have HZ2 := Sl.mk (show ∀ j x, j < i + 1 → l[j]? = some x → refusedE x.e (l.take j) = 0 from fun j y hj hy => by
            rcases Nat.lt_or_ge j i with h | h
            · exact HZ.out j y h hy
            · obtain rfl : j = i := by omega
              rw [HXI.out] at hy
              injection hy with hy
              subst hy
              exact hz)
          rw [hz]
          clear hz HZ
          go_wp2_with fail
          refine NoPanic.normal ?_
          go_wp2_with fail
          go_roundw
          case rel => exact ⟨i + 1, by omega, by go_num, HZ2, hE2⟩
          case measure => simp [intOf]; omega
        · have HB := Sl.mk hz
          obtain ⟨E, hEE⟩ : ∃ E, refusedE x.e (l.take i) = E := ⟨_, rfl⟩
          have HEE := Sl.mk hEE
          rw [hEE] at hz ⊢
          have hne : (E != 0) = true := by simpa using hz
          clear hz hEE
          go_wp2_with fail
          refine NoPanic.normal ?_
          go_wp2_with fail
          go_ret2
          exact ⟨i, E, rfl, .inr ⟨by rw [HN.out]; omega, by rw [HN.out]; exact hi, HZ.out, .inr ⟨x, HXI.out, HEE.out.symm, by rw [← HEE.out]; exact HB.out⟩⟩, hE2⟩
      · obtain rfl : i = n := by omega
        go_wp2_with fail
        go_ret2
        exact ⟨i, 0, rfl, .inr ⟨by rw [HN.out]; omega, by rw [HN.out]; exact hi, HZ.out, .inl ⟨HN.out.symm, rfl⟩⟩, hB⟩

end Go.Proofs.YticcphppnmoogaaGreatDoor

namespace Go.Proofs.YticcphppnmoogaaGreatDoor
open Go.RowKit
attribute [local go_sem ↓] Go.wp_at_zero Go.wp_at_succ

/-- An entry as one that isn't refused is, for its bytes. -/
def Plain (x : Ex) : Prop := 0 ≤ x.e.mode ∧ x.e.mode < 65536 ∧ 0 ≤ x.e.kind ∧ x.e.kind < 256 ∧ (txtF x.e.path).size ≤ 160 ∧ x.e.data.length ≤ 512
theorem ld_exr {ops : Array Oper} {rest : List Oper} {op : Oper} {a : Act} {w : World} {Q : Exit → Act → World → Prop} {b o : Nat} {x : Ex} (hc : ∀ j v, (exC x)[j]? = some v → w.cell? ⟨b, o + j, none⟩ = some v) (hgd : op.guard = none) (y : Operand) (ho : op.op = .load 64 y) (hy : a.eval y = .pointer (some ⟨b, o, none⟩))
    (h : wpList Tryz.prog ops Q rest (a.put op.dst (.agg #[.slice x.pa x.e.path.length x.pc, .int .i64 x.e.kind, .int .i64 x.e.mode, .slice x.da x.e.data.length x.dc])) w) : wpList Tryz.prog ops Q (op :: rest) a w :=
  wpList_load_at hgd 64 y ho _ hy (exC x) _ (fun j v hv => by rw [Addr.add_lit]; exact hc j v hv) Tryz.underlying64 rfl (by rw [refSize, exC_len]) h
theorem ld_enr {ops : Array Oper} {rest : List Oper} {op : Oper} {a : Act} {w : World} {Q : Exit → Act → World → Prop} {g : Nat} {cs : Array Value} (hB : Blk w g 64 cs) (hgd : op.guard = none) (x : Operand) (ho : op.op = .load 64 x) (hx : a.eval x = .pointer (some ⟨g, 0, none⟩)) (hs : cs.size = 4)
    (h : wpList Tryz.prog ops Q rest (a.put op.dst (.agg cs)) w) : wpList Tryz.prog ops Q (op :: rest) a w :=
  wpList_load_row hgd 64 x ho g hx 64 cs (0, 0) _ hB Tryz.underlying64 rfl (by rw [refSize, hs]) h
theorem ld_tab {ops : Array Oper} {rest : List Oper} {op : Oper} {a : Act} {w : World} {Q : Exit → Act → World → Prop} {g : Nat} {cs : Array Value} (hB : Blk w g 33 cs) (hgd : op.guard = none) (x : Operand) (ho : op.op = .load 33 x) (hx : a.eval x = .pointer (some ⟨g, 0, none⟩)) (hs : cs.size = 72)
    (h : wpList Tryz.prog ops Q rest (a.put op.dst (.agg cs)) w) : wpList Tryz.prog ops Q (op :: rest) a w :=
  wpList_load_row hgd 33 x ho g hx 33 cs (0, 0) _ hB Tryz.underlying33 rfl (by rw [info45, hs]) h
/-- What Encode has made so far. -/
structure Enc (w wr : World) (q : Nat) (v : Value) (bs : List Nat) (g : Nat) (cs TT : Array Value) : Prop where
  own : wr.ownsRow (w.heap.size + 1) 5 1 v q (u8s bs)
  tab : Blk wr w.heap.size 33 TT
  ent : Blk wr g 64 cs
  be : Below w.heap.size w wr
theorem Enc.later {w wr w' : World} {q g : Nat} {v : Value} {bs : List Nat} {cs TT : Array Value} (h : Enc w wr q v bs g cs TT) (hb : Below wr.heap.size wr w') : Enc w w' q v bs g cs TT :=
  ⟨own_below h.own hb, h.tab.be hb, h.ent.be hb, below_tr h.be hb⟩
theorem Enc.app {w wr w' : World} {q k g : Nat} {v v' : Value} {bs ns : List Nat} {cs TT : Array Value} (h : Enc w wr q v bs g cs TT) (ho : w'.ownsRow (w.heap.size + 1) 5 1 v' (q + k) (u8s bs ++ u8s ns)) (hg : wr.grownBy w' v.ownBlock) : Enc w w' (q + k) v' (bs ++ ns) g cs TT :=
  ⟨by rw [u8s_app]; exact ho, h.tab.grown hg (fun e => by have := ownGe h.own e.symm; omega), h.ent.grown hg (fun e => own_blk_ne h.own h.ent (by decide) e.symm), h.be.grown hg h.be.size (fun g hg => by have := ownGe h.own hg; omega)⟩
theorem ebF_five (e : En) : ebF e = headF e ++ (bys (txtF e.path) ++ (sizeF e ++ (e.data ++ sealF e))) := by simp [ebF]
theorem reads_four (w : World) (a b c d : Value) (t : TypeId) {B : Nat} (hB : w.heap.size < B) : Reads (w.alloc (.cells #[a, b, c, d] t)) B 1 (some ⟨w.heap.size, 0, none⟩) 4 [a, b, c, d] :=
  reads_newL w [a, b, c, d] t hB
theorem reads_of_rds {w : World} {A : Option Addr} {l : List Nat} (h : RdS w (fun b => b < w.heap.size) A l) : Reads w w.heap.size 1 A l.length (u8s l) := reads_rds h (fun _ h => h)

set_option maxRecDepth 100000 in
set_option maxHeartbeats 8000000 in
theorem rencode_any (A : Option Addr) (n c : Nat) (l : List Ex) (w : World) (hn : n ≤ 40) (hL : Exs w A n l) (hP : ∀ x ∈ l, Plain x) :
    Calls Tryz.prog 17 #[.agg (i64s tabT).toArray, .slice A n c] w fun e w' => ∃ A' n' c', e = .returned (.slice A' n' c') ∧ w'.ownsRow w.heap.size 5 1 (.slice A' n' c') n' (u8s (encF l)) ∧ Below w.heap.size w w' := by
  obtain ⟨j0, hj0, hy0, hy1, hy2⟩ := info_parts u8Info
  have kc := fun (w : World) (C : Array Value) (n c : Nat) => Lib.run_convert_bytes_const (P := Tryz.prog) w 22 5 C n c Tryz.underlying22 Tryz.underlying5
  have HE := Sl.mk hL
  have HL := Sl.mk hL.n_
  have HPP := Sl.mk hP
  obtain ⟨TT, hTT⟩ : ∃ TT, (i64s tabT).toArray = TT := ⟨_, rfl⟩
  have hT72 : TT.size = 72 := by rw [← hTT]; rfl
  rw [hTT]
  have HTT := Sl.mk hTT
  have HT72 := Sl.mk hT72
  obtain ⟨w1, hw1⟩ : ∃ w1, w.alloc (.cells TT 33) = w1 := ⟨_, rfl⟩
  have HBT := Sl.mk (show Blk w1 w.heap.size 33 TT by rw [← hw1]; exact Blk.new _ _ _)
  have hB : Below w.heap.size w w1 := by rw [← hw1]; exact below_al (Below.refl _ _) _
  have HMC := Sl.mk (mark_cells w1 [.int .u8 67, .int .u8 82, .int .u8 69, .int .u8 76] 5 (4, 5) (.cells #[.int .u8 (n : Nat)] 5))
  have HNC := Sl.mk (new_cells (w1.alloc (.cells #[.int .u8 67, .int .u8 82, .int .u8 69, .int .u8 76] 5 (4, 5))) (.int .u8 (n : Nat)) 5)
  clear hL hP hTT hT72
  go_enter Tryz.func17, Tryz.ntmps17
  go_wp2_with (at_builtin; refine wpList_append_grows _ rfl (.tmp 10) (.tmp 14) 22 rfl 5 j0 (.int .u8 0) 1 1 Tryz.underlying22 hj0 hy0 hy1 hy2 rfl (by decide) (some ⟨w1.heap.size, 0, none⟩) 4 4 [.int .u8 67, .int .u8 82, .int .u8 69, .int .u8 76] rfl (fun e => by cases e) rfl HMC.out ⟨w1.heap.size + 1, 0, none⟩ 1 1 [.int .u8 (n : Nat)] rfl rfl (by simpa using HNC.out) (by intro u hu; simp at hu; subst hu; rfl) (by omega) (by unfold maxLen; omega) (by omega) ?_)
  intro v2 w2 ho2 hg2
  have hE2 : Below w.heap.size w w2 := (below_al (below_al hB _) _).grown hg2 (by have := hB.size; simp; omega) (fun g hg => by cases hg)
  have h8 : (n : Int) = ((b8 (n : Nat) : Nat) : Int) := by unfold b8; omega
  have hs1 : w1.heap.size = w.heap.size + 1 := by rw [← hw1]; simp
  have ho5 : w2.ownsRow (w.heap.size + 1) 5 1 v2 5 (u8s ([67, 82, 69, 76, b8 l.length] ++ (l.take 0).flatMap fun x => ebF x.e)) := by
    rw [HL.out]
    rw [h8] at ho2
    have := Go.Joins.ownsRow_le ho2 (base' := w.heap.size + 1) (by omega)
    simpa [u8s] using this
  have hT2 : Blk w2 w.heap.size 33 TT := Blk.grown ((HBT.out.alloc _).alloc _) hg2 (fun e => by cases e)
  clear ho2 hg2 hB h8 HMC HNC hw1
  obtain ⟨A2, c2, rfl⟩ := ownForm ho5
  go_wp2_with fail
  go_loopw [5, 6] (fun v5 v6 wr => ∃ (i q : Nat), i ≤ n ∧ v6 = .int .i64 i ∧ q = 5 + ((l.take i).flatMap fun x => ebF x.e).length ∧ wr.ownsRow (w.heap.size + 1) 5 1 v5 q (u8s ([67, 82, 69, 76, b8 l.length] ++ (l.take i).flatMap fun x => ebF x.e)) ∧ Blk wr w.heap.size 33 TT ∧ Below w.heap.size w wr) (fun _ v6 _ => n - (intOf v6).toNat)
  case atStart => exact ⟨0, 5, Nat.zero_le _, rfl, by simp, ho5, hT2, hE2⟩
  case round =>
    clear ho5 hE2 hT2 hs1
    obtain ⟨i, q, hi, rfl, hq, hown, hTr, hB⟩ := hrel
    obtain ⟨A5, c5, rfl⟩ := ownForm hown
    by_cases hil : i < n
    · obtain ⟨x, hx⟩ : ∃ x, l[i]? = some x := ⟨_, List.getElem?_eq_getElem (by rw [HL.out]; exact hil)⟩
      obtain ⟨ab, ao, rfl, hbl, hld, hok⟩ := (HE.out.be hB).lit hx
      have hfs : (l.take (i + 1)).flatMap (fun x => ebF x.e) = (l.take i).flatMap (fun x => ebF x.e) ++ ebF x.e := by rw [take_snoc' hx]; simp
      obtain ⟨hm0, hm1, hk0, hk1, hts, hds⟩ := HPP.out x (List.mem_of_getElem? hx)
      have h2 := ebs_len (l := l.take i) (fun y hy => HE.out.ok y (List.mem_of_mem_take hy))
      have h3 : (l.take i).length ≤ 40 := by rw [List.length_take]; omega
      have h4 : (l.take i).length * 300100 ≤ 40 * 300100 := Nat.mul_le_mul h3 (Nat.le_refl _)
      have hq9 : q ≤ 12005000 := by omega
      obtain ⟨⟨p, k, m, d⟩, pa, pc, da, dc⟩ := x
      simp only at hm0 hm1 hk0 hk1 hts hds
      obtain ⟨T, hT⟩ : ∃ T, txtF p = T := ⟨_, rfl⟩
      rw [hT] at hts
      have HHD := Sl.mk (show [Value.int .u8 k, .int .u8 (m / 256), .int .u8 (m % 256), .int .u8 (T.size : Nat)] = u8s (headF ⟨p, k, m, d⟩) by
        have e1 : k = ((b8 k : Nat) : Int) := by unfold b8; omega
        have e2 : m / 256 = ((b8 (m / 256) : Nat) : Int) := by unfold b8; omega
        have e3 : m % 256 = ((b8 m : Nat) : Int) := by unfold b8; omega
        have e4 : ((T.size : Nat) : Int) = ((b8 (T.size : Nat) : Nat) : Int) := by unfold b8; omega
        show _ = [Value.int .u8 ((b8 k : Nat) : Int), .int .u8 ((b8 (m / 256) : Nat) : Int), .int .u8 ((b8 m : Nat) : Int), .int .u8 ((b8 (txtF p).size : Nat) : Int)]
        rw [hT, ← e1, ← e2, ← e3, ← e4])
      have HSZ := Sl.mk (show [Value.int .u8 ((d.length : Int) / 256), .int .u8 ((d.length : Int) % 256)] = u8s (sizeF ⟨p, k, m, d⟩) by
        have e1 : (d.length : Int) / 256 = ((b8 (d.length / 256 : Nat) : Nat) : Int) := by unfold b8; omega
        have e2 : (d.length : Int) % 256 = ((b8 (d.length : Nat) : Nat) : Int) := by unfold b8; omega
        show _ = [Value.int .u8 ((b8 (d.length / 256 : Nat) : Nat) : Int), .int .u8 ((b8 (d.length : Nat) : Nat) : Int)]
        rw [← e1, ← e2])
      have HTX := Sl.mk hT
      have hba : Below wr.heap.size wr (wr.alloc (.cells #[.slice pa p.length pc, .int .i64 k, .int .i64 m, .slice da d.length dc] 64)) := (Below.refl _ _).alloc (Nat.le_refl _) _
      have hEN : Enc w (wr.alloc (.cells #[.slice pa p.length pc, .int .i64 k, .int .i64 m, .slice da d.length dc] 64)) q (.slice A5 q c5) _ wr.heap.size #[.slice pa p.length pc, .int .i64 k, .int .i64 m, .slice da d.length dc] TT := ⟨own_below hown hba, hTr.be hba, Blk.new _ _ _, below_tr hB hba⟩
      have HOK := Sl.mk (HE.out.ok _ (List.mem_of_getElem? hx))
      obtain ⟨wa, hwa⟩ : ∃ wa, wr.alloc (.cells #[.slice pa p.length pc, .int .i64 k, .int .i64 m, .slice da d.length dc] 64) = wa := ⟨_, rfl⟩
      obtain ⟨bs, hbs⟩ : ∃ bs, ([67, 82, 69, 76, b8 l.length] ++ (l.take i).flatMap fun x => ebF x.e) = bs := ⟨_, rfl⟩
      rw [hwa, hbs] at hEN
      rw [hwa] at hba
      have HFS := Sl.mk (And.intro hfs hbs)
      have HQ := Sl.mk hq
      have HOKa := Sl.mk (hok.be hba)
      have HTXT := Sl.mk (rtext_any pa p.length pc p wa (by have := hok.plen; simp only at this; omega) hok.slen (hok.be hba).path)
      have e0 := hEN.ent.cell 0
      have e1 := hEN.ent.cell 1
      have e2 := hEN.ent.cell 2
      clear hx hfs hbs hq hok hown hTr hB hba h2 h3 h4 hT
      go_wp2_with (refine ld_exr hld rfl (.tmp 24) rfl rfl ?_)
      refine HTXT.out.mono ?_
      rintro e w3 ⟨rfl, rfl⟩
      rw [HTX.out]
      have hN7 := hEN.later (below_al (Below.refl wa.heap.size wa) (.cells #[.int .u8 k, .int .u8 (m / 256), .int .u8 (m % 256), .int .u8 (T.size : Nat)] 5))
      have hR7 := reads_four wa (.int .u8 k) (.int .u8 (m / 256)) (.int .u8 (m % 256)) (.int .u8 (T.size : Nat)) 5 (Nat.lt_succ_self _)
      have HO7 : Sl (∀ u ∈ [Value.int .u8 k, .int .u8 (m / 256), .int .u8 (m % 256), .int .u8 (T.size : Nat)], u.oneCell' = true) := ⟨four_one _ _ _ _ rfl rfl rfl rfl⟩
      go_wp2_with (at_builtin; refine wpList_append_anyG _ rfl (.tmp 29) (.tmp 44) 22 rfl (w.heap.size + 1) 5 j0 (.int .u8 0) 1 1 Tryz.underlying22 hj0 hy0 hy1 hy2 rfl (by decide) _ q _ rfl hN7.own _ (some ⟨wa.heap.size, 0, none⟩) 4 4 _ rfl hR7 HO7.out (by unfold maxLen; omega) (by omega) hN7.tab.lt ?_)
      intro v7 w7 ho7 hg7 hb7
      rw [HHD.out] at ho7
      have hM7 := hN7.app ho7 hg7
      obtain ⟨b1, hb1⟩ : ∃ b1, bs ++ headF ⟨p, k, m, d⟩ = b1 := ⟨_, rfl⟩
      rw [hb1] at hM7
      have HB1 := Sl.mk hb1
      clear hb1
      obtain ⟨A7, c7, rfl⟩ := ownForm hM7.own
      clear hN7 hR7 HO7 ho7 hg7 hb7 hEN HHD e0 e1 e2 HTXT
      go_wp2_with fail
      have hcv := conv_bys T
      have hb8 := bys_below T w7
      have hR8 := reads_of_rds (bys_reads T w7)
      rw [bys_len] at hR8
      have hN8 := hM7.later hb8
      clear hb8
      go_wp2_with fail
      rw [hcv]
      go_wp2_with (at_builtin; refine wpList_append_anyG _ rfl (.tmp 46) (.tmp 48) 22 rfl (w.heap.size + 1) 5 j0 (.int .u8 0) 1 1 Tryz.underlying22 hj0 hy0 hy1 hy2 rfl (by decide) _ (q + 4) _ rfl hN8.own _ (some ⟨w7.heap.size, 0, none⟩) T.size _ (u8s (bys T)) rfl hR8 (u8s_one _) (by unfold maxLen; omega) (by omega) hN8.tab.lt ?_)
      intro v8 w9 ho8 hg8 hb8
      have hM8 := hN8.app ho8 hg8
      obtain ⟨b2, hb2⟩ : ∃ b2, b1 ++ bys T = b2 := ⟨_, rfl⟩
      rw [hb2] at hM8
      have HB2 := Sl.mk hb2
      clear hb2
      obtain ⟨A8, c8, rfl⟩ := ownForm hM8.own
      have e3 := hM8.ent.cell 3
      clear hN8 hR8 hcv ho8 hg8 hb8 hM7
      have hN9 := hM8.later (below_al (Below.refl w9.heap.size w9) (.cells #[.int .u8 ((d.length : Int) / 256), .int .u8 ((d.length : Int) % 256)] 5))
      have hR9 := reads_new2 w9 (.int .u8 ((d.length : Int) / 256)) (.int .u8 ((d.length : Int) % 256)) 5 (Nat.lt_succ_self _)
      have HO9 : Sl (∀ u ∈ [Value.int .u8 ((d.length : Int) / 256), .int .u8 ((d.length : Int) % 256)], u.oneCell' = true) := ⟨by intro u hu; simp only [List.mem_cons, List.not_mem_nil, or_false] at hu; rcases hu with rfl | rfl <;> rfl⟩
      go_wp2_with (at_builtin; refine wpList_append_anyG _ rfl (.tmp 50) (.tmp 61) 22 rfl (w.heap.size + 1) 5 j0 (.int .u8 0) 1 1 Tryz.underlying22 hj0 hy0 hy1 hy2 rfl (by decide) _ (q + 4 + T.size) _ rfl hN9.own _ (some ⟨w9.heap.size, 0, none⟩) 2 2 _ rfl hR9 HO9.out (by unfold maxLen; omega) (by omega) hN9.tab.lt ?_)
      intro v9 w10 ho9 hg9 hb9
      rw [HSZ.out] at ho9
      have hM9 := hN9.app ho9 hg9
      obtain ⟨b3, hb3⟩ : ∃ b3, b2 ++ sizeF ⟨p, k, m, d⟩ = b3 := ⟨_, rfl⟩
      rw [hb3] at hM9
      have HB3 := Sl.mk hb3
      clear hb3
      obtain ⟨A9, c9, rfl⟩ := ownForm hM9.own
      clear hN9 hR9 HO9 ho9 hg9 hb9 hM8 HSZ e3
      have e3 := hM9.ent.cell 3
      have hR10 : Reads w10 w10.heap.size 1 da d.length (u8s d) := (HOK.out.data.below hM9.be).more hM9.be.size
      go_wp2_with (at_builtin; refine wpList_append_anyG _ rfl (.tmp 63) (.tmp 65) 22 rfl (w.heap.size + 1) 5 j0 (.int .u8 0) 1 1 Tryz.underlying22 hj0 hy0 hy1 hy2 rfl (by decide) _ (q + 4 + T.size + 2) _ rfl hM9.own _ da d.length dc (u8s d) rfl hR10 (u8s_one _) (by unfold maxLen; omega) (by omega) hM9.tab.lt ?_)
      intro v10 w11 ho10 hg10 hb10
      have hM10 := hM9.app ho10 hg10
      obtain ⟨b4, hb4⟩ : ∃ b4, b3 ++ d = b4 := ⟨_, rfl⟩
      rw [hb4] at hM10
      have HB4 := Sl.mk hb4
      obtain ⟨A10, c10, rfl⟩ := ownForm hM10.own
      clear hR10 ho10 hg10 hb10 hM9 e3 hb4
      have HSL := Sl.mk (rseal_any ⟨⟨p, k, m, d⟩, pa, pc, da, dc⟩ w11 (HOK.out.be hM10.be) (by show (txtF p).size ≤ 5000; rw [HTX.out]; omega) (by show d.length ≤ 5000; omega))
      rw [HTT.out] at HSL
      have HET := Sl.mk (And.intro hM10.tab hM10.ent)
      have h72 := HT72.out
      go_wp2_with (first | refine ld_tab HET.out.1 rfl (.tmp 2) rfl rfl h72 ?_ | refine ld_enr HET.out.2 rfl (.tmp 7) rfl rfl rfl ?_)
      refine HSL.out.mono ?_
      rintro e w12 ⟨gs, cs, rfl, hrs, hB12⟩
      have hM11 := hM10.later hB12
      have hR11 := reads_of_rds hrs
      rw [sealF_len] at hR11
      clear HSL HET hM10 hrs hB12 h72
      go_wp2_with (at_builtin; refine wpList_append_anyG _ rfl (.tmp 67) (.tmp 70) 22 rfl (w.heap.size + 1) 5 j0 (.int .u8 0) 1 1 Tryz.underlying22 hj0 hy0 hy1 hy2 rfl (by decide) _ (q + 4 + T.size + 2 + d.length) _ rfl hM11.own _ (some ⟨gs, 0, none⟩) 8 cs _ rfl hR11 (u8s_one _) (by unfold maxLen; omega) (by omega) hM11.tab.lt ?_)
      intro v11 w13 ho11 hg11 hb11
      have hM12 := hM11.app ho11 hg11
      obtain ⟨A11, c11, rfl⟩ := ownForm hM12.own
      have HFIN := Sl.mk (show [67, 82, 69, 76, b8 l.length] ++ (l.take (i + 1)).flatMap (fun x => ebF x.e) = b4 ++ sealF ⟨p, k, m, d⟩ by
        rw [HFS.out.1, ← List.append_assoc, HFS.out.2, ← HB4.out, ← HB3.out, ← HB2.out, ← HB1.out, ← HTX.out]
        show bs ++ ebF ⟨p, k, m, d⟩ = _
        rw [ebF_five]
        simp only [List.append_assoc])
      have HQ2 := Sl.mk (show q + 4 + T.size + 2 + d.length + 8 = 5 + ((l.take (i + 1)).flatMap fun x => ebF x.e).length by
        rw [HFS.out.1, List.length_append, HQ.out]
        show _ = 5 + (_ + (ebF ⟨p, k, m, d⟩).length)
        rw [ebF_five, ← HTX.out]
        simp only [List.length_append, bys_len, sealF_len, headF, sizeF, List.length_cons, List.length_nil]
        omega)
      have HO := Sl.mk (And.intro hM12.own (And.intro hM12.tab hM12.be))
      clear hM11 hR11 ho11 hg11 hb11 hM12
      go_wp2_with fail
      go_roundw
      case rel => exact ⟨i + 1, _, by omega, by go_num, HQ2.out, by rw [HFIN.out]; exact HO.out.1, HO.out.2.1, HO.out.2.2⟩
      case measure => simp [intOf]; omega
    · obtain rfl : i = n := by omega
      have ht : l.take i = l := List.take_of_length_le (by rw [HL.out]; omega)
      rw [ht] at hown
      have HO := Sl.mk (own_mono (b' := w.heap.size) hown (by omega))
      clear hown ht hq
      go_wp2_with fail
      go_ret
      exact ⟨A5, q, c5, rfl, HO.out, hB⟩

end Go.Proofs.YticcphppnmoogaaGreatDoor

namespace Go.Proofs.YticcphppnmoogaaGreatDoor
open Go.RowKit
attribute [local go_sem ↓] Go.wp_at_zero Go.wp_at_succ

theorem bare_map {l m : List Ex} (h : l.map (·.e) = m.map (·.e)) : bare l = bare m := by
  have e : ∀ l : List Ex, bare l = (l.map (·.e)).map toEx := fun l => (map_bare l).symm
  rw [e, e, h]
theorem refused_map {e : En} {l m : List Ex} (h : l.map (·.e) = m.map (·.e)) : refusedE e l = refusedE e m := by
  rw [← refusedE_bare e l, ← refusedE_bare e m, bare_map h]
theorem check_le {l m : List Ex} {N N' : Nat} {E E' : Int} (hs : l.map (·.e) = m.map (·.e)) (h : CheckR l N E) (h' : CheckR m N' E') : ¬ N < N' := fun hlt => by
  have hl := len_same hs
  rcases h with ⟨h40, rfl, rfl⟩ | ⟨h40, hN, hz, hend⟩
  · rcases h' with ⟨_, rfl, _⟩ | ⟨g, _⟩
    · omega
    · omega
  · rcases h' with ⟨g40, rfl, rfl⟩ | ⟨g40, gN, gz, gend⟩
    · omega
    · rcases hend with ⟨rfl, _⟩ | ⟨x, hx, hE, hne⟩
      · omega
      · obtain ⟨y, hy, hye⟩ := get_same hs hx
        have h1 := gz N y hlt hy
        rw [hye, ← refused_map (l := l.take N) (by rw [List.map_take, List.map_take, hs]), ← hE] at h1
        exact hne h1
theorem check_uniq {l m : List Ex} {N N' : Nat} {E E' : Int} (hs : l.map (·.e) = m.map (·.e)) (h : CheckR l N E) (h' : CheckR m N' E') : N = N' ∧ E = E' := by
  have h1 := check_le hs h h'
  have h2 := check_le hs.symm h' h
  obtain rfl : N = N' := by omega
  refine ⟨rfl, ?_⟩
  have hl := len_same hs
  rcases h with ⟨h40, rfl, rfl⟩ | ⟨h40, hN, hz, hend⟩
  · rcases h' with ⟨_, _, rfl⟩ | ⟨g, _⟩
    · rfl
    · omega
  · rcases h' with ⟨g40, _, rfl⟩ | ⟨g40, gN, gz, gend⟩
    · omega
    · rcases hend with ⟨e1, rfl⟩ | ⟨x, hx, hE, hne⟩
      · rcases gend with ⟨_, rfl⟩ | ⟨y, hy, _, _⟩
        · rfl
        · have := (List.getElem?_eq_some_iff.1 hy).1; omega
      · have hxl := (List.getElem?_eq_some_iff.1 hx).1
        rcases gend with ⟨e2, _⟩ | ⟨y, hy, gE, _⟩
        · omega
        · obtain ⟨z, hz', hze⟩ := get_same hs hx
          rw [hy] at hz'
          injection hz' with hz'
          subst hz'
          rw [hE, gE, hze]
          exact refused_map (by rw [List.map_take, List.map_take, hs])
theorem plain_of {l : List Ex} (h : ∀ j x, l[j]? = some x → refusedE x.e (l.take j) = 0) : ∀ x ∈ l, Plain x := fun x hx => by
  obtain ⟨j, hj, e⟩ := List.mem_iff_getElem.1 hx
  have hr := h j x (by rw [List.getElem?_eq_getElem hj, e])
  obtain ⟨h0, h1, h2, h3⟩ := refused_zero hr
  obtain ⟨-, -, p3⟩ := paths_zero h0
  obtain ⟨k1, k2⟩ := kind_zero h1
  obtain ⟨m1, m2⟩ := modes_zero h2
  have := size_zero h3
  exact ⟨m1, m2, k1, by omega, p3, this⟩

set_option maxRecDepth 100000 in
set_option maxHeartbeats 16000000 in
theorem bytes_walk (A : Option Addr) (n c : Nat) (l0 : List Ex) (w : World) (hn : n ≤ 9223372036854775807) (hI : Ins w A n l0) (hM : Mx w) (hT : Tabs w) :
    Calls Tryz.prog 4 #[.slice A n c] w fun e w' => e = .returned (.bool true) ∧ Below w.heap.size w w' := by
  have HT1 := Sl.mk (to_any A n c l0 w hn hI)
  have HM := Sl.mk hM
  have HTb := Sl.mk hT
  clear hI hM hT
  unfold ToPost at HT1
  go_enter Tryz.func4, Tryz.ntmps4
  go_wp2_with fail
  refine HT1.out.mono ?_
  rintro e w1 ⟨A1, A2, n1, c1, c2, L, M, rfl, hn1, hT1, hB1⟩
  have HX := Sl.mk hT1.exs2.1
  have HZ := Sl.mk hT1.exs2.2
  have HSM := Sl.mk hT1.same
  have hc1 := ownCapS hT1.o4
  have hc2 := ownCapS hT1.o5
  have HEN := Sl.mk (aencode_any A1 n1 c1 L w1 (by omega) hc1 HX.out (HM.out.be hB1) (HTb.out.below hB1 HTb.out.1))
  unfold EncPost at HEN
  clear hT1 HT1
  go_wp2_with fail
  refine HEN.out.mono ?_
  rintro e w2 ⟨N, E, hR, hB2, hpost⟩
  have hE2 := below_tr hB1 hB2
  have HR := Sl.mk hR
  have HC1 := Sl.mk (acheck_any A1 n1 c1 L w2 (by omega) hc1 (HX.out.be hB2) (HM.out.be hE2))
  have HK := Sl.mk (fun (W : World) (hW : Below w.heap.size w W) => aknown_any W (HM.out.be hW))
  have HL1 := Sl.mk HX.out.n_
  unfold CheckPost at HC1
  clear hR HEN
  rcases hpost with ⟨hE0, rfl⟩ | ⟨rfl, A3, n3, c3, rfl, ho3⟩
  · have HE0 := Sl.mk hE0
    have hne : (E != 0) = true := by simpa using hE0
    clear hE0
    go_wp2_with fail
    refine HC1.out.mono ?_
    rintro e w3 ⟨N2, E2, rfl, hR2, hB3⟩
    obtain ⟨rfl, rfl⟩ := check_uniq rfl HR.out hR2
    have hE3 := below_tr hE2 hB3
    have HC2 := Sl.mk (rcheck_any A2 n1 c2 M w3 (by omega) hc2 ((HZ.out.be hB2).be hB3))
    unfold CheckPost at HC2
    clear HC1 hR2
    go_wp2_with fail
    refine HC2.out.mono ?_
    rintro e w4 ⟨N3, E3, rfl, hR3, hB4⟩
    obtain ⟨rfl, rfl⟩ := check_uniq HSM.out HR.out hR3
    have hE4 := below_tr hE3 hB4
    have hee : (E != E) = false := by simp
    have hnn : ((N : Int) != (N : Int)) = false := by simp
    clear HC2 hR3
    go_wp2_with fail
    refine (HK.out _ hE4).mono ?_
    rintro e w5 ⟨rfl, hB5⟩
    go_wp2_with fail
    go_ret
    exact ⟨rfl, below_tr hE4 hB5⟩
  · obtain ⟨hl40, hNl, hz⟩ := check_len HR.out
    have HRZ := Sl.mk hz
    have HRZ2 := Sl.mk (show ∀ j x, M[j]? = some x → refusedE x.e (M.take j) = 0 from fun j x hx => by
      obtain ⟨y, hy, hye⟩ := get_same HSM.out.symm hx
      have := hz j y hy
      rw [hye] at this
      rw [refused_map (m := L.take j) (by rw [List.map_take, List.map_take, HSM.out])]
      exact this)
    clear hz
    rw [HL1.out] at hl40
    have hK := bytes_n (Reads.of_own ho3)
    have hKb : n3 ≤ 12100000 := by
      have h1 := ebs_len (l := L) (fun y hy => HX.out.ok y hy)
      have h3 : L.length * 300100 ≤ 40 * 300100 := Nat.mul_le_mul (by rw [HL1.out]; exact hl40) (Nat.le_refl _)
      rw [← hK]
      unfold encF
      rw [List.length_append]
      simp only [List.length_cons, List.length_nil]
      omega
    have HO3 := Sl.mk (Reads.of_own ho3)
    have hc3 := ownCapS ho3
    clear ho3 hK
    go_wp2_with fail
    refine HC1.out.mono ?_
    rintro e w3 ⟨N2, E2, rfl, hR2, hB3⟩
    obtain ⟨rfl, rfl⟩ := check_uniq rfl HR.out hR2
    have hE3 := below_tr hE2 hB3
    have HC2 := Sl.mk (rcheck_any A2 n1 c2 M w3 (by omega) hc2 ((HZ.out.be hB2).be hB3))
    unfold CheckPost at HC2
    clear HC1 hR2
    go_wp2_with fail
    refine HC2.out.mono ?_
    rintro e w4 ⟨N3, E3, rfl, hR3, hB4⟩
    obtain ⟨rfl, rfl⟩ := check_uniq HSM.out HR.out hR3
    have hE4 := below_tr hE3 hB4
    have hB34 := below_tr hB3 hB4
    have hnn : ((N : Int) != (N : Int)) = false := by simp
    have HO4 := Sl.mk ((HO3.out.below hB34).more hB34.size)
    have HDY := Sl.mk (show ∀ b ∈ encF L, b < 256 from encF_byte (fun x hx => (HX.out.ok x hx).byte))
    have HDE := Sl.mk (decode_any A3 n3 c3 (encF L) w4 (by omega) hc3 HDY.out HO4.out (HM.out.be hE4) (HTb.out.below hE4 HTb.out.1))
    unfold DecPost at HDE
    clear HC2 hR3
    go_wp2_with fail
    refine HDE.out.mono ?_
    rintro e w5 ⟨hB5, hpost⟩
    have hdx := decode_enc (by rw [HL1.out]; exact hl40) HRZ.out
    rcases hpost with ⟨hno, -⟩ | ⟨Ay, my, cy, Y, rfl, -, hsome, hY, hm40, hmc⟩
    · rw [hdx] at hno; cases hno
    rw [hdx] at hsome
    have hLY : L.map (·.e) = Y.map (·.e) := by injection hsome
    have hmy : my = n1 := by rw [← hY.n_, ← HL1.out]; exact (len_same hLY).symm
    subst hmy
    have HLY := Sl.mk hLY
    have HY := Sl.mk hY
    have hE5 := below_tr hE4 hB5
    have hB25 := below_tr hB34 hB5
    have HO5 := Sl.mk ((HO4.out.below hB5).more hB5.size)
    have hll : ((my : Int) == (my : Int)) = true := by simp
    clear HDE hsome hLY hY hdx
    go_wp2_with fail
    refine (HK.out _ hE5).mono ?_
    rintro e w6 ⟨rfl, hB6⟩
    go_wp2_with fail
    refine (make_any _).mono ?_
    rintro e w7 ⟨rfl, hB7⟩
    have hB57 := below_tr hB6 hB7
    have hE7 := below_tr hE5 hB57
    have HRE := Sl.mk (rencode_any A2 my c2 M w7 (by omega) ((((HZ.out.be hB2).be hB34).be hB5).be hB57) (plain_of HRZ2.out))
    obtain ⟨TT, hTT⟩ : ∃ TT, (i64s tabT).toArray = TT := ⟨_, rfl⟩
    rw [hTT] at HRE ⊢
    clear hTT
    go_wp2_with fail
    refine HRE.out.mono ?_
    rintro e w8 ⟨A8, n8, c8, rfl, ho8, hB8⟩
    rw [show encF M = encF L from (encF_same HSM.out).symm] at ho8
    have hn8 := bytes_n (Reads.of_own ho8)
    have hn3 := bytes_n HO5.out
    have HO8 := Sl.mk (Reads.of_own ho8)
    have hB58 := below_tr hB57 hB8
    have HBS := Sl.mk (bsame_any A3 A8 n3 c3 n8 c8 (encF L) (encF L) w8 (by omega) (by omega) ((HO5.out.below hB58).more hB58.size) HO8.out)
    have HEB := Sl.mk (show eqB (encF L) (encF L) = true by unfold eqB; simp)
    clear HRE ho8 hn8 hn3
    go_wp2_with fail
    refine HBS.out.mono ?_
    rintro e w9 ⟨rfl, k9, rfl⟩
    rw [HEB.out]
    have hB59 := below_drN hB58 k9
    have hE9 := below_tr hE5 hB59
    have HAS := Sl.mk (asame_any Ay A1 my cy my c1 Y L (w8.drewN k9) (by omega) (by omega) (HY.out.be hB59) ((((HX.out.be hB2).be hB34).be hB5).be hB59))
    have HYL := Sl.mk (show eqL Y L = true from (eqL_iff Y L).2 HLY.out.symm)
    rw [HYL.out] at HAS
    clear HBS
    go_wp2_with fail
    refine HAS.out.mono ?_
    rintro e w10 ⟨rfl, hB10⟩
    have hB510 := below_tr hB59 hB10
    have HOF := Sl.mk (aof_any Ay my cy Y w10 (by omega) (HY.out.be hB510))
    unfold OfPost at HOF
    clear HAS
    go_wp2_with fail
    refine HOF.out.mono ?_
    rintro e w11 ⟨A11, c11, rfl, ho11, hB11⟩
    have hB511 := below_tr hB510 hB11
    have hE11 := below_tr hE5 hB511
    have HRS := Sl.mk (rsames_any A11 A2 my c11 my c2 Y M w11 (by omega) (by omega) ⟨Reads.of_own ho11, fun x hx => (HY.out.be hB511).ok x hx⟩ ((((HZ.out.be hB2).be hB34).be hB5).be hB511))
    have HYM := Sl.mk (show eqL Y M = true from (eqL_iff Y M).2 (HLY.out.symm.trans HSM.out))
    rw [HYM.out] at HRS
    clear HOF ho11
    go_wp2_with fail
    refine HRS.out.mono ?_
    rintro e w12 ⟨rfl, hB12⟩
    go_wp2_with fail
    go_ret
    exact ⟨rfl, by first | exact below_tr hE11 hB12 | (obtain ⟨k, rfl⟩ := hB12; exact below_drN hE11 k)⟩

end Go.Proofs.YticcphppnmoogaaGreatDoor
