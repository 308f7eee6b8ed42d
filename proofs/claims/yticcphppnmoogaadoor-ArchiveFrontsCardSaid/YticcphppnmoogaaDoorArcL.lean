/-
  The walk of the law ArchiveFronts.
-/
import Derived.Test.YticcphppnmoogaaDoorArcK
namespace Go.Proofs.YticcphppnmoogaaDoor
open Go.RowKit
attribute [local go_sem ↓] Go.wp_at_zero Go.wp_at_succ

theorem take_take_lt {α : Type} {l : List α} {i j : Nat} (h : j ≤ i) : (l.take i).take j = l.take j := by rw [List.take_take, Nat.min_eq_left h]
theorem get_take {α : Type} {l : List α} {i j : Nat} (h : j < i) : (l.take i)[j]? = l[j]? := by rw [List.getElem?_take, if_pos h]

theorem check_front {l : List Ex} {N : Nat} {E : Int} (h40 : l.length ≤ 40) (h : CheckR l N E) : N ≤ l.length ∧ (E = 0 → N = l.length) ∧ (∀ j x, j < N → l[j]? = some x → refusedE x.e (l.take j) = 0) := by
  rcases h with ⟨h, _⟩ | ⟨_, h1, h2, h3⟩
  · omega
  · refine ⟨h1, fun h0 => ?_, h2⟩
    rcases h3 with ⟨h3, _⟩ | ⟨x, _, _, h4⟩
    · exact h3
    · exact absurd h0 h4
theorem check_take {l : List Ex} {N : Nat} (hN : N ≤ l.length) (h40 : l.length ≤ 40) (hz : ∀ j x, j < N → l[j]? = some x → refusedE x.e (l.take j) = 0) {M : Nat} {G : Int} (h : CheckR (l.take N) M G) : M = N ∧ G = 0 := by
  have hl : (l.take N).length = N := by rw [List.length_take]; omega
  rcases h with ⟨h, _⟩ | ⟨_, h1, h2, h3⟩
  · omega
  · rw [hl] at h1 h3
    rcases h3 with ⟨h3, h4⟩ | ⟨x, h3, h4, h5⟩
    · exact ⟨h3, h4⟩
    · have hM : M < N := by have := (List.getElem?_eq_some_iff.1 h3).1; omega
      rw [get_take hM] at h3
      rw [take_take_lt h1] at h4
      exact absurd (h4.trans (hz M x hM h3)) h5
theorem chk_all {e : En} {l : List Ex} (h : refusedE e l = 0) : ∀ j, j < 5 → chkE e l j = 0 := by
  unfold refusedE at h
  split at h
  · contradiction
  · split at h
    · contradiction
    · split at h
      · contradiction
      · split at h
        · contradiction
        · split at h
          · contradiction
          · rename_i h0 h1 h2 h3 h4
            intro j hj
            match j, hj with
            | 0, _ => simpa using h0
            | 1, _ => simpa using h1
            | 2, _ => simpa using h2
            | 3, _ => simpa using h3
            | 4, _ => simpa using h4
theorem chk_same (e : En) (l l' : List Ex) : ∀ j, j < 5 → chkE e l j = chkE e l' j := fun j hj => by
  match j, hj with
  | 0, _ => rfl
  | 1, _ => rfl
  | 2, _ => rfl
  | 3, _ => rfl
  | 4, _ => rfl
theorem eqP_refl (p : List ByteArray) : eqP p p = true := decide_eq_true rfl
theorem ref_twice {l : List Ex} {N r : Nat} {x : Ex} (hx : l[r]? = some x) (hr : r < N) (h : refusedE x.e (l.take r) = 0) : refusedE x.e (l.take N) = 8 := by
  have h5 := chk_all h
  have h6 : ∀ j, j < 5 → chkE x.e (l.take N) j = 0 := fun j hj => (chk_same x.e _ _ j hj).trans (h5 j hj)
  have hm : x ∈ l.take N := List.mem_of_getElem? ((get_take hr).trans hx)
  have h7 : placeE x.e.path (l.take N) = 8 := by unfold placeE; rw [if_pos (idxE_lt hm (eqP_refl _))]
  unfold refusedE
  rw [if_neg (by simp [h6 0 (by omega)]), if_neg (by simp [h6 1 (by omega)]), if_neg (by simp [h6 2 (by omega)]), if_neg (by simp [h6 3 (by omega)]), if_neg (by simp [h6 4 (by omega)])]
  exact h7
theorem check_twice {l : List Ex} {N r : Nat} {x y : Ex} (hN : N ≤ l.length) (hN39 : N ≤ 39) (hx : l[r]? = some x) (hr : r < N) (hy : y.e = x.e) (hz : ∀ j x, j < N → l[j]? = some x → refusedE x.e (l.take j) = 0) {M : Nat} {G : Int} (h : CheckR (l.take N ++ [y]) M G) : M = N ∧ G = 8 := by
  have hl : (l.take N).length = N := by rw [List.length_take]; omega
  have h8 := ref_twice hx hr (hz r x hr hx)
  have hlen : (l.take N ++ [y]).length = N + 1 := by rw [List.length_append, hl]; rfl
  have hget : ∀ j, j < N → (l.take N ++ [y])[j]? = l[j]? := fun j hj => by rw [List.getElem?_append_left (by omega), get_take hj]
  have htk : ∀ j, j ≤ N → (l.take N ++ [y]).take j = l.take j := fun j hj => by rw [List.take_append_of_le_length (by omega), take_take_lt hj]
  have hgN : (l.take N ++ [y])[N]? = some y := by rw [List.getElem?_append_right (by omega), hl]; simp
  rcases h with ⟨h, _⟩ | ⟨_, h1, h2, h3⟩
  · omega
  · rw [hlen] at h1 h3
    have hMN : M ≤ N := by
      rcases Nat.lt_or_ge N M with hlt | hge
      · have := h2 N y hlt hgN
        rw [htk N (Nat.le_refl _), hy, h8] at this
        cases this
      · exact hge
    rcases h3 with ⟨h3, h4⟩ | ⟨z, h3, h4, h5⟩
    · omega
    · rcases Nat.lt_or_ge M N with hlt | hge
      · rw [hget M hlt] at h3
        rw [htk M hMN] at h4
        exact absurd (h4.trans (hz M z hlt h3)) h5
      · obtain rfl : M = N := by omega
        rw [hgN] at h3
        injection h3 with h3
        subst h3
        rw [htk M (Nat.le_refl _), hy, h8] at h4
        exact ⟨rfl, h4⟩

theorem ToSt.exs {w : World} {base n c c' : Nat} {A A' : Option Addr} {l m : List Ex} (h : ToSt w base (.slice A n c) (.slice A' n c') n l m) : Exs w A n l :=
  ⟨Reads.of_own h.o4, fun x hx => (h.k4 x hx).1.ok⟩

theorem u64_range (a : Int) : 0 ≤ IntKind.u64.wrap a ∧ IntKind.u64.wrap a < 18446744073709551616 := by simp [IntKind.wrap, IntKind.bits, IntKind.signed]; omega

theorem idx_of (k : Int) (N : Nat) (h0 : 0 < N) (h1 : N ≤ 1000000) : ∃ r : Nat, r < N ∧ wrap64 ((IntKind.u64.wrap k).tmod (N : Int)) = (r : Int) := by
  obtain ⟨a0, a1⟩ := u64_range k
  obtain ⟨u, hu⟩ := Int.eq_ofNat_of_zero_le a0
  rw [hu]
  refine ⟨u % N, Nat.mod_lt _ h0, ?_⟩
  have e : ((u : Int).tmod (N : Int)) = ((u % N : Nat) : Int) := by rw [Int.tmod_eq_emod_of_nonneg (by omega)]; rfl
  have hlt := Nat.mod_lt u h0
  rw [e]
  unfold wrap64
  omega
theorem yieldsIf_loadA {P : Program} {ops : Array Oper} {S : World → Prop} {o : Oper} {a : Act} {v : Value} (hw : Region.wanted o (yielded ops a.tmps) = true) (ty : TypeId) (x : Operand) (ho : o.op = .load ty x) (ad : Addr) (u : Value) (hx : a.eval x = .pointer (some ad))
    (hL : ∀ w, S w → (loadVar ty ad).run P w = .ok u w) (hv : v = u := by rfl) : YieldsIf P ops S o v a := by
  subst hv
  exact .inl ⟨hw, fun w hS => by unfold execOp; simp only [ho, hx, Instr.loadAt, Instr.sureAddr, Sem.run_bind, Sem.run_pure, Result.andThen_ok, hL w hS]⟩
theorem Exs.lit {w : World} {A : Option Addr} {n : Nat} {l : List Ex} (h : Exs w A n l) {i : Nat} {x : Ex} (hi : l[i]? = some x) :
    ∃ b o, A = some ⟨b, o, none⟩ ∧ b < w.heap.size ∧ (∀ j v, (exC x)[j]? = some v → w.cell? ⟨b, o + i * 4 + j, none⟩ = some v) ∧ ExOk w w.heap.size x := by
  obtain ⟨ad, rfl, hb, hc, hok⟩ := h.at_ hi
  have hil : i < l.length := (List.getElem?_eq_some_iff.1 hi).1
  have hl := h.n_
  obtain ⟨ad', e', _, hcc⟩ := h.row.2 (by omega)
  have e'' := Option.some.inj e'
  subst e''
  have hlen : 0 < (exsC l).length := by rw [exsC_len]; omega
  have e := addr_lit (hcc 0 _ (List.getElem?_eq_getElem hlen))
  refine ⟨ad.block, ad.off, by rw [← e], hb, fun j v hv => ?_, hok⟩
  have h1 := hc j v hv
  rw [add_of_add, e, Addr.add_lit] at h1
  rw [Nat.add_assoc]
  exact h1
theorem reads_blk4 {w : World} {g : Nat} {T : TypeId} {a b c d : Value} (h : Blk w g T #[a, b, c, d]) : Reads w w.heap.size 4 (some ⟨g, 0, none⟩) 1 [a, b, c, d] :=
  ⟨rfl, fun _ => ⟨_, rfl, h.lt, fun j u hj => by
    rw [addr_add0, h.cell j]
    simpa using hj⟩⟩
theorem twice_exs {w : World} {A A9 : Option Addr} {N base c9 : Nat} {L : List Ex} {x : Ex} (h : Exs w A N L) (hx : ExOk w w.heap.size x) (ho : w.ownsRow base 34 4 (.slice A9 (N + 1) c9) (N + 1) (exsC L ++ exC x)) : Exs w A9 (N + 1) (L ++ [x]) := by
  refine ⟨?_, fun y hy => ?_⟩
  · have := Reads.of_own ho
    rw [exsC_app]
    have e : exsC [x] = exC x := by simp [exsC]
    rw [e]
    exact this
  · rcases List.mem_append.1 hy with h1 | h1
    · exact h.ok y h1
    · simp at h1; subst h1; exact hx

set_option maxRecDepth 100000 in
set_option maxHeartbeats 16000000 in
theorem fronts_walk (A : Option Addr) (n c : Nat) (l0 : List Ex) (k : Int) (w : World) (hn : n ≤ 9223372036854775807) (hI : Ins w A n l0) (hM : Mx w) :
    Calls Tryd.prog 3 #[.slice A n c, .int .i64 k] w fun e w' => e = .returned (.bool true) ∧ Below w.heap.size w w' := by
  have HT := Sl.mk (to_any A n c l0 w hn hI)
  have HM := Sl.mk hM
  obtain ⟨e0, he0, hx0, hx1, hx2⟩ := info_parts enInfo
  unfold ToPost at HT
  clear hI hM
  go_enter Tryd.func3, Tryd.ntmps3
  go_wp2_with fail
  refine HT.out.mono ?_
  rintro e w1 ⟨A1, A2, n1, c1, c2, l, m, rfl, hn41, hT, hB1⟩
  have HX := Sl.mk hT.exs
  have hcap := ownCapS hT.o4
  have HL := Sl.mk hT.exs.n_
  clear hT HT
  by_cases h40 : 40 < n1
  · have h40' : (40 : Int) < (n1 : Int) := by omega
    go_wp2_with fail
    refine (known_any _ (HM.out.be hB1)).mono ?_
    rintro e w2 ⟨rfl, hB2⟩
    go_wp2_with fail
    go_ret
    exact ⟨rfl, below_tr hB1 hB2⟩
  have h40' : ¬ (40 : Int) < (n1 : Int) := by omega
  go_wp2_with fail
  have HC := Sl.mk (acheck_any A1 n1 c1 l w1 (by omega) hcap HX.out (HM.out.be hB1))
  unfold CheckPost at HC
  refine HC.out.mono ?_
  rintro e w2 ⟨N, E, rfl, hR, hB2⟩
  obtain ⟨hNl, hE0, hz⟩ := check_front (by rw [HL.out]; omega) hR
  have HZ := Sl.mk hz
  have hNn : N ≤ n1 := by rw [← HL.out]; exact hNl
  have hE00 : E = 0 → N = n1 := fun h => by rw [← HL.out]; exact hE0 h
  have hE2 := below_tr hB1 hB2
  have HX2 := Sl.mk (HX.out.be hB2)
  clear hR hNl hE0 hz HC hB2 hB1
  have hd : decide ((n1 : Int) < (N : Int)) = false := by simp; omega
  have hguard : (E == 0) = true → ((N : Int) != (n1 : Int)) = false := fun h => by
    have := hE00 (by simpa using h)
    simp; omega
  by_cases hE : (E == 0) = true
  all_goals
    have hEx := hE
    go_wp2_with fail
    have HC2 := Sl.mk (acheck_any A1 N c1 (l.take N) w2 (by omega) ⟨by omega, hcap.2⟩ (HX2.out.take_ hNn) (HM.out.be hE2))
    unfold CheckPost at HC2
    refine HC2.out.mono ?_
    rintro e w3 ⟨M, G, rfl, hR3, hB3⟩
    obtain ⟨hMN, rfl⟩ := check_take (by rw [HL.out]; exact hNn) (by rw [HL.out]; omega) HZ.out hR3
    rw [hMN]
    have hE3 := below_tr hE2 hB3
    have HX3 := Sl.mk (HX2.out.be hB3)
    clear hR3 hB3 HC2 hMN
    by_cases h0 : N = 0
    · subst h0
      go_wp2_with fail
      refine (known_any _ (HM.out.be hE3)).mono ?_
      rintro e w4 ⟨rfl, hB4⟩
      go_wp2_with fail
      go_ret
      exact ⟨rfl, below_tr hE3 hB4⟩
    have h0' : ((N : Int) == 0) = false := by simp; omega
    by_cases h39 : 39 < N
    · have h39' : (39 : Int) < (N : Int) := by omega
      go_wp2_with fail
      refine (known_any _ (HM.out.be hE3)).mono ?_
      rintro e w4 ⟨rfl, hB4⟩
      go_wp2_with fail
      go_ret
      exact ⟨rfl, below_tr hE3 hB4⟩
    have h39' : ¬ (39 : Int) < (N : Int) := by omega
    go_wp2_with fail
    obtain ⟨r, hr, hrk⟩ := idx_of k N (by omega) (by omega)
    rw [hrk]
    obtain ⟨x, hx⟩ : ∃ x, l[r]? = some x := ⟨_, List.getElem?_eq_getElem (by rw [HL.out]; omega)⟩
    have HXR := Sl.mk hx
    obtain ⟨xb, xo, rfl, hxb, hxc, hxok⟩ := HX3.out.lit hx
    have hrn : r < n1 := by omega
    have hNc : N ≤ c1 := Nat.le_trans hNn hcap.1
    clear hrk hx
    obtain ⟨wd, hwd⟩ : ∃ wd, w3.drew = wd := ⟨_, rfl⟩
    have hwb : Below w3.heap.size w3 wd := by rw [← hwd]; exact (Below.refl _ _).drew
    have hEd := below_tr hE3 hwb
    have HXW : Sl (∀ W, Below wd.heap.size wd W → Exs W (some ⟨xb, xo, none⟩) N (l.take N)) := Sl.mk (fun W hW => (HX3.out.be (below_tr hwb hW)).take_ hNn)
    have HOK : Sl (∀ W, Below wd.heap.size wd W → ExOk W W.heap.size x) := Sl.mk (fun W hW => hxok.be (below_tr hwb hW))
    have HLV : Sl (∀ W, Below wd.heap.size wd W → (loadVar 34 ⟨xb, xo + r * 4, none⟩).run Tryd.prog W = .ok (.agg #[.slice x.pa x.e.path.length x.pc, .int .i64 x.e.kind, .int .i64 x.e.mode, .slice x.da x.e.data.length x.dc]) W) := Sl.mk (fun W hW =>
      run_loadVar_at W ⟨xb, xo + r * 4, none⟩ 34 (exC x) _ (fun j v hv => by rw [Addr.add_lit]; exact ((below_tr hwb hW).cell (p := ⟨xb, xo + r * 4 + j, none⟩) hxb).trans (hxc j v hv)) Tryd.underlying34 rfl (by rw [enSize, exC_len]))
    have HSF : Sl (∀ W : World, Below wd.heap.size wd W → True) := Sl.mk (fun _ _ => trivial)
    refine wp_region_X (fun W => Below wd.heap.size wd W) [10, 11] (by kernel_rfl) (by rw [hwd]; exact Below.refl _ _) (fun hS => ?_)
    rw [hwd] at hS ⊢
    clear hwd hxb hxc hxok
    refine wpAnyX_S (i := 1) (v := ?_) rfl (by kernel_rfl) (by kernel_rfl) (by kernel_rfl) (by kernel_rfl) (fun _ _ _ h => h) (Or.inl ⟨by rfl, ?_⟩) hS ?_
    rotate_left 1
    · (intro w' hw'; (first | rw [hw'] | (have hw2 := HSF.out w' hw') | skip); go_simp; (try with_reducible rfl))
    simp only [Act.put, List.setIfInBounds_toArray, List.set_cons_zero, List.set_cons_succ]
    refine wpAnyX_S (i := 2) (v := ?_) rfl (by kernel_rfl) (by kernel_rfl) (by kernel_rfl) (by kernel_rfl) (fun _ _ _ h => h) (Or.inl ⟨by rfl, ?_⟩) hS ?_
    rotate_left 1
    · (intro w' hw'; (first | rw [hw'] | (have hw2 := HSF.out w' hw') | skip); go_simp; (try with_reducible rfl))
    simp only [Act.put, List.setIfInBounds_toArray, List.set_cons_zero, List.set_cons_succ]
    refine wpAnyX_S (i := 3) (v := ?_) rfl (by kernel_rfl) (by kernel_rfl) (by kernel_rfl) (by kernel_rfl) (fun _ _ _ h => h) (Or.inl ⟨by rfl, ?_⟩) hS ?_
    rotate_left 1
    · (intro w' hw'; (first | rw [hw'] | (have hw2 := HSF.out w' hw') | skip); go_simp; (try with_reducible rfl))
    simp only [Act.put, List.setIfInBounds_toArray, List.set_cons_zero, List.set_cons_succ]
    refine wpAnyX_S (i := 5) (v := ?_) rfl (by kernel_rfl) (by kernel_rfl) (by kernel_rfl) (by kernel_rfl) (fun _ _ _ h => h) (Or.inl ⟨by rfl, ?_⟩) hS ?_
    rotate_left 1
    · (intro w' hw'; (first | rw [hw'] | (have hw2 := HSF.out w' hw') | skip); go_simp; (try with_reducible rfl))
    simp only [Act.put, List.setIfInBounds_toArray, List.set_cons_zero, List.set_cons_succ]
    refine wpAnyX_S (i := 6) (v := ?_) rfl (by kernel_rfl) (by kernel_rfl) (by kernel_rfl) (by kernel_rfl) (fun _ _ _ h => h) (Or.inl ⟨by rfl, ?_⟩) hS ?_
    rotate_left 1
    · (intro w' hw'; (first | rw [hw'] | (have hw2 := HSF.out w' hw') | skip); go_simp; (try with_reducible rfl))
    simp only [Act.put, List.setIfInBounds_toArray, List.set_cons_zero, List.set_cons_succ]
    refine wpAnyX_S (i := 7) (v := ?_) rfl (by kernel_rfl) (by kernel_rfl) (by kernel_rfl) (by kernel_rfl) (fun _ _ _ h => h) (Or.inl ⟨by rfl, ?_⟩) hS ?_
    rotate_left 1
    · (intro w' hw'; (first | rw [hw'] | (have hw2 := HSF.out w' hw') | skip); go_simp; (try with_reducible rfl))
    simp only [Act.put, List.setIfInBounds_toArray, List.set_cons_zero, List.set_cons_succ]
    refine wpAnyX_S (i := 8) (v := .agg #[.slice x.pa x.e.path.length x.pc, .int .i64 x.e.kind, .int .i64 x.e.mode, .slice x.da x.e.data.length x.dc]) rfl (by kernel_rfl) (by kernel_rfl) (by kernel_rfl) (by kernel_rfl) (fun _ _ _ h => h) (yieldsIf_loadA (by rfl) 34 (.tmp 76) rfl ⟨xb, xo + r * 4, none⟩ _ rfl (fun w' hw' => HLV.out w' hw')) hS ?_
    simp only [Act.put, List.setIfInBounds_toArray, List.set_cons_zero, List.set_cons_succ]
    refine wpAnyX_twoL (i := 0) (j := 9) rfl rfl (by kernel_rfl) rfl rfl ?_ ?_
    · refine wp_of_run (v := .slice (some ⟨wd.heap.size, 0, none⟩) 0 0) (w' := wd.alloc (.cells #[] 34)) (by go_simp) ⟨fun _ => hS.alloc hS.size _, ?_⟩
      simp only [Act.put, List.setIfInBounds_toArray, List.set_cons_zero, List.set_cons_succ]
      have e1 := own_mono (b' := wd.heap.size) (own_empty wd 34 4) hS.size
      have hX1 := hS.alloc hS.size (.cells #[] 34)
      obtain ⟨wx1, hwn⟩ : ∃ wn, wd.alloc (.cells #[] 34) = wn := ⟨_, rfl⟩
      rw [hwn] at e1 hX1  ⊢
      clear hwn
      refine wpAnyX_twoL (i := 4) (j := 9) rfl rfl (by kernel_rfl) rfl rfl ?_ ?_
      · refine wp_append_any wx1 (.tmp 69) (.tmp 72) 23 rfl wd.heap.size 34 e0 (.agg #[.slice none 0 0, .int .i64 0, .int .i64 0, .slice none 0 0]) 4 64 Tryd.underlying23 he0 hx0 hx1 hx2 (by rfl) (by decide) (.slice (some ⟨wd.heap.size, 0, none⟩) 0 0) 0 [] rfl e1 wx1.heap.size (some ⟨xb, xo, none⟩) N c1 (exsC (l.take N)) rfl (HXW.out _ hX1).row (exsC_one _) (by unfold maxLen; omega) (by omega) hX1.size ?_
        intro vr wx2 ho hg hb
        have hX2 := hX1.grown hg hX1.size (fun g hg => ownGe e1 hg)
        have r1 : wx2.ownsRow wd.heap.size 34 4 vr N (exsC (l.take N)) := by simpa using ho
        clear ho hg hb e1
        obtain ⟨Ar, cr, rfl⟩ := ownForm r1
        refine ⟨fun _ => hX2, ?_⟩
        simp only [Act.put, List.setIfInBounds_toArray, List.set_cons_zero, List.set_cons_succ]
        refine wpAnyX_oneL (k := 9) rfl (by kernel_rfl) rfl ?_
        refine wp_of_run (v := .slice (some ⟨wx2.heap.size, 0, none⟩) 1 1) (w' := wx2.alloc (.cells #[.slice x.pa x.e.path.length x.pc, .int .i64 x.e.kind, .int .i64 x.e.mode, .slice x.da x.e.data.length x.dc] 34)) (by go_simp) ⟨fun _ => hX2.alloc hX2.size _, ?_⟩
        simp only [Act.put, List.setIfInBounds_toArray, List.set_cons_zero, List.set_cons_succ]
        have bk := Blk.new wx2 34 #[.slice x.pa x.e.path.length x.pc, .int .i64 x.e.kind, .int .i64 x.e.mode, .slice x.da x.e.data.length x.dc]
        have hX3 := hX2.alloc hX2.size (.cells #[.slice x.pa x.e.path.length x.pc, .int .i64 x.e.kind, .int .i64 x.e.mode, .slice x.da x.e.data.length x.dc] 34)
        have r1_3 := own_below r1 ((Below.refl wx2.heap.size wx2).alloc (Nat.le_refl _) (.cells #[.slice x.pa x.e.path.length x.pc, .int .i64 x.e.kind, .int .i64 x.e.mode, .slice x.da x.e.data.length x.dc] 34))
        obtain ⟨wx3, hwn⟩ : ∃ wn, wx2.alloc (.cells #[.slice x.pa x.e.path.length x.pc, .int .i64 x.e.kind, .int .i64 x.e.mode, .slice x.da x.e.data.length x.dc] 34) = wn := ⟨_, rfl⟩
        rw [hwn] at bk hX3 r1_3 ⊢
        obtain ⟨g9, hgn⟩ : ∃ g, wx2.heap.size = g := ⟨_, rfl⟩
        rw [hgn] at bk  ⊢
        clear hwn hgn
        refine wpAnyX_tailF [10, 11] (by kernel_rfl) (by rfl) (by rfl) (by rfl) ?_
        simp only [List.filterMap_cons, List.filterMap_nil, List.getElem?_cons_succ, List.getElem?_cons_zero]
        refine wpList_append_anyG _ rfl (.tmp 73) (.tmp 78) 23 rfl wd.heap.size 34 e0 (.agg #[.slice none 0 0, .int .i64 0, .int .i64 0, .slice none 0 0]) 4 64 Tryd.underlying23 he0 hx0 hx1 hx2 (by rfl) (by decide) (.slice Ar N cr) N (exsC (l.take N)) rfl r1_3 wx3.heap.size (some ⟨g9, 0, none⟩) 1 1 (exC x) rfl (reads_blk4 bk) (exC_one x) (by unfold maxLen; omega) (by omega) hX3.size ?_
        intro v9 w9 ho9 hg9 hb9
        obtain ⟨A9, c9, rfl⟩ := ownForm ho9
        have hg99 := hX3.grown hg9 hX3.size (fun g hg => ownGe r1_3 hg)
        have hE9 := below_tr hEd hg99
        have HX9 := Sl.mk (twice_exs (HXW.out _ hg99) (HOK.out _ hg99) ho9)
        have hcap9 := ownCapS ho9
        clear ho9 hg9 hb9 hg99 r1_3 bk
        go_wp2_with fail
        refine NoPanic.normal ?_
        go_wp2_with fail
        have HC9 := Sl.mk (acheck_any A9 (N + 1) c9 (l.take N ++ [x]) w9 (by omega) hcap9 HX9.out (HM.out.be hE9))
        unfold CheckPost at HC9
        refine HC9.out.mono ?_
        rintro e w10 ⟨M9, G9, rfl, hR9, hB9⟩
        obtain ⟨hM9, rfl⟩ := check_twice (y := x) (by rw [HL.out]; exact hNn) (by omega) HXR.out hr rfl HZ.out hR9
        rw [hM9]
        have hE10 := below_tr hE9 hB9
        clear hR9 hB9 HC9 hM9
        go_wp2_with fail
        refine (known_any _ (HM.out.be hE10)).mono ?_
        rintro e w11 ⟨rfl, hB11⟩
        go_wp2_with fail
        go_ret
        exact ⟨rfl, below_tr hE10 hB11⟩
      · refine wp_of_run (v := .slice (some ⟨wx1.heap.size, 0, none⟩) 1 1) (w' := wx1.alloc (.cells #[.slice x.pa x.e.path.length x.pc, .int .i64 x.e.kind, .int .i64 x.e.mode, .slice x.da x.e.data.length x.dc] 34)) (by go_simp) ⟨fun _ => hX1.alloc hX1.size _, ?_⟩
        simp only [Act.put, List.setIfInBounds_toArray, List.set_cons_zero, List.set_cons_succ]
        have bk := Blk.new wx1 34 #[.slice x.pa x.e.path.length x.pc, .int .i64 x.e.kind, .int .i64 x.e.mode, .slice x.da x.e.data.length x.dc]
        have hX2 := hX1.alloc hX1.size (.cells #[.slice x.pa x.e.path.length x.pc, .int .i64 x.e.kind, .int .i64 x.e.mode, .slice x.da x.e.data.length x.dc] 34)
        have e1_2 := own_below e1 ((Below.refl wx1.heap.size wx1).alloc (Nat.le_refl _) (.cells #[.slice x.pa x.e.path.length x.pc, .int .i64 x.e.kind, .int .i64 x.e.mode, .slice x.da x.e.data.length x.dc] 34))
        have nb1 := ownNeLt' e1 (Nat.le_refl _)
        obtain ⟨wx2, hwn⟩ : ∃ wn, wx1.alloc (.cells #[.slice x.pa x.e.path.length x.pc, .int .i64 x.e.kind, .int .i64 x.e.mode, .slice x.da x.e.data.length x.dc] 34) = wn := ⟨_, rfl⟩
        rw [hwn] at bk hX2 e1_2 ⊢
        obtain ⟨g9, hgn⟩ : ∃ g, wx1.heap.size = g := ⟨_, rfl⟩
        rw [hgn] at bk nb1 ⊢
        clear hwn hgn
        refine wpAnyX_oneL (k := 4) rfl (by kernel_rfl) rfl ?_
        refine wp_append_any wx2 (.tmp 69) (.tmp 72) 23 rfl wd.heap.size 34 e0 (.agg #[.slice none 0 0, .int .i64 0, .int .i64 0, .slice none 0 0]) 4 64 Tryd.underlying23 he0 hx0 hx1 hx2 (by rfl) (by decide) (.slice (some ⟨wd.heap.size, 0, none⟩) 0 0) 0 [] rfl e1_2 wx2.heap.size (some ⟨xb, xo, none⟩) N c1 (exsC (l.take N)) rfl (HXW.out _ hX2).row (exsC_one _) (by unfold maxLen; omega) (by omega) hX2.size ?_
        intro vr wx3 ho hg hb
        have hX3 := hX2.grown hg hX2.size (fun g hg => ownGe e1_2 hg)
        have bk_3 := Blk.grown bk hg (fun e => nb1 e.symm)
        have r1 : wx3.ownsRow wd.heap.size 34 4 vr N (exsC (l.take N)) := by simpa using ho
        clear ho hg hb e1_2
        obtain ⟨Ar, cr, rfl⟩ := ownForm r1
        refine ⟨fun _ => hX3, ?_⟩
        simp only [Act.put, List.setIfInBounds_toArray, List.set_cons_zero, List.set_cons_succ]
        refine wpAnyX_tailF [10, 11] (by kernel_rfl) (by rfl) (by rfl) (by rfl) ?_
        simp only [List.filterMap_cons, List.filterMap_nil, List.getElem?_cons_succ, List.getElem?_cons_zero]
        refine wpList_append_anyG _ rfl (.tmp 73) (.tmp 78) 23 rfl wd.heap.size 34 e0 (.agg #[.slice none 0 0, .int .i64 0, .int .i64 0, .slice none 0 0]) 4 64 Tryd.underlying23 he0 hx0 hx1 hx2 (by rfl) (by decide) (.slice Ar N cr) N (exsC (l.take N)) rfl r1 wx3.heap.size (some ⟨g9, 0, none⟩) 1 1 (exC x) rfl (reads_blk4 bk_3) (exC_one x) (by unfold maxLen; omega) (by omega) hX3.size ?_
        intro v9 w9 ho9 hg9 hb9
        obtain ⟨A9, c9, rfl⟩ := ownForm ho9
        have hg99 := hX3.grown hg9 hX3.size (fun g hg => ownGe r1 hg)
        have hE9 := below_tr hEd hg99
        have HX9 := Sl.mk (twice_exs (HXW.out _ hg99) (HOK.out _ hg99) ho9)
        have hcap9 := ownCapS ho9
        clear ho9 hg9 hb9 hg99 r1 bk_3
        go_wp2_with fail
        refine NoPanic.normal ?_
        go_wp2_with fail
        have HC9 := Sl.mk (acheck_any A9 (N + 1) c9 (l.take N ++ [x]) w9 (by omega) hcap9 HX9.out (HM.out.be hE9))
        unfold CheckPost at HC9
        refine HC9.out.mono ?_
        rintro e w10 ⟨M9, G9, rfl, hR9, hB9⟩
        obtain ⟨hM9, rfl⟩ := check_twice (y := x) (by rw [HL.out]; exact hNn) (by omega) HXR.out hr rfl HZ.out hR9
        rw [hM9]
        have hE10 := below_tr hE9 hB9
        clear hR9 hB9 HC9 hM9
        go_wp2_with fail
        refine (known_any _ (HM.out.be hE10)).mono ?_
        rintro e w11 ⟨rfl, hB11⟩
        go_wp2_with fail
        go_ret
        exact ⟨rfl, below_tr hE10 hB11⟩
    · refine wp_of_run (v := .slice (some ⟨wd.heap.size, 0, none⟩) 1 1) (w' := wd.alloc (.cells #[.slice x.pa x.e.path.length x.pc, .int .i64 x.e.kind, .int .i64 x.e.mode, .slice x.da x.e.data.length x.dc] 34)) (by go_simp) ⟨fun _ => hS.alloc hS.size _, ?_⟩
      simp only [Act.put, List.setIfInBounds_toArray, List.set_cons_zero, List.set_cons_succ]
      have bk := Blk.new wd 34 #[.slice x.pa x.e.path.length x.pc, .int .i64 x.e.kind, .int .i64 x.e.mode, .slice x.da x.e.data.length x.dc]
      have hX1 := hS.alloc hS.size (.cells #[.slice x.pa x.e.path.length x.pc, .int .i64 x.e.kind, .int .i64 x.e.mode, .slice x.da x.e.data.length x.dc] 34)
      obtain ⟨wx1, hwn⟩ : ∃ wn, wd.alloc (.cells #[.slice x.pa x.e.path.length x.pc, .int .i64 x.e.kind, .int .i64 x.e.mode, .slice x.da x.e.data.length x.dc] 34) = wn := ⟨_, rfl⟩
      rw [hwn] at bk hX1  ⊢
      clear hwn
      refine wpAnyX_oneL (k := 0) rfl (by kernel_rfl) rfl ?_
      refine wp_of_run (v := .slice (some ⟨wx1.heap.size, 0, none⟩) 0 0) (w' := wx1.alloc (.cells #[] 34)) (by go_simp) ⟨fun _ => hX1.alloc hX1.size _, ?_⟩
      simp only [Act.put, List.setIfInBounds_toArray, List.set_cons_zero, List.set_cons_succ]
      have e1 := own_mono (b' := wd.heap.size) (own_empty wx1 34 4) hX1.size
      have hX2 := hX1.alloc hX1.size (.cells #[] 34)
      have lt9 := Blk.lt bk
      have bk_2 := Blk.alloc bk (.cells #[] 34)
      obtain ⟨wx2, hwn⟩ : ∃ wn, wx1.alloc (.cells #[] 34) = wn := ⟨_, rfl⟩
      rw [hwn] at e1 hX2 bk_2 ⊢
      obtain ⟨g1, hgn⟩ : ∃ g, wx1.heap.size = g := ⟨_, rfl⟩
      rw [hgn] at e1 lt9 ⊢
      clear hwn hgn
      have nb1 : (Value.slice (some ⟨g1, 0, none⟩) 0 0).ownBlock ≠ some wd.heap.size := fun e => by simp [Value.ownBlock] at e; omega
      refine wpAnyX_oneL (k := 4) rfl (by kernel_rfl) rfl ?_
      refine wp_append_any wx2 (.tmp 69) (.tmp 72) 23 rfl wd.heap.size 34 e0 (.agg #[.slice none 0 0, .int .i64 0, .int .i64 0, .slice none 0 0]) 4 64 Tryd.underlying23 he0 hx0 hx1 hx2 (by rfl) (by decide) (.slice (some ⟨g1, 0, none⟩) 0 0) 0 [] rfl e1 wx2.heap.size (some ⟨xb, xo, none⟩) N c1 (exsC (l.take N)) rfl (HXW.out _ hX2).row (exsC_one _) (by unfold maxLen; omega) (by omega) hX2.size ?_
      intro vr wx3 ho hg hb
      have hX3 := hX2.grown hg hX2.size (fun g hg => ownGe e1 hg)
      have bk_3 := Blk.grown bk_2 hg (fun e => nb1 e.symm)
      have r1 : wx3.ownsRow wd.heap.size 34 4 vr N (exsC (l.take N)) := by simpa using ho
      clear ho hg hb e1
      obtain ⟨Ar, cr, rfl⟩ := ownForm r1
      refine ⟨fun _ => hX3, ?_⟩
      simp only [Act.put, List.setIfInBounds_toArray, List.set_cons_zero, List.set_cons_succ]
      refine wpAnyX_tailF [10, 11] (by kernel_rfl) (by rfl) (by rfl) (by rfl) ?_
      simp only [List.filterMap_cons, List.filterMap_nil, List.getElem?_cons_succ, List.getElem?_cons_zero]
      refine wpList_append_anyG _ rfl (.tmp 73) (.tmp 78) 23 rfl wd.heap.size 34 e0 (.agg #[.slice none 0 0, .int .i64 0, .int .i64 0, .slice none 0 0]) 4 64 Tryd.underlying23 he0 hx0 hx1 hx2 (by rfl) (by decide) (.slice Ar N cr) N (exsC (l.take N)) rfl r1 wx3.heap.size (some ⟨wd.heap.size, 0, none⟩) 1 1 (exC x) rfl (reads_blk4 bk_3) (exC_one x) (by unfold maxLen; omega) (by omega) hX3.size ?_
      intro v9 w9 ho9 hg9 hb9
      obtain ⟨A9, c9, rfl⟩ := ownForm ho9
      have hg99 := hX3.grown hg9 hX3.size (fun g hg => ownGe r1 hg)
      have hE9 := below_tr hEd hg99
      have HX9 := Sl.mk (twice_exs (HXW.out _ hg99) (HOK.out _ hg99) ho9)
      have hcap9 := ownCapS ho9
      clear ho9 hg9 hb9 hg99 r1 bk_3
      go_wp2_with fail
      refine NoPanic.normal ?_
      go_wp2_with fail
      have HC9 := Sl.mk (acheck_any A9 (N + 1) c9 (l.take N ++ [x]) w9 (by omega) hcap9 HX9.out (HM.out.be hE9))
      unfold CheckPost at HC9
      refine HC9.out.mono ?_
      rintro e w10 ⟨M9, G9, rfl, hR9, hB9⟩
      obtain ⟨hM9, rfl⟩ := check_twice (y := x) (by rw [HL.out]; exact hNn) (by omega) HXR.out hr rfl HZ.out hR9
      rw [hM9]
      have hE10 := below_tr hE9 hB9
      clear hR9 hB9 HC9 hM9
      go_wp2_with fail
      refine (known_any _ (HM.out.be hE10)).mono ?_
      rintro e w11 ⟨rfl, hB11⟩
      go_wp2_with fail
      go_ret
      exact ⟨rfl, below_tr hE10 hB11⟩

end Go.Proofs.YticcphppnmoogaaDoor
