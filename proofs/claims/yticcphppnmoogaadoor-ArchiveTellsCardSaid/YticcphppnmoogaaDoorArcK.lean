/-
  The contracts of Encode of no entries, and of the law's known.
-/
import Derived.Test.YticcphppnmoogaaDoorArcI
import Derived.Lib.SlBytesConst
import Derived.Lib.SmallJoins
namespace Go.Proofs.YticcphppnmoogaaDoor
open Go.RowKit
attribute [local go_sem ↓] Go.wp_at_zero Go.wp_at_succ

theorem ref_known : refusedE ⟨[⟨#[120]⟩], 2, 511, [46, 46, 47, 121]⟩ ([] : List Ex) = 10 := by decide +kernel
theorem check_nil {N : Nat} {E : Int} (h : CheckR [] N E) : N = 0 ∧ E = 0 := by
  rcases h with ⟨h, _⟩ | ⟨_, h, _, h2⟩
  · simp at h
  · have h0 : N = 0 := by simpa using h
    subst h0
    rcases h2 with ⟨_, h2⟩ | ⟨x, hx, _⟩
    · exact ⟨rfl, h2⟩
    · simp at hx
theorem check_known {x : Ex} (hx : refusedE x.e [] = 10) {N : Nat} {E : Int} (h : CheckR [x] N E) : N = 0 ∧ E = 10 := by
  rcases h with ⟨h, _⟩ | ⟨_, h, hz, h2⟩
  · simp at h
  · by_cases h0 : 0 < N
    · have := hz 0 x h0 rfl
      rw [show ([x] : List Ex).take 0 = [] from rfl, hx] at this
      cases this
    · obtain rfl : N = 0 := by omega
      rcases h2 with ⟨h2, _⟩ | ⟨y, hy, h2, _⟩
      · simp at h2
      · simp at hy
        subst hy
        exact ⟨rfl, by rw [h2]; exact hx⟩
theorem exs_nil (w : World) : Exs w none 0 [] := ⟨Reads.none_, fun x hx => by cases hx⟩
/-- A literal of bytes behind its conversion, and what is built behind it. -/
theorem mark_cells (w : World) (l : List Value) (t : TypeId) (fr : Nat × Nat) (o : Obj) : ∀ b, some (⟨w.heap.size, 0, none⟩ : Addr) = some b → ∀ j u, l[j]? = some u → ((w.alloc (.cells l.toArray t fr)).alloc o).cell? (b.add j) = some u := fun b hb j u hj => by
  rw [← Option.some.inj hb]
  have hadd : (⟨w.heap.size, 0, none⟩ : Addr).add j = ⟨w.heap.size, j, none⟩ := by unfold Addr.add; split <;> simp_all
  rw [hadd, World.cell?_alloc_lt _ _ _ (by simp), World.cell?_alloc_mark]
  simpa using hj
theorem new_cells (w : World) (v : Value) (t : TypeId) : ∀ j u, [v][j]? = some u → (w.alloc (.cells #[v] t)).cell? ((⟨w.heap.size, 0, none⟩ : Addr).add j) = some u := fun j u hj => by
  obtain ⟨ad, e, _, h⟩ := (reads_new1 w v t (Nat.lt_succ_self _)).2 (by omega)
  rw [Option.some.inj e]
  exact h j u hj

def EncNil (w : World) (e : Ending) (w' : World) : Prop := ∃ (A : Option Addr) (c : Nat), e = .returned (.tuple #[.slice A 5 c, .int .i64 0]) ∧ Reads w' w'.heap.size 1 A 5 (u8s [67, 82, 69, 76, 0]) ∧ Below w.heap.size w w'

set_option maxRecDepth 100000 in
set_option maxHeartbeats 2000000 in
theorem encode_nil (w : World) (hM : Mx w) : Calls Tryd.prog 18 #[.slice none 0 0] w (EncNil w) := by
  have HC := Sl.mk (acheck_any none 0 0 [] w (by omega) ⟨by omega, by omega⟩ (exs_nil w) hM)
  obtain ⟨j0, hj0, hy0, hy1, hy2⟩ := info_parts u8Info
  have kc := fun (w : World) (C : Array Value) (n c : Nat) => Lib.run_convert_bytes_const (P := Tryd.prog) w 32 5 C n c Tryd.underlying32 Tryd.underlying5
  unfold CheckPost at HC
  clear hM
  go_enter Tryd.func18, Tryd.ntmps18
  go_wp2_with fail
  refine HC.out.mono ?_
  rintro e w1 ⟨N, E, rfl, hR, hB⟩
  obtain ⟨rfl, rfl⟩ := check_nil hR
  clear hR
  have hmc := mark_cells w1 [.int .u8 67, .int .u8 82, .int .u8 69, .int .u8 76] 5 (4, 5) (.cells #[.int .u8 0] 5)
  have HMC := Sl.mk hmc
  have HNC := Sl.mk (new_cells (w1.alloc (.cells #[.int .u8 67, .int .u8 82, .int .u8 69, .int .u8 76] 5 (4, 5))) (.int .u8 0) 5)
  clear hmc
  go_wp2_with (at_builtin; refine wpList_append_grows _ rfl (.tmp 18) (.tmp 22) 32 rfl 5 j0 (.int .u8 0) 1 1 Tryd.underlying32 hj0 hy0 hy1 hy2 rfl (by decide) (some ⟨w1.heap.size, 0, none⟩) 4 4 [.int .u8 67, .int .u8 82, .int .u8 69, .int .u8 76] rfl (fun e => by cases e) rfl HMC.out ⟨w1.heap.size + 1, 0, none⟩ 1 1 [.int .u8 0] rfl rfl (by simpa using HNC.out) (by intro u hu; simp at hu; subst hu; rfl) (by omega) (by unfold maxLen; omega) (by omega) ?_)
  intro v2 w2 ho2 hg2
  obtain ⟨A2, c2, rfl⟩ := ownForm ho2
  have hE2 : Below w.heap.size w w2 := (below_al (below_al hB _) _).grown hg2 (by have := hB.size; simp; omega) (fun g hg => by cases hg)
  have HR2 := Sl.mk (Reads.of_own ho2)
  clear ho2 hg2 hB
  go_wp2_with fail
  refine wp_loop_rounds 1 ?_
  rw [rounds_succ]
  go_wp2_with fail
  go_ret2
  exact ⟨A2, c2, rfl, HR2.out, hE2⟩

def xK (w : World) : Ex := ⟨⟨[⟨#[120]⟩], 2, 511, [46, 46, 47, 121]⟩, some ⟨w.heap.size, 0, none⟩, 1, some ⟨w.heap.size + 1, 0, none⟩, 4⟩
theorem addr_add0 (g j : Nat) : (⟨g, 0, none⟩ : Addr).add j = ⟨g, j, none⟩ := by unfold Addr.add; split <;> simp_all
theorem known_exs (w : World) : Exs (((w.alloc (.cells #[.string ⟨#[120]⟩] 9)).alloc (.cells #[.int .u8 46, .int .u8 46, .int .u8 47, .int .u8 121] 5 (4, 5))).alloc (.cells #[.slice (some ⟨w.heap.size, 0, none⟩) 1 1, .int .i64 2, .int .i64 511, .slice (some ⟨w.heap.size + 1, 0, none⟩) 4 4] 34)) (some ⟨w.heap.size + 1 + 1, 0, none⟩) 1 [xK w] := by
  obtain ⟨w1, hw1⟩ : ∃ w1, w.alloc (.cells #[.string ⟨#[120]⟩] 9) = w1 := ⟨_, rfl⟩
  obtain ⟨w2, hw2⟩ : ∃ w2, w1.alloc (.cells #[.int .u8 46, .int .u8 46, .int .u8 47, .int .u8 121] 5 (4, 5)) = w2 := ⟨_, rfl⟩
  have s1 : w1.heap.size = w.heap.size + 1 := by rw [← hw1]; simp
  have s2 : w2.heap.size = w.heap.size + 1 + 1 := by rw [← hw2]; simp [s1]
  rw [hw1, hw2, ← s2]
  have r1 : Reads w1 w1.heap.size 1 (some ⟨w.heap.size, 0, none⟩) 1 (strV [⟨#[120]⟩]) := by rw [← hw1]; exact reads_new1 w _ _ (by simp)
  have r2 : Reads w2 w2.heap.size 1 (some ⟨w.heap.size + 1, 0, none⟩) 4 (u8s [46, 46, 47, 121]) := by
    refine ⟨rfl, fun _ => ⟨_, rfl, by show w.heap.size + 1 < _; omega, fun j u hj => ?_⟩⟩
    rw [addr_add0, ← s1, ← hw2, World.cell?_alloc_mark]
    simpa [u8s] using hj
  have b2 : Below w1.heap.size w1 w2 := by rw [← hw2]; exact (Below.refl _ _).alloc (Nat.le_refl _) _
  have b3 := (Below.refl w2.heap.size w2).alloc (Nat.le_refl _) (.cells #[.slice (some ⟨w.heap.size, 0, none⟩) 1 1, .int .i64 2, .int .i64 511, .slice (some ⟨w.heap.size + 1, 0, none⟩) 4 4] 34)
  have b13 := below_tr b2 b3
  refine ⟨?_, fun x hx => ?_⟩
  · have := reads_row4 w2 (.slice (some ⟨w.heap.size, 0, none⟩) 1 1) (.int .i64 2) (.int .i64 511) (.slice (some ⟨w.heap.size + 1, 0, none⟩) 4 4) 34
    exact this.more (by simp)
  · simp at hx
    subst hx
    exact ⟨(r1.below b13).more b13.size, (r2.below b3).more b3.size, ⟨Nat.le_refl _, by show 1 ≤ _; omega⟩, ⟨Nat.le_refl _, by show 4 ≤ _; omega⟩, by show 1 ≤ 100; omega, fun s hs => by simp [xK] at hs; subst hs; show 1 ≤ 1000; omega, by show 4 ≤ 100000; omega, fun b hb => by simp [xK] at hb; omega⟩

set_option maxRecDepth 100000 in
set_option maxHeartbeats 2000000 in
theorem aknown_any (w : World) (hM : Mx w) : Calls Tryd.prog 7 #[] w fun e w' => e = .returned (.bool true) ∧ Below w.heap.size w w' := by
  have HE := Sl.mk (encode_nil w hM)
  have HM := Sl.mk hM
  unfold EncNil at HE
  clear hM
  go_enter Tryd.func7, Tryd.ntmps7
  go_wp2_with fail
  refine HE.out.mono ?_
  rintro e w1 ⟨A1, c1, rfl, hR1, hB1⟩
  have kc := fun (C : Array Value) (n c : Nat) => Go.Joins.run_convert_bytes_const_at (P := Tryd.prog) (w1.alloc (.cells #[.string ⟨#[120]⟩] 9)) 32 5 C n c (w1.heap.size + 1) (by simp) Tryd.underlying32 Tryd.underlying5
  have HR1 := Sl.mk hR1
  clear hR1 HE
  go_wp2_with fail
  refine (acheck_any _ 1 1 [xK w1] _ (by omega) ⟨by omega, by omega⟩ (known_exs w1) (HM.out.be (below_al (below_al (below_al hB1 _) _) _))).mono ?_
  rintro e w2 ⟨N, E, rfl, hR, hB⟩
  obtain ⟨rfl, rfl⟩ := check_known ref_known hR
  have hE2 := below_tr (below_al (below_al (below_al hB1 (.cells #[.string ⟨#[120]⟩] 9)) (.cells #[.int .u8 46, .int .u8 46, .int .u8 47, .int .u8 121] 5 (4, 5))) (.cells #[.slice (some ⟨w1.heap.size, 0, none⟩) 1 1, .int .i64 2, .int .i64 511, .slice (some ⟨w1.heap.size + 1, 0, none⟩) 4 4] 34)) hB
  have hbb := below_tr (below_al (below_al (below_al (Below.refl w1.heap.size w1) (.cells #[.string ⟨#[120]⟩] 9)) (.cells #[.int .u8 46, .int .u8 46, .int .u8 47, .int .u8 121] 5 (4, 5))) (.cells #[.slice (some ⟨w1.heap.size, 0, none⟩) 1 1, .int .i64 2, .int .i64 511, .slice (some ⟨w1.heap.size + 1, 0, none⟩) 4 4] 34)) hB
  have HR2 := Sl.mk ((HR1.out.below hbb).more hbb.size)
  clear hR hB hbb kc
  go_wp2_with fail
  have hba := (Below.refl w2.heap.size w2).alloc (Nat.le_refl _) (.cells #[.int .u8 67, .int .u8 82, .int .u8 69, .int .u8 76, .int .u8 0] 5)
  refine (bsame_any A1 (some ⟨w2.heap.size, 0, none⟩) 5 c1 5 5 [67, 82, 69, 76, 0] [67, 82, 69, 76, 0] _ (by omega) (by omega) ((HR2.out.below hba).more hba.size) (reads_newL w2 [.int .u8 67, .int .u8 82, .int .u8 69, .int .u8 76, .int .u8 0] 5 (by simp))).mono ?_
  rintro e w3 ⟨rfl, k, rfl⟩
  have heq : eqB [67, 82, 69, 76, 0] [67, 82, 69, 76, 0] = true := by decide
  rw [heq]
  clear heq hba
  go_wp2_with fail
  go_ret
  exact ⟨rfl, below_drN (below_al hE2 _) k⟩

end Go.Proofs.YticcphppnmoogaaDoor
