/-
  The walk of the law RevisionAdds.
-/
import Derived.Test.YtkmdhmnjohlnaaaRevRv
import Derived.Test.YtkmdhmnjohlnaaaRevDL
import Derived.IntWalk
namespace Go.Proofs.Ytkmdhmnjohlnaaa
open Go.RowKit
attribute [local go_sem ↓] Go.wp_at_zero Go.wp_at_succ

/-- What comes of Add, in plain words. -/
def addRes (u1 u2 : ByteArray) (a : Int) (l : List Rv) (r : Rv) : DropRes :=
  if addE u1 u2 a l r = 0 then ⟨u1, u2, r.no, addL false a l r, addL true a l r, 0⟩ else ⟨⟨#[]⟩, ⟨#[]⟩, 0, [], [], addE u1 u2 a l r⟩
theorem add_res {w w' : World} {u1 u2 : ByteArray} {a : Int} {l : List Rv} {r : Rv} {e : Ending} (h : AddPost w u1 u2 a l r e w') {R : DropRes} (hR : addRes u1 u2 a l r = R) :
    ∃ (A2 : Option Addr) (c2 : Nat) (A1 : Option Addr) (c1 : Nat), e = .returned (.tuple #[.agg #[.string R.t1, .string R.t2, .int .i64 R.b, .slice A2 R.L2.length c2], .slice A1 R.G.length c1, .int .i64 R.E]) ∧
      Below w.heap.size w w' ∧ Rows2 w' w.heap.size (.slice A1 R.G.length c1) R.G (.slice A2 R.L2.length c2) R.L2 := by
  subst hR
  obtain ⟨hB, hp⟩ := h
  unfold addRes
  rcases hp with ⟨hE, rfl⟩ | ⟨hE, A1, c1, A2, c2, rfl, hrows⟩
  · rw [if_neg hE]
    exact ⟨none, 0, none, 0, rfl, hB, ⟨World.ownsRow_nil _ _ _ _, World.ownsRow_nil _ _ _ _, fun x hx => by simp [Value.ownBlock] at hx⟩⟩
  · rw [if_pos hE]
    exact ⟨A2, c2, A1, c1, rfl, hB, hrows⟩
theorem radd_res {w w' : World} {u1 u2 : ByteArray} {a : Int} {l : List Rv} {r : Rv} {e : Ending} (h : RAddPost w u1 u2 a l r e w') {R : DropRes} (hR : addRes u1 u2 a l r = R) :
    ∃ (A2 : Option Addr) (c2 : Nat) (A1 : Option Addr) (c1 : Nat), e = .returned (.tuple #[.agg #[.string R.t1, .string R.t2, .int .i64 R.b, .slice A2 R.L2.length c2], .slice A1 R.G.length c1, .int .i64 R.E]) ∧
      Below w.heap.size w w' ∧ Rows2R w' w.heap.size (.slice A1 R.G.length c1) R.G (.slice A2 R.L2.length c2) R.L2 := by
  subst hR
  obtain ⟨hB, hp⟩ := h
  unfold addRes
  rcases hp with ⟨hE, rfl⟩ | ⟨hE, A1, c1, A2, c2, rfl, hrows⟩
  · rw [if_neg hE]
    exact ⟨none, 0, none, 0, rfl, hB, ⟨World.ownsRow_nil _ _ _ _, World.ownsRow_nil _ _ _ _, fun x hx => by simp [Value.ownBlock] at hx⟩⟩
  · rw [if_pos hE]
    exact ⟨A2, c2, A1, c1, rfl, hB, hrows⟩
theorem addL_le (v : Bool) (a : Int) (l : List Rv) (r : Rv) : (addL v a l r).length ≤ l.length + 1 := sel_le _ _ _ _
theorem addRes_le (u1 u2 : ByteArray) (a : Int) (l : List Rv) (r : Rv) : (addRes u1 u2 a l r).L2.length ≤ l.length + 1 ∧ (addRes u1 u2 a l r).G.length ≤ l.length + 1 := by
  unfold addRes
  split
  · exact ⟨addL_le _ _ _ _, addL_le _ _ _ _⟩
  · exact ⟨Nat.zero_le _, Nat.zero_le _⟩
theorem addRes_ok {u1 u2 : ByteArray} {a : Int} {l : List Rv} {r : Rv} (h : (addRes u1 u2 a l r).E = 0) :
    checkF (addRes u1 u2 a l r).t1 (addRes u1 u2 a l r).t2 (addRes u1 u2 a l r).b (addRes u1 u2 a l r).L2 = 0 ∧ goodF 0 (addRes u1 u2 a l r).L2 = true ∧ lastF (addRes u1 u2 a l r).L2 = r.no ∧ r.no ≤ 999999 ∧ 0 < r.no ∧ (addRes u1 u2 a l r).t1 = u1 ∧ (addRes u1 u2 a l r).t2 = u2 := by
  unfold addRes at h ⊢
  by_cases hE : addE u1 u2 a l r = 0
  · rw [if_pos hE]
    unfold addE at hE
    by_cases hc : checkF u1 u2 a l = 0
    · rw [if_neg (by simpa using hc)] at hE
      by_cases hi : idxR r.no l < l.length
      · rw [if_pos hi] at hE; cases hE
      · rw [if_neg hi] at hE
        by_cases hb : checkF u1 u2 r.no [r] ≠ 0 ∨ r.no < lastF l + 1
        · rw [if_pos hb] at hE; cases hE
        · obtain ⟨hb1, hb2⟩ := not_or.1 hb
          have hb1 : checkF u1 u2 r.no [r] = 0 := Decidable.byContradiction fun x => hb1 x
          obtain ⟨h1, h2, h3, h4, h5, h6⟩ := check_parts hc
          have hgr := (check_parts hb1).2.2.2.2.1
          have hgr' : rightB r 0 = true := by simpa [goodF] using hgr
          simp [rightB] at hgr'
          obtain ⟨k1, k2, k3, k4, k5, k6⟩ := add_ok (r := r) h3 h4 h5 h6 (by simp [rightB]; omega)
          exact ⟨check_of h1 h2 k1 k2 k3 k4, k3, k6, by omega, by omega, rfl, rfl⟩
    · rw [if_pos (by simpa using hc)] at hE; exact absurd hE hc
  · rw [if_neg hE] at h
    exact absurd h hE

/-- What comes of First. -/
def firstRes (u1 u2 : ByteArray) (r : Rv) : DropRes :=
  if checkF u1 u2 r.no [r] = 0 then ⟨u1, u2, r.no, [r], [], 0⟩ else ⟨⟨#[]⟩, ⟨#[]⟩, 0, [], [], checkF u1 u2 r.no [r]⟩
theorem first_res {w w' : World} {u1 u2 : ByteArray} {r : Rv} {e : Ending} (h : ChkPost w u1 u2 r.no 1 [r] e w') {R : DropRes} (hR : firstRes u1 u2 r = R) :
    ∃ (A2 : Option Addr) (c2 : Nat), e = .returned (.tuple #[.agg #[.string R.t1, .string R.t2, .int .i64 R.b, .slice A2 R.L2.length c2], .int .i64 R.E]) ∧ Below w.heap.size w w' ∧ w'.ownsRow w.heap.size 36 34 (.slice A2 R.L2.length c2) R.L2.length (revC R.L2) := by
  subst hR
  obtain ⟨hB, hp⟩ := h
  unfold firstRes
  rcases hp with ⟨hE, rfl⟩ | ⟨hE, A2, c2, rfl, hrow⟩
  · rw [if_neg hE]
    exact ⟨none, 0, rfl, hB, World.ownsRow_nil _ _ _ _⟩
  · rw [if_pos hE]
    exact ⟨A2, c2, rfl, hB, hrow⟩
theorem firstRes_ok {u1 u2 : ByteArray} {r : Rv} : (firstRes u1 u2 r).E = checkF u1 u2 r.no [r] ∧ ((firstRes u1 u2 r).E = 0 → (firstRes u1 u2 r).t1 = u1 ∧ (firstRes u1 u2 r).t2 = u2 ∧ (firstRes u1 u2 r).b = r.no ∧ (firstRes u1 u2 r).L2 = [r]) := by
  unfold firstRes
  by_cases hE : checkF u1 u2 r.no [r] = 0
  · rw [if_pos hE]
    exact ⟨hE.symm, fun _ => ⟨rfl, rfl, rfl, rfl⟩⟩
  · rw [if_neg hE]
    exact ⟨rfl, fun h => absurd h hE⟩

theorem reads_revsR (w : World) (l : List Rv) (cs : Array Value) (hcs : cs = (revC l).toArray) : Reads (w.alloc (.cells cs 27)) (w.heap.size + 1) 34 (some ⟨w.heap.size, 0, none⟩) l.length (revC l) := by
  subst hcs
  refine ⟨revC_len l, fun _ => ⟨_, rfl, by simp, fun j u hj => ?_⟩⟩
  have hadd : (⟨w.heap.size, 0, none⟩ : Addr).add j = ⟨w.heap.size, j, none⟩ := by unfold Addr.add; split <;> simp_all
  rw [hadd, (Blk.new w _ _).cell j]
  simpa using hj

set_option maxRecDepth 100000 in
set_option maxHeartbeats 16000000 in
theorem adds_walk (s1 s2 : ByteArray) (a : Int) (A0 : Option Addr) (n0 c0 : Nat) (l0 : List Rv) (r : Rv) (w : World) (h1 : s1.size ≤ 9223372036854775807) (h2 : s2.size ≤ 9223372036854775807) (hn0 : n0 ≤ 9223372036854775807) (hR : Reads w w.heap.size 34 A0 n0 (revC l0)) :
    Calls Try.prog 3 #[.agg #[.string s1, .string s2, .int .i64 a, .slice A0 n0 c0], .agg (rvC r).toArray] w fun e w' => e = .returned (.bool true) ∧ Below w.heap.size w w' := by
  have hX0 := (Blk.new w 24 #[.string s1, .string s2, .int .i64 a, .slice A0 n0 c0]).alloc (.cells (rvC r).toArray 27)
  have hV0 := Blk.new' (w := w.alloc (.cells #[.string s1, .string s2, .int .i64 a, .slice A0 n0 c0] 24)) (g := w.heap.size + 1) (t := 27) (cs := (rvC r).toArray) (by simp)
  have hE0 := below_al (below_al (Below.refl w.heap.size w) (.cells #[.string s1, .string s2, .int .i64 a, .slice A0 n0 c0] 24)) (.cells (rvC r).toArray 27)
  obtain ⟨w0, hw0⟩ : ∃ w0, (w.alloc (.cells #[.string s1, .string s2, .int .i64 a, .slice A0 n0 c0] 24)).alloc (.cells (rvC r).toArray 27) = w0 := ⟨_, rfl⟩
  rw [hw0] at hX0 hV0 hE0
  have HR0 := Sl.mk ((hR.below hE0).more hE0.size)
  obtain ⟨c00, c01, c02, c03⟩ := hX0.c4
  obtain ⟨gr, hgr⟩ : ∃ gr, w.heap.size + 1 = gr := ⟨_, rfl⟩
  clear hR
  go_enter Try.func3, Try.ntmps3
  go_wp2_with fail
  clear hw0
  rw [hgr] at hV0
  clear hgr
  refine (to10_any s1 s2 a A0 n0 c0 l0 _ h1 h2 hn0 HR0.out).mono ?_
  rintro e w1 ⟨u1, u2, A, c, l, hu1, hu2, hl4, rfl, hown, hB1⟩
  have hE1 := below_tr hE0 hB1
  have hown1 := own_mono (b' := w.heap.size) hown hE0.size
  have hlo := hE1.size
  have hV1 := hV0.be hB1
  clear c00 c01 c02 c03 hX0 hV0 hE0 HR0 hown hB1
  go_wp2_with (refine st_pkn rfl (.tmp 5) (.tmp 17) rfl u1 u2 a A l.length c rfl rfl ?_)
  intro w2 hP2 hB2 _
  have hS2 : BS w w2 w1.heap.size u1 u2 a A c l := ⟨hP2, own_below hown1 hB2, hlo, below_tr hE1 hB2⟩
  have hV2 := hV1.be hB2
  obtain ⟨gx, hgx⟩ : ∃ gx, w1.heap.size = gx := ⟨_, rfl⟩
  rw [hgx] at hS2 ⊢
  clear hP2 hown1 hB2 hE1 hlo hgx hV1
  go_wp2_with (refine ld_pk hS2.blk rfl (.tmp 5) rfl rfl rfl ?_)
  refine (of10_any u1 u2 a A l.length c l _ (by omega) (Reads.of_own hS2.own)).mono ?_
  rintro e w3 ⟨Ay, cy, rfl, hyo, hB3⟩
  have hS3 := hS2.be hB3
  have hV3 := hV2.be hB3
  have hyo3 := own_mono (b' := w.heap.size) hyo hS2.below.size
  clear hS2 hyo hB3 hV2
  go_wp2_with (refine st_pknR rfl (.tmp 6) (.tmp 19) rfl u1 u2 a Ay l.length cy rfl rfl ?_)
  intro w4 hY4 hB4 _
  have hS4 := hS3.be hB4
  have hV4 := hV3.be hB4
  have hyo4 := own_below hyo3 hB4
  obtain ⟨gy, hgy⟩ : ∃ gy, w3.heap.size = gy := ⟨_, rfl⟩
  rw [hgy] at hY4 ⊢
  clear hS3 hyo3 hB4 hgy hV3
  obtain ⟨R, hRes⟩ : ∃ R, addRes u1 u2 a l r = R := ⟨_, rfl⟩
  have hle := addRes_le u1 u2 a l r
  have hok := addRes_ok (u1 := u1) (u2 := u2) (a := a) (l := l) (r := r)
  have HRes := Sl.mk hRes
  rw [hRes] at hle hok
  obtain ⟨t1, t2, b, L2, G, E⟩ := R
  simp only at hle hok
  have HOK := Sl.mk hok
  obtain ⟨hLle, hGle⟩ := hle
  clear hok hRes
  go_upto_region 3 with fail
  go_cut [7, 8, 9] (fun v7 v8 v9 wx => ∃ (gq : Nat) (A1 A2 : Option Addr) (c1 c2 : Nat), v7 = .pointer (some ⟨gq, 0, none⟩) ∧ v8 = .slice A1 G.length c1 ∧ v9 = .int .i64 E ∧ Below w4.heap.size w4 wx ∧ Blk wx gq 30 #[.string t1, .string t2, .int .i64 b, .slice A2 L2.length c2] ∧ Rows2 wx w4.heap.size (.slice A1 G.length c1) G (.slice A2 L2.length c2) L2)
  case first =>
    clear hY4 hyo4
    have hu30 := Try.underlying30
    have hi30 : (Try.prog.info? 30).map (·.size) = some [Value.string u1, .string u2, .int .i64 a, .slice A l.length c].length := infoPk
    have hu27 := Try.underlying27
    have hi27 : (Try.prog.info? 27).map (·.size) = some (rvC r).length := by rw [infoRvR, rvC_len]
    have eg1 := enters_of Try.func10 (by kernel_rfl) rfl
    have eg2 := enters_of Try.func9 (by kernel_rfl) rfl
    have hd0 := hS4.be (Below.refl w4.heap.size w4).drew
    have hv0 := hV4.be (Below.refl w4.heap.size w4).drew
    have hbd : Below w4.heap.size w4 w4.drew := (Below.refl w4.heap.size w4).drew
    obtain ⟨wd, hwd⟩ : ∃ wd, w4.drew = wd := ⟨_, rfl⟩
    have hsz : w4.heap.size = wd.heap.size := by rw [← hwd]; rfl
    rw [hwd] at hd0 hv0 hbd
    have hS : ∀ W, Below wd.heap.size wd W → Blk W gx 30 #[.string u1, .string u2, .int .i64 a, .slice A l.length c] ∧ Blk W gr 27 (rvC r).toArray := fun W hb => ⟨hd0.blk.be hb, hv0.be hb⟩
    have hR9 : ∀ W, Below wd.heap.size wd W → Reads W W.heap.size 34 A l.length (revC l) := fun W hb => Reads.of_own (own_below hd0.own hb)
    have HR9 := Sl.mk hR9
    have hfin : ∀ (gN : Nat) (A1 A2 : Option Addr) (c1 c2 : Nat) (W : World), Below wd.heap.size wd W → Blk W gN 30 #[.string t1, .string t2, .int .i64 b, .slice A2 L2.length c2] → Rows2 W wd.heap.size (.slice A1 G.length c1) G (.slice A2 L2.length c2) L2 → Below w4.heap.size w4 W ∧ Blk W gN 30 #[.string t1, .string t2, .int .i64 b, .slice A2 L2.length c2] ∧ Rows2 W w4.heap.size (.slice A1 G.length c1) G (.slice A2 L2.length c2) L2 := fun gN A1 A2 c1 c2 W hb hq hr => ⟨below_tr hbd hb, hq, by rw [hsz]; exact hr⟩
    have HFIN := Sl.mk hfin
    clear hR9 hfin
    have hSd0 := hS wd (Below.refl _ _)
    refine wp_region_noPanic ?_
    refine wp_region_held_drew (S := fun W => Blk W gx 30 #[.string u1, .string u2, .int .i64 a, .slice A l.length c] ∧ Blk W gr 27 (rvC r).toArray) (by kernel_rfl) (by rw [hwd]; exact hSd0) (fun hSd => ?_)
    rw [hwd] at hSd ⊢
    have hB0 := Below.refl wd.heap.size wd
    clear hwd hS4 hV4 hbd hd0 hv0
    refine wpAnyH_takeL (i := 0) (v := .agg #[.string u1, .string u2, .int .i64 a, .slice A l.length c]) rfl (by kernel_rfl) (by kernel_rfl) (by kernel_rfl) (fun _ _ _ h => h) (yieldsIf_load_mid (by rfl) 30 (.tmp 5) rfl gx 0 rfl [.string u1, .string u2, .int .i64 a, .slice A l.length c] _ (fun _ hw' => blk_range hw'.1) hu30 rfl hi30) hSd ?_
    simp only [Act.put, List.setIfInBounds_toArray, List.set_cons_zero, List.set_cons_succ]
    refine wpAnyH_takeL (i := 1) (v := .agg (rvC r).toArray) rfl (by kernel_rfl) (by kernel_rfl) (by kernel_rfl) (fun _ _ _ h => h) (yieldsIf_load_mid (by rfl) 27 (.tmp 3) rfl gr 0 rfl (rvC r) _ (fun _ hw' => blk_range hw'.2) hu27 rfl hi27) hSd ?_
    simp only [Act.put, List.setIfInBounds_toArray, List.set_cons_zero, List.set_cons_succ]
    refine wpAnyH_twoL (i := 2) (j := 8) rfl rfl (by kernel_rfl) rfl rfl ?_ ?_
    · have hdummy := True.intro
      refine wp_of_call (f := 10) (args := #[.agg (rvC r).toArray]) (by go_simp) (rev_any r wd) (fun e w5 hp => ?_)
      obtain ⟨rfl, hB5⟩ := hp
      have hge5 := hB5.size
      have hBR := below_tr hB0 hB5
      refine ⟨_, rfl, hS _ hBR, ?_⟩
      simp only [Act.put, List.setIfInBounds_toArray, List.set_cons_zero, List.set_cons_succ]
      refine wpAnyH_twoL (i := 3) (j := 8) rfl rfl (by kernel_rfl) rfl rfl ?_ ?_
      · have hdummy := True.intro
        refine wp_of_call (f := 9) (args := #[.agg #[.string u1, .string u2, .int .i64 a, .slice A l.length c], .agg (rvC r).toArray]) (by go_simp) (add_any u1 u2 a A l.length c l r w5 (by omega) (by omega) (by omega) (HR9.out _ hBR)) (fun e w6 hp => ?_)
        obtain ⟨A2, c2, A1, c1, rfl, hB6, hrows⟩ := add_res hp HRes.out
        simp only at hrows ⊢
        have hBA := below_tr hBR hB6
        have hgeA := hBR.size
        clear hp
        refine ⟨_, rfl, hS _ hBA, ?_⟩
        simp only [Act.put, List.setIfInBounds_toArray, List.set_cons_zero, List.set_cons_succ]
        refine wpAnyH_takeL (i := 4) (v := .tuple #[.agg #[.string t1, .string t2, .int .i64 b, .slice A2 L2.length c2], .slice A1 G.length c1, .int .i64 E]) rfl (by kernel_rfl) (by kernel_rfl) (by kernel_rfl) (fun _ _ _ h => h) (.inl ⟨by rfl, fun w' _ => by go_simp⟩) (hS _ hBA) ?_
        simp only [Act.put, List.setIfInBounds_toArray, List.set_cons_zero, List.set_cons_succ]
        refine wpAnyH_takeL (i := 5) (v := .agg #[.string t1, .string t2, .int .i64 b, .slice A2 L2.length c2]) rfl (by kernel_rfl) (by kernel_rfl) (by kernel_rfl) (fun _ _ _ h => h) (.inl ⟨by rfl, fun w' _ => by go_simp⟩) (hS _ hBA) ?_
        simp only [Act.put, List.setIfInBounds_toArray, List.set_cons_zero, List.set_cons_succ]
        refine wpAnyH_takeL (i := 6) (v := .slice A1 G.length c1) rfl (by kernel_rfl) (by kernel_rfl) (by kernel_rfl) (fun _ _ _ h => h) (.inl ⟨by rfl, fun w' _ => by go_simp⟩) (hS _ hBA) ?_
        simp only [Act.put, List.setIfInBounds_toArray, List.set_cons_zero, List.set_cons_succ]
        refine wpAnyH_takeL (i := 7) (v := .int .i64 E) rfl (by kernel_rfl) (by kernel_rfl) (by kernel_rfl) (fun _ _ _ h => h) (.inl ⟨by rfl, fun w' _ => by go_simp⟩) (hS _ hBA) ?_
        simp only [Act.put, List.setIfInBounds_toArray, List.set_cons_zero, List.set_cons_succ]
        refine wpAnyH_oneL (k := 8) rfl (by kernel_rfl) rfl ?_
        have hBN := below_al hBA (.cells #[.string { data := #[] }, .string { data := #[] }, .int .i64 0, .slice none 0 0] 30)
        have hZN := Blk.new w6 30 #[.string { data := #[] }, .string { data := #[] }, .int .i64 0, .slice none 0 0]
        have hsN : (w6.alloc (.cells #[.string { data := #[] }, .string { data := #[] }, .int .i64 0, .slice none 0 0] 30)).heap.size = w6.heap.size + 1 := by simp
        have hgeN : wd.heap.size ≤ w6.heap.size := hBA.size
        refine wp_of_run (v := .pointer (some ⟨w6.heap.size, 0, none⟩)) (w' := w6.alloc (.cells #[.string { data := #[] }, .string { data := #[] }, .int .i64 0, .slice none 0 0] 30)) (by go_simp) ⟨hS _ hBN, ?_⟩
        simp only [Act.put, List.setIfInBounds_toArray, List.set_cons_zero, List.set_cons_succ]
        obtain ⟨wn, hwn⟩ : ∃ wn, w6.alloc (.cells #[.string { data := #[] }, .string { data := #[] }, .int .i64 0, .slice none 0 0] 30) = wn := ⟨_, rfl⟩
        rw [hwn] at hBN hZN hsN ⊢
        obtain ⟨gn, hgn⟩ : ∃ gn, w6.heap.size = gn := ⟨_, rfl⟩
        rw [hgn] at hZN hsN hgeN ⊢
        have hwn' := hwn
        clear hwn
        refine wpAnyH_oneL (k := 9) rfl (by kernel_rfl) rfl ?_
        refine wp_st hZN (.tmp 7) (.tmp 25) rfl t1 t2 b A2 L2.length c2 rfl rfl rfl (fun w7 hQ7 hG7 _ => ?_)
        have hB7 := below_only hBN hG7 hBN.size (by omega)
        have hrows6 := hrows.below (below_al (Below.refl _ _) (.cells #[.string { data := #[] }, .string { data := #[] }, .int .i64 0, .slice none 0 0] 30))
        rw [hwn'] at hrows6
        have hr7 : Rows2 w7 wd.heap.size _ _ _ _ := ⟨own_mono (own_keep hrows6.own1 hG7 (fun x hx e => by injection hx with hx; have := own_lt hrows.own1 e; omega)) (by omega), own_mono (own_keep hrows6.own2 hG7 (fun x hx e => by injection hx with hx; have := own_lt hrows.own2 e; omega)) (by omega), hrows6.ne⟩
        refine ⟨hS _ hB7, ?_⟩
        simp only [Act.put]
        refine wpAnyH_oneL (k := 10) rfl (by kernel_rfl) rfl ?_
        refine wp_of_run (v := .slice A1 G.length c1) (w' := w7) (by rfl) ⟨hS _ hB7, ?_⟩
        simp only [Act.put, List.setIfInBounds_toArray, List.set_cons_zero, List.set_cons_succ]
        refine wpAnyH_oneL (k := 11) rfl (by kernel_rfl) rfl ?_
        refine wp_of_run (v := .int .i64 E) (w' := w7) (by rfl) ⟨hS _ hB7, ?_⟩
        simp only [Act.put, List.setIfInBounds_toArray, List.set_cons_zero, List.set_cons_succ]
        refine wpAnyH_done (by kernel_rfl) ?_ _
        refine NoPanic.normal ?_
        (try go_wp2_with fail)
        go_meet
        exact ⟨gn, A1, A2, c1, c2, rfl, rfl, rfl, HFIN.out gn A1 A2 c1 c2 w7 hB7 hQ7 hr7⟩
      · have hdummy := True.intro
        have hBN := below_al hBR (.cells #[.string { data := #[] }, .string { data := #[] }, .int .i64 0, .slice none 0 0] 30)
        have hZN := Blk.new w5 30 #[.string { data := #[] }, .string { data := #[] }, .int .i64 0, .slice none 0 0]
        have hsN : (w5.alloc (.cells #[.string { data := #[] }, .string { data := #[] }, .int .i64 0, .slice none 0 0] 30)).heap.size = w5.heap.size + 1 := by simp
        have hgeN : wd.heap.size ≤ w5.heap.size := hBR.size
        refine wp_of_run (v := .pointer (some ⟨w5.heap.size, 0, none⟩)) (w' := w5.alloc (.cells #[.string { data := #[] }, .string { data := #[] }, .int .i64 0, .slice none 0 0] 30)) (by go_simp) ⟨hS _ hBN, ?_⟩
        simp only [Act.put, List.setIfInBounds_toArray, List.set_cons_zero, List.set_cons_succ]
        obtain ⟨wn, hwn⟩ : ∃ wn, w5.alloc (.cells #[.string { data := #[] }, .string { data := #[] }, .int .i64 0, .slice none 0 0] 30) = wn := ⟨_, rfl⟩
        rw [hwn] at hBN hZN hsN ⊢
        obtain ⟨gn, hgn⟩ : ∃ gn, w5.heap.size = gn := ⟨_, rfl⟩
        rw [hgn] at hZN hsN hgeN ⊢
        clear hwn
        refine wpAnyH_oneL (k := 3) rfl (by kernel_rfl) rfl ?_
        refine wp_of_call (f := 9) (args := #[.agg #[.string u1, .string u2, .int .i64 a, .slice A l.length c], .agg (rvC r).toArray]) (by go_simp) (add_any u1 u2 a A l.length c l r wn (by omega) (by omega) (by omega) (HR9.out _ hBN)) (fun e w6 hp => ?_)
        obtain ⟨A2, c2, A1, c1, rfl, hB6, hrows⟩ := add_res hp HRes.out
        simp only at hrows ⊢
        have hBA := below_tr hBN hB6
        have hZA := hZN.be hB6
        have hgeA := hBN.size
        clear hp
        refine ⟨_, rfl, hS _ hBA, ?_⟩
        simp only [Act.put, List.setIfInBounds_toArray, List.set_cons_zero, List.set_cons_succ]
        refine wpAnyH_takeL (i := 4) (v := .tuple #[.agg #[.string t1, .string t2, .int .i64 b, .slice A2 L2.length c2], .slice A1 G.length c1, .int .i64 E]) rfl (by kernel_rfl) (by kernel_rfl) (by kernel_rfl) (fun _ _ _ h => h) (.inl ⟨by rfl, fun w' _ => by go_simp⟩) (hS _ hBA) ?_
        simp only [Act.put, List.setIfInBounds_toArray, List.set_cons_zero, List.set_cons_succ]
        refine wpAnyH_takeL (i := 5) (v := .agg #[.string t1, .string t2, .int .i64 b, .slice A2 L2.length c2]) rfl (by kernel_rfl) (by kernel_rfl) (by kernel_rfl) (fun _ _ _ h => h) (.inl ⟨by rfl, fun w' _ => by go_simp⟩) (hS _ hBA) ?_
        simp only [Act.put, List.setIfInBounds_toArray, List.set_cons_zero, List.set_cons_succ]
        refine wpAnyH_takeL (i := 6) (v := .slice A1 G.length c1) rfl (by kernel_rfl) (by kernel_rfl) (by kernel_rfl) (fun _ _ _ h => h) (.inl ⟨by rfl, fun w' _ => by go_simp⟩) (hS _ hBA) ?_
        simp only [Act.put, List.setIfInBounds_toArray, List.set_cons_zero, List.set_cons_succ]
        refine wpAnyH_takeL (i := 7) (v := .int .i64 E) rfl (by kernel_rfl) (by kernel_rfl) (by kernel_rfl) (fun _ _ _ h => h) (.inl ⟨by rfl, fun w' _ => by go_simp⟩) (hS _ hBA) ?_
        simp only [Act.put, List.setIfInBounds_toArray, List.set_cons_zero, List.set_cons_succ]
        refine wpAnyH_oneL (k := 9) rfl (by kernel_rfl) rfl ?_
        refine wp_st hZA (.tmp 7) (.tmp 25) rfl t1 t2 b A2 L2.length c2 rfl rfl rfl (fun w7 hQ7 hG7 _ => ?_)
        have hB7 := below_only hBA hG7 hBA.size (by omega)
        have hr6 := hrows.far hG7 (by omega)
        have hr7 : Rows2 w7 wd.heap.size _ _ _ _ := ⟨own_mono hr6.own1 (by omega), own_mono hr6.own2 (by omega), hr6.ne⟩
        refine ⟨hS _ hB7, ?_⟩
        simp only [Act.put]
        refine wpAnyH_oneL (k := 10) rfl (by kernel_rfl) rfl ?_
        refine wp_of_run (v := .slice A1 G.length c1) (w' := w7) (by rfl) ⟨hS _ hB7, ?_⟩
        simp only [Act.put, List.setIfInBounds_toArray, List.set_cons_zero, List.set_cons_succ]
        refine wpAnyH_oneL (k := 11) rfl (by kernel_rfl) rfl ?_
        refine wp_of_run (v := .int .i64 E) (w' := w7) (by rfl) ⟨hS _ hB7, ?_⟩
        simp only [Act.put, List.setIfInBounds_toArray, List.set_cons_zero, List.set_cons_succ]
        refine wpAnyH_done (by kernel_rfl) ?_ _
        refine NoPanic.normal ?_
        (try go_wp2_with fail)
        go_meet
        exact ⟨gn, A1, A2, c1, c2, rfl, rfl, rfl, HFIN.out gn A1 A2 c1 c2 w7 hB7 hQ7 hr7⟩
    · have hdummy := True.intro
      have hBN := below_al hB0 (.cells #[.string { data := #[] }, .string { data := #[] }, .int .i64 0, .slice none 0 0] 30)
      have hZN := Blk.new wd 30 #[.string { data := #[] }, .string { data := #[] }, .int .i64 0, .slice none 0 0]
      have hsN : (wd.alloc (.cells #[.string { data := #[] }, .string { data := #[] }, .int .i64 0, .slice none 0 0] 30)).heap.size = wd.heap.size + 1 := by simp
      have hgeN : wd.heap.size ≤ wd.heap.size := hB0.size
      refine wp_of_run (v := .pointer (some ⟨wd.heap.size, 0, none⟩)) (w' := wd.alloc (.cells #[.string { data := #[] }, .string { data := #[] }, .int .i64 0, .slice none 0 0] 30)) (by go_simp) ⟨hS _ hBN, ?_⟩
      simp only [Act.put, List.setIfInBounds_toArray, List.set_cons_zero, List.set_cons_succ]
      obtain ⟨wn, hwn⟩ : ∃ wn, wd.alloc (.cells #[.string { data := #[] }, .string { data := #[] }, .int .i64 0, .slice none 0 0] 30) = wn := ⟨_, rfl⟩
      rw [hwn] at hBN hZN hsN ⊢
      obtain ⟨gn, hgn⟩ : ∃ gn, wd.heap.size = gn := ⟨_, rfl⟩
      rw [hgn] at hZN hsN hgeN ⊢
      clear hwn
      refine wpAnyH_oneL (k := 2) rfl (by kernel_rfl) rfl ?_
      refine wp_of_call (f := 10) (args := #[.agg (rvC r).toArray]) (by go_simp) (rev_any r wn) (fun e w5 hp => ?_)
      obtain ⟨rfl, hB5⟩ := hp
      have hge5 := hB5.size
      have hBR := below_tr hBN hB5
      have hZR := hZN.be hB5
      refine ⟨_, rfl, hS _ hBR, ?_⟩
      simp only [Act.put, List.setIfInBounds_toArray, List.set_cons_zero, List.set_cons_succ]
      refine wpAnyH_oneL (k := 3) rfl (by kernel_rfl) rfl ?_
      refine wp_of_call (f := 9) (args := #[.agg #[.string u1, .string u2, .int .i64 a, .slice A l.length c], .agg (rvC r).toArray]) (by go_simp) (add_any u1 u2 a A l.length c l r w5 (by omega) (by omega) (by omega) (HR9.out _ hBR)) (fun e w6 hp => ?_)
      obtain ⟨A2, c2, A1, c1, rfl, hB6, hrows⟩ := add_res hp HRes.out
      simp only at hrows ⊢
      have hBA := below_tr hBR hB6
      have hZA := hZR.be hB6
      have hgeA := hBR.size
      clear hp
      refine ⟨_, rfl, hS _ hBA, ?_⟩
      simp only [Act.put, List.setIfInBounds_toArray, List.set_cons_zero, List.set_cons_succ]
      refine wpAnyH_takeL (i := 4) (v := .tuple #[.agg #[.string t1, .string t2, .int .i64 b, .slice A2 L2.length c2], .slice A1 G.length c1, .int .i64 E]) rfl (by kernel_rfl) (by kernel_rfl) (by kernel_rfl) (fun _ _ _ h => h) (.inl ⟨by rfl, fun w' _ => by go_simp⟩) (hS _ hBA) ?_
      simp only [Act.put, List.setIfInBounds_toArray, List.set_cons_zero, List.set_cons_succ]
      refine wpAnyH_takeL (i := 5) (v := .agg #[.string t1, .string t2, .int .i64 b, .slice A2 L2.length c2]) rfl (by kernel_rfl) (by kernel_rfl) (by kernel_rfl) (fun _ _ _ h => h) (.inl ⟨by rfl, fun w' _ => by go_simp⟩) (hS _ hBA) ?_
      simp only [Act.put, List.setIfInBounds_toArray, List.set_cons_zero, List.set_cons_succ]
      refine wpAnyH_takeL (i := 6) (v := .slice A1 G.length c1) rfl (by kernel_rfl) (by kernel_rfl) (by kernel_rfl) (fun _ _ _ h => h) (.inl ⟨by rfl, fun w' _ => by go_simp⟩) (hS _ hBA) ?_
      simp only [Act.put, List.setIfInBounds_toArray, List.set_cons_zero, List.set_cons_succ]
      refine wpAnyH_takeL (i := 7) (v := .int .i64 E) rfl (by kernel_rfl) (by kernel_rfl) (by kernel_rfl) (fun _ _ _ h => h) (.inl ⟨by rfl, fun w' _ => by go_simp⟩) (hS _ hBA) ?_
      simp only [Act.put, List.setIfInBounds_toArray, List.set_cons_zero, List.set_cons_succ]
      refine wpAnyH_oneL (k := 9) rfl (by kernel_rfl) rfl ?_
      refine wp_st hZA (.tmp 7) (.tmp 25) rfl t1 t2 b A2 L2.length c2 rfl rfl rfl (fun w7 hQ7 hG7 _ => ?_)
      have hB7 := below_only hBA hG7 hBA.size (by omega)
      have hr6 := hrows.far hG7 (by omega)
      have hr7 : Rows2 w7 wd.heap.size _ _ _ _ := ⟨own_mono hr6.own1 (by omega), own_mono hr6.own2 (by omega), hr6.ne⟩
      refine ⟨hS _ hB7, ?_⟩
      simp only [Act.put]
      refine wpAnyH_oneL (k := 10) rfl (by kernel_rfl) rfl ?_
      refine wp_of_run (v := .slice A1 G.length c1) (w' := w7) (by rfl) ⟨hS _ hB7, ?_⟩
      simp only [Act.put, List.setIfInBounds_toArray, List.set_cons_zero, List.set_cons_succ]
      refine wpAnyH_oneL (k := 11) rfl (by kernel_rfl) rfl ?_
      refine wp_of_run (v := .int .i64 E) (w' := w7) (by rfl) ⟨hS _ hB7, ?_⟩
      simp only [Act.put, List.setIfInBounds_toArray, List.set_cons_zero, List.set_cons_succ]
      refine wpAnyH_done (by kernel_rfl) ?_ _
      refine NoPanic.normal ?_
      (try go_wp2_with fail)
      go_meet
      exact ⟨gn, A1, A2, c1, c2, rfl, rfl, rfl, HFIN.out gn A1 A2 c1 c2 w7 hB7 hQ7 hr7⟩
  case rest =>
    obtain ⟨gq, A1, A2, c1, c2, rfl, rfl, rfl, hB6, hQ6, hrows5⟩ := hcut
    have hS6 := hS4.be hB6
    have hV6 := hV4.be hB6
    have hY6 := hY4.be hB6
    have hyo6 := own_below hyo4 hB6
    have hrows6 : Rows2 wc w.heap.size _ _ _ _ := ⟨own_mono hrows5.own1 hS4.below.size, own_mono hrows5.own2 hS4.below.size, hrows5.ne⟩
    clear hS4 hV4 hY4 hyo4 hrows5 hB6
    go_wp2_with (first | refine ld_pkR hY6 rfl (.tmp 6) rfl rfl rfl ?_ | refine ld_rvR hV6 rfl (.tmp 3) rfl rfl ?_)
    refine (radd_any u1 u2 a Ay l.length cy l r _ (by omega) (by omega) (by omega) (Reads.of_own hyo6)).mono ?_
    rintro e w7 hp
    obtain ⟨A2', c2', A1', c1', rfl, hB7, hrowsR⟩ := radd_res hp HRes.out
    simp only at hrowsR ⊢
    have hS7 := hS6.be hB7
    have hY7 := hY6.be hB7
    have hyo7 := own_below hyo6 hB7
    have hrows7 := hrows6.below hB7
    have hQ7 := hQ6.be hB7
    have hV7 := hV6.be hB7
    have hrowsR7 : Rows2R w7 w.heap.size _ _ _ _ := ⟨own_mono hrowsR.own1 hS6.below.size, own_mono hrowsR.own2 hS6.below.size, hrowsR.ne⟩
    clear hp hrowsR hS6 hY6 hyo6 hB7 hrows6 hQ6 hV6
    go_wp2_with (refine st_pknR rfl (.tmp 10) (.tmp 32) rfl t1 t2 b A2' L2.length c2' rfl rfl ?_)
    intro w8 hV8 hB8 _
    obtain ⟨gv, hgv⟩ : ∃ gv, w7.heap.size = gv := ⟨_, rfl⟩
    rw [hgv] at hV8 ⊢
    have hD : DS w w8 gx u1 u2 a A c l gy Ay cy gq t1 t2 b A2 L2 c2 A1 G c1 gv A2' c2' A1' c1' := ⟨hS7.be hB8, hY7.be hB8, own_below hyo7 hB8, hQ7.be hB8, hV8, hrows7.below hB8, hrowsR7.below hB8⟩
    have hVv := hV7.be hB8
    clear hV7 hS7 hY7 hyo7 hrows7 hQ7 hrowsR7 hV8 hB8 hgv HRes
    have hVd := hVv.be (Below.refl w8.heap.size w8).drew
    have hDd := hD.be (Below.refl w8.heap.size w8).drew
    have hSd := hDd.cells
    have hLz : L2.length ≤ 1000000 := by omega
    have hGz : G.length ≤ 1000000 := by omega
    have hlz : l.length ≤ 1000000 := by omega
    go_wp2_with fail
    go_region_held3 (fun W => W.cell? ⟨gq, 0, none⟩ = some (.string t1) ∧ W.cell? ⟨gq, 1, none⟩ = some (.string t2) ∧ W.cell? ⟨gq, 2, none⟩ = some (.int .i64 b) ∧ W.cell? ⟨gq, 3, none⟩ = some (.slice A2 L2.length c2) ∧ W.cell? ⟨gv, 0, none⟩ = some (.string t1) ∧ W.cell? ⟨gv, 1, none⟩ = some (.string t2) ∧ W.cell? ⟨gv, 2, none⟩ = some (.int .i64 b) ∧ W.cell? ⟨gv, 3, none⟩ = some (.slice A2' L2.length c2') ∧ W.cell? ⟨gx, 0, none⟩ = some (.string u1) ∧ W.cell? ⟨gx, 1, none⟩ = some (.string u2) ∧ W.cell? ⟨gx, 2, none⟩ = some (.int .i64 a) ∧ W.cell? ⟨gx, 3, none⟩ = some (.slice A l.length c) ∧ W.cell? ⟨gy, 0, none⟩ = some (.string u1) ∧ W.cell? ⟨gy, 1, none⟩ = some (.string u2) ∧ W.cell? ⟨gy, 2, none⟩ = some (.int .i64 a) ∧ W.cell? ⟨gy, 3, none⟩ = some (.slice Ay l.length cy)) (first | assumption | exact hSd)
      (first
        | (go_at_call 8; have _g := hD12; refine (of10_any u1 u2 a A l.length c l _ hlz (Reads.of_own hD12.x.own)).mono ?_; rintro e w13 ⟨A8, c8, rfl, ho8, hB13⟩; have hD13 := hD12.be hB13; have hS13 := hD13.cells)
        | (go_at_call 12; have _g := hD13; refine (same10_any u1 u2 a A8 Ay l.length c8 cy l _ hlz (Reads.of_own ho8) (Reads.of_own hD13.yo)).mono ?_; rintro e w14 ⟨rfl, hB14⟩; have hD14 := hD13.be hB14; have hS14 := hD14.cells)
        | (go_at_call 14; refine (revs_any A1 G.length c1 G _ hGz (Reads.of_own hD10.r.own1)).mono ?_; rintro e w11 ⟨A7, c7, rfl, ho7, hB11⟩; have hD11 := hD10.be hB11; have hS11 := hD11.cells)
        | (go_at_call 13; refine (same_revs A7 A1' G.length c7 c1' G _ hGz (Reads.of_own ho7) (Reads.of_own hD11.s.own1)).mono ?_; rintro e w12 ⟨rfl, hB12⟩; have hD12 := hD11.be hB12; have hS12 := hD12.cells)
        | (go_at_call 8; refine (of10_any t1 t2 b A2 L2.length c2 L2 _ hLz (Reads.of_own hDd.r.own2)).mono ?_; rintro e w9 ⟨A6, c6, rfl, ho6, hB9⟩; have hD9 := hDd.be hB9; have hS9 := hD9.cells)
        | (go_at_call 12; refine (same10_any t1 t2 b A6 A2' L2.length c6 c2' L2 _ hLz (Reads.of_own ho6) (Reads.of_own hD9.s.own2)).mono ?_; rintro e w10 ⟨rfl, hB10⟩; have hD10 := hD9.be hB10; have hS10 := hD10.cells))
    clear hSd
    try clear hS9 hS10 hS11 hS12 hS13 hS14
    try clear hD hDd hD9 hD10 hD11 hD12 hD13
    try clear ho6 ho7 ho8
    have hV14 := (((((hVd.be hB9).be hB10).be hB11).be hB12).be hB13).be hB14
    try clear hVv hVd
    try clear hB9 hB10 hB11 hB12 hB13
    clear hB14
    go_wp2_with fail
    go_cut [73] (fun v wx => v = .bool false ∧ Below w14.heap.size w14 wx)
    case first =>
      by_cases hE : E = 0
      · obtain ⟨hck, hgd, hla, hle9, hgt0, rfl, rfl⟩ := HOK.out hE
        have HCK := Sl.mk hck
        have HGD := Sl.mk hgd
        have HLA := Sl.mk (show lastF L2 + 1 = r.no + 1 by rw [hla])
        subst hE
        have hw1 : IntKind.i64.wrap (r.no + 1) = r.no + 1 := IntWalk.i64_in _ (by omega)
        have hw2 : wrap64 (r.no + 1) = r.no + 1 := IntWalk.wrap64_in _ (by omega)
        clear hck hgd hla
        have hDd := hD14.be (Below.refl w14.heap.size w14).drew
        have hVd := hV14.be (Below.refl w14.heap.size w14).drew
        have hSd : w14.drew.cell? ⟨gq, 0, none⟩ = some (.string t1) ∧ w14.drew.cell? ⟨gq, 1, none⟩ = some (.string t2) ∧ w14.drew.cell? ⟨gq, 2, none⟩ = some (.int .i64 b) ∧ w14.drew.cell? ⟨gq, 3, none⟩ = some (.slice A2 L2.length c2) ∧ w14.drew.cell? ⟨gr, 0, none⟩ = some (.int .i64 r.no) := ⟨hDd.q.cell 0, hDd.q.cell 1, hDd.q.cell 2, hDd.q.cell 3, hVd.rv0⟩
        go_region_held3 (fun W => W.cell? ⟨gq, 0, none⟩ = some (.string t1) ∧ W.cell? ⟨gq, 1, none⟩ = some (.string t2) ∧ W.cell? ⟨gq, 2, none⟩ = some (.int .i64 b) ∧ W.cell? ⟨gq, 3, none⟩ = some (.slice A2 L2.length c2) ∧ W.cell? ⟨gr, 0, none⟩ = some (.int .i64 r.no)) (first | assumption | exact hSd)
          (first
            | (go_at_call 15; refine (check_any t1 t2 b A2 L2.length c2 L2 _ (by omega) (by omega) (by omega) (Reads.of_own hDd.r.own2)).mono ?_; rintro e w15 ⟨rfl, hB15⟩; rw [HCK.out]; have hD15 := hDd.be hB15; have hV15 := hVd.be hB15; have hS15 : w15.cell? ⟨gq, 0, none⟩ = some (.string t1) ∧ w15.cell? ⟨gq, 1, none⟩ = some (.string t2) ∧ w15.cell? ⟨gq, 2, none⟩ = some (.int .i64 b) ∧ w15.cell? ⟨gq, 3, none⟩ = some (.slice A2 L2.length c2) ∧ w15.cell? ⟨gr, 0, none⟩ = some (.int .i64 r.no) := ⟨hD15.q.cell 0, hD15.q.cell 1, hD15.q.cell 2, hD15.q.cell 3, hV15.rv0⟩)
            | (go_at_call 16; refine (next_any t1 t2 b A2 L2.length c2 L2 _ (by omega) (Reads.of_own hD15.r.own2) HGD.out).mono ?_; rintro e w16 ⟨rfl, hB16⟩; rw [HLA.out]; have hD16 := hD15.be hB16; have hV16 := hV15.be hB16; have hS16 : w16.cell? ⟨gq, 0, none⟩ = some (.string t1) ∧ w16.cell? ⟨gq, 1, none⟩ = some (.string t2) ∧ w16.cell? ⟨gq, 2, none⟩ = some (.int .i64 b) ∧ w16.cell? ⟨gq, 3, none⟩ = some (.slice A2 L2.length c2) ∧ w16.cell? ⟨gr, 0, none⟩ = some (.int .i64 r.no) := ⟨hD16.q.cell 0, hD16.q.cell 1, hD16.q.cell 2, hD16.q.cell 3, hV16.rv0⟩))
        all_goals
          go_wp2_with fail
          go_meet
          exact ⟨by first | rfl | simp, below_tr (below_tr (Below.refl _ _).drew hB15) hB16⟩
      · have hne : ((E : Int) == 0) = false := by simpa using hE
        go_quiet (fail)
        go_wp2_with fail
        go_meet
        exact ⟨rfl, below_drN (Below.refl _ _) _⟩
    case rest =>
      obtain ⟨rfl, hBc⟩ := hcut
      have hDc := hD14.be hBc
      have hVc := hV14.be hBc
      clear hD14 hV14 hBc
      obtain ⟨F, hFres⟩ : ∃ F, firstRes u1 u2 r = F := ⟨_, rfl⟩
      have HFres := Sl.mk hFres
      have hfo := firstRes_ok (u1 := u1) (u2 := u2) (r := r)
      rw [hFres] at hfo
      obtain ⟨f1, f2, fb, FL, FG, FE⟩ := F
      simp only at hfo
      have HFO := Sl.mk hfo
      have hFLl : FL.length ≤ 1 := by
        have := congrArg (fun x : DropRes => x.L2.length) hFres
        simp only [firstRes] at this
        split at this <;> simp at this <;> omega
      clear hfo hFres
      obtain ⟨y0, y1, y2, y3⟩ := hDc.y.c4
      have d0 := hVc.rv0
      have h34 := rvC_len r
      have hfold := fold_rv r #[.int .i64 0, .int .u8 0, .int .u8 0, .int .u8 0, .int .u8 0, .int .u8 0, .int .u8 0, .int .u8 0, .int .u8 0, .int .u8 0, .int .u8 0, .int .u8 0, .int .u8 0, .int .u8 0, .int .u8 0, .int .u8 0, .int .u8 0, .int .u8 0, .int .u8 0, .int .u8 0, .int .u8 0, .int .u8 0, .int .u8 0, .int .u8 0, .int .u8 0, .int .u8 0, .int .u8 0, .int .u8 0, .int .u8 0, .int .u8 0, .int .u8 0, .int .u8 0, .int .u8 0, .int .i64 0] (by rfl)
      go_wp2_with (first | refine ld_rvR hVc rfl (.tmp 3) rfl rfl ?_ | refine st_pknR rfl (.tmp 13) (.tmp 82) rfl u1 u2 r.no (some ⟨_, 0, none⟩) 1 1 rfl rfl ?_)
      obtain ⟨wq, hwq⟩ : ∃ wq, (wc.alloc (.cells (rvC r).toArray 27)).alloc (.cells #[.string u1, .string u2, .int .i64 r.no, .slice (some ⟨wc.heap.size, 0, none⟩) 1 1] 24) = wq := ⟨_, rfl⟩
      have hBq : Below wc.heap.size wc wq := by rw [← hwq]; exact below_al (below_al (Below.refl _ _) _) _
      have hfq : Blk wq (wc.heap.size + 1) 24 #[.string u1, .string u2, .int .i64 r.no, .slice (some ⟨wc.heap.size, 0, none⟩) 1 1] := by rw [← hwq]; exact Blk.new' (by simp)
      have hgq : Reads wq wq.heap.size 34 (some ⟨wc.heap.size, 0, none⟩) 1 (revC [r]) := by
        rw [← hwq]
        refine ((reads_revsR wc [r] (rvC r).toArray (by simp [revC])).alloc (by simp) _).more (by simp)
      rw [hwq]
      have hDq := hDc.be hBq
      have hVq := hVc.be hBq
      obtain ⟨gf, hgf⟩ : ∃ gf, wc.heap.size + 1 = gf := ⟨_, rfl⟩
      obtain ⟨gs, hgs⟩ : ∃ gs, wc.heap.size = gs := ⟨_, rfl⟩
      rw [hgf] at hfq ⊢
      rw [hgs] at hfq hgq
      try rw [hgs]
      have HDq := Sl.mk hDq
      have HFq := Sl.mk hfq
      have HGq := Sl.mk hgq
      clear hwq hgf hgs hDc hVc hBq y0 y1 y2 y3 d0 h34 hfold
      go_wp2_with fail
      go_cut [14, 15] (fun v14 v15 wx => ∃ (gz : Nat) (A2 : Option Addr) (c2 : Nat), v14 = .pointer (some ⟨gz, 0, none⟩) ∧ v15 = .int .i64 FE ∧ Below wq.heap.size wq wx ∧ Blk wx gz 30 #[.string f1, .string f2, .int .i64 fb, .slice A2 FL.length c2] ∧ wx.ownsRow wq.heap.size 36 34 (.slice A2 FL.length c2) FL.length (revC FL))
      case first =>
        have hu30 := Try.underlying30
        have hu27 := Try.underlying27
        have hi27 : (Try.prog.info? 27).map (·.size) = some (rvC r).length := by rw [infoRvR, rvC_len]
        have eg1 := enters_of Try.func10 (by kernel_rfl) rfl
        have eg2 := enters_of Try.func17 (by kernel_rfl) rfl
        have hd0 := hDq.x.blk.be (Below.refl wq.heap.size wq).drew
        have hv0 := hVq.be (Below.refl wq.heap.size wq).drew
        have hbd : Below wq.heap.size wq wq.drew := (Below.refl wq.heap.size wq).drew
        obtain ⟨wd, hwd⟩ : ∃ wd, wq.drew = wd := ⟨_, rfl⟩
        have hsz : wq.heap.size = wd.heap.size := by rw [← hwd]; rfl
        rw [hwd] at hd0 hv0 hbd
        have hS : ∀ W, Below wd.heap.size wd W → Blk W gx 30 #[.string u1, .string u2, .int .i64 a, .slice A l.length c] ∧ Blk W gr 27 (rvC r).toArray := fun W hb => ⟨hd0.be hb, hv0.be hb⟩
        have hfin : ∀ (gN : Nat) (A2 : Option Addr) (c2 : Nat) (W : World), Below wd.heap.size wd W → Blk W gN 30 #[.string f1, .string f2, .int .i64 fb, .slice A2 FL.length c2] → W.ownsRow wd.heap.size 36 34 (.slice A2 FL.length c2) FL.length (revC FL) → Below wq.heap.size wq W ∧ Blk W gN 30 #[.string f1, .string f2, .int .i64 fb, .slice A2 FL.length c2] ∧ W.ownsRow wq.heap.size 36 34 (.slice A2 FL.length c2) FL.length (revC FL) := fun gN A2 c2 W hb hq hr => ⟨below_tr hbd hb, hq, by rw [hsz]; exact hr⟩
        have HFIN := Sl.mk hfin
        clear hfin
        have hSd0 := hS wd (Below.refl _ _)
        refine wp_region_noPanic ?_
        refine wp_region_held_drew (S := fun W => Blk W gx 30 #[.string u1, .string u2, .int .i64 a, .slice A l.length c] ∧ Blk W gr 27 (rvC r).toArray) (by kernel_rfl) (by rw [hwd]; exact hSd0) (fun hSd => ?_)
        rw [hwd] at hSd ⊢
        have hB0 := Below.refl wd.heap.size wd
        clear hwd hbd hd0 hv0 hDq hVq hfq hgq
        refine wpAnyH_takeL (i := 0) (v := .pointer (some ⟨gx, 0, none⟩)) rfl (by kernel_rfl) (by kernel_rfl) (by kernel_rfl) (fun _ _ _ h => h) (.inl ⟨by rfl, fun w' _ => by go_simp⟩) hSd ?_
        simp only [Act.put, List.setIfInBounds_toArray, List.set_cons_zero, List.set_cons_succ]
        refine wpAnyH_takeL (i := 1) (v := .string u1) rfl (by kernel_rfl) (by kernel_rfl) (by kernel_rfl) (fun _ _ _ h => h) (.inl ⟨by rfl, fun w' hw' => by have h0 := hw'.1.cell 0; go_simp⟩) hSd ?_
        simp only [Act.put, List.setIfInBounds_toArray, List.set_cons_zero, List.set_cons_succ]
        refine wpAnyH_takeL (i := 2) (v := .pointer (some ⟨gx, 1, none⟩)) rfl (by kernel_rfl) (by kernel_rfl) (by kernel_rfl) (fun _ _ _ h => h) (.inl ⟨by rfl, fun w' _ => by go_simp⟩) hSd ?_
        simp only [Act.put, List.setIfInBounds_toArray, List.set_cons_zero, List.set_cons_succ]
        refine wpAnyH_takeL (i := 3) (v := .string u2) rfl (by kernel_rfl) (by kernel_rfl) (by kernel_rfl) (fun _ _ _ h => h) (.inl ⟨by rfl, fun w' hw' => by have h0 := hw'.1.cell 1; go_simp⟩) hSd ?_
        simp only [Act.put, List.setIfInBounds_toArray, List.set_cons_zero, List.set_cons_succ]
        refine wpAnyH_takeL (i := 4) (v := .agg (rvC r).toArray) rfl (by kernel_rfl) (by kernel_rfl) (by kernel_rfl) (fun _ _ _ h => h) (yieldsIf_load_mid (by rfl) 27 (.tmp 3) rfl gr 0 rfl (rvC r) _ (fun _ hw' => blk_range hw'.2) hu27 rfl hi27) hSd ?_
        simp only [Act.put, List.setIfInBounds_toArray, List.set_cons_zero, List.set_cons_succ]
        refine wpAnyH_twoL (i := 5) (j := 10) rfl rfl (by kernel_rfl) rfl rfl ?_ ?_
        · have hdummy := True.intro
          refine wp_of_call (f := 10) (args := #[.agg (rvC r).toArray]) (by go_simp) (rev_any r wd) (fun e w5 hp => ?_)
          obtain ⟨rfl, hB5⟩ := hp
          have hge5 := hB5.size
          have hBR := below_tr hB0 hB5
          refine ⟨_, rfl, hS _ hBR, ?_⟩
          simp only [Act.put, List.setIfInBounds_toArray, List.set_cons_zero, List.set_cons_succ]
          refine wpAnyH_twoL (i := 6) (j := 10) rfl rfl (by kernel_rfl) rfl rfl ?_ ?_
          · have hdummy := True.intro
            refine wp_of_call (f := 17) (args := #[.string u1, .string u2, .agg (rvC r).toArray]) (by go_simp) (first_any u1 u2 r w5 (by omega) (by omega)) (fun e w6 hp => ?_)
            obtain ⟨A2, c2, rfl, hB6, hrow⟩ := first_res hp HFres.out
            simp only at hrow ⊢
            have hBA := below_tr hBR hB6
            have hgeA := hBR.size
            clear hp
            refine ⟨_, rfl, hS _ hBA, ?_⟩
            simp only [Act.put, List.setIfInBounds_toArray, List.set_cons_zero, List.set_cons_succ]
            refine wpAnyH_takeL (i := 7) (v := .tuple #[.agg #[.string f1, .string f2, .int .i64 fb, .slice A2 FL.length c2], .int .i64 FE]) rfl (by kernel_rfl) (by kernel_rfl) (by kernel_rfl) (fun _ _ _ h => h) (.inl ⟨by rfl, fun w' _ => by go_simp⟩) (hS _ hBA) ?_
            simp only [Act.put, List.setIfInBounds_toArray, List.set_cons_zero, List.set_cons_succ]
            refine wpAnyH_takeL (i := 8) (v := .agg #[.string f1, .string f2, .int .i64 fb, .slice A2 FL.length c2]) rfl (by kernel_rfl) (by kernel_rfl) (by kernel_rfl) (fun _ _ _ h => h) (.inl ⟨by rfl, fun w' _ => by go_simp⟩) (hS _ hBA) ?_
            simp only [Act.put, List.setIfInBounds_toArray, List.set_cons_zero, List.set_cons_succ]
            refine wpAnyH_takeL (i := 9) (v := .int .i64 FE) rfl (by kernel_rfl) (by kernel_rfl) (by kernel_rfl) (fun _ _ _ h => h) (.inl ⟨by rfl, fun w' _ => by go_simp⟩) (hS _ hBA) ?_
            simp only [Act.put, List.setIfInBounds_toArray, List.set_cons_zero, List.set_cons_succ]
            refine wpAnyH_oneL (k := 10) rfl (by kernel_rfl) rfl ?_
            have hBN := below_al hBA (.cells #[.string { data := #[] }, .string { data := #[] }, .int .i64 0, .slice none 0 0] 30)
            have hZN := Blk.new w6 30 #[.string { data := #[] }, .string { data := #[] }, .int .i64 0, .slice none 0 0]
            have hsN : (w6.alloc (.cells #[.string { data := #[] }, .string { data := #[] }, .int .i64 0, .slice none 0 0] 30)).heap.size = w6.heap.size + 1 := by simp
            have hgeN : wd.heap.size ≤ w6.heap.size := hBA.size
            have hBZ : Below w6.heap.size w6 (w6.alloc (.cells #[.string { data := #[] }, .string { data := #[] }, .int .i64 0, .slice none 0 0] 30)) := below_al (Below.refl _ _) _
            refine wp_of_run (v := .pointer (some ⟨w6.heap.size, 0, none⟩)) (w' := w6.alloc (.cells #[.string { data := #[] }, .string { data := #[] }, .int .i64 0, .slice none 0 0] 30)) (by go_simp) ⟨hS _ hBN, ?_⟩
            simp only [Act.put, List.setIfInBounds_toArray, List.set_cons_zero, List.set_cons_succ]
            obtain ⟨wn, hwn⟩ : ∃ wn, w6.alloc (.cells #[.string { data := #[] }, .string { data := #[] }, .int .i64 0, .slice none 0 0] 30) = wn := ⟨_, rfl⟩
            rw [hwn] at hBN hZN hsN hBZ ⊢
            obtain ⟨gn, hgn⟩ : ∃ gn, w6.heap.size = gn := ⟨_, rfl⟩
            rw [hgn] at hZN hsN hgeN ⊢
            clear hwn
            have hrow6 := own_below hrow hBZ
            refine wpAnyH_oneL (k := 11) rfl (by kernel_rfl) rfl ?_
            refine wp_st hZN (.tmp 14) (.tmp 91) rfl f1 f2 fb A2 FL.length c2 rfl rfl rfl (fun w7 hQ7 hG7 _ => ?_)
            have hB7 := below_only hBN hG7 hBN.size (by omega)
            have hr7 : w7.ownsRow wd.heap.size _ 34 _ _ _ := own_mono (own_keep hrow6 hG7 (fun x hx e => by injection hx with hx; have := own_lt hrow e; omega)) (by omega)
            refine ⟨hS _ hB7, ?_⟩
            simp only [Act.put]
            refine wpAnyH_oneL (k := 12) rfl (by kernel_rfl) rfl ?_
            refine wp_of_run (v := .int .i64 FE) (w' := w7) (by rfl) ⟨hS _ hB7, ?_⟩
            simp only [Act.put, List.setIfInBounds_toArray, List.set_cons_zero, List.set_cons_succ]
            refine wpAnyH_done (by kernel_rfl) ?_ _
            refine NoPanic.normal ?_
            (try go_wp2_with fail)
            go_meet
            exact ⟨gn, A2, c2, rfl, rfl, HFIN.out gn A2 c2 w7 hB7 hQ7 hr7⟩
          · have hdummy := True.intro
            have hBN := below_al hBR (.cells #[.string { data := #[] }, .string { data := #[] }, .int .i64 0, .slice none 0 0] 30)
            have hZN := Blk.new w5 30 #[.string { data := #[] }, .string { data := #[] }, .int .i64 0, .slice none 0 0]
            have hsN : (w5.alloc (.cells #[.string { data := #[] }, .string { data := #[] }, .int .i64 0, .slice none 0 0] 30)).heap.size = w5.heap.size + 1 := by simp
            have hgeN : wd.heap.size ≤ w5.heap.size := hBR.size
            have hBZ : Below w5.heap.size w5 (w5.alloc (.cells #[.string { data := #[] }, .string { data := #[] }, .int .i64 0, .slice none 0 0] 30)) := below_al (Below.refl _ _) _
            refine wp_of_run (v := .pointer (some ⟨w5.heap.size, 0, none⟩)) (w' := w5.alloc (.cells #[.string { data := #[] }, .string { data := #[] }, .int .i64 0, .slice none 0 0] 30)) (by go_simp) ⟨hS _ hBN, ?_⟩
            simp only [Act.put, List.setIfInBounds_toArray, List.set_cons_zero, List.set_cons_succ]
            obtain ⟨wn, hwn⟩ : ∃ wn, w5.alloc (.cells #[.string { data := #[] }, .string { data := #[] }, .int .i64 0, .slice none 0 0] 30) = wn := ⟨_, rfl⟩
            rw [hwn] at hBN hZN hsN hBZ ⊢
            obtain ⟨gn, hgn⟩ : ∃ gn, w5.heap.size = gn := ⟨_, rfl⟩
            rw [hgn] at hZN hsN hgeN ⊢
            clear hwn
            refine wpAnyH_oneL (k := 6) rfl (by kernel_rfl) rfl ?_
            refine wp_of_call (f := 17) (args := #[.string u1, .string u2, .agg (rvC r).toArray]) (by go_simp) (first_any u1 u2 r wn (by omega) (by omega)) (fun e w6 hp => ?_)
            obtain ⟨A2, c2, rfl, hB6, hrow⟩ := first_res hp HFres.out
            simp only at hrow ⊢
            have hBA := below_tr hBN hB6
            have hgeA := hBN.size
            clear hp
            refine ⟨_, rfl, hS _ hBA, ?_⟩
            simp only [Act.put, List.setIfInBounds_toArray, List.set_cons_zero, List.set_cons_succ]
            have hZA := hZN.be hB6
            refine wpAnyH_takeL (i := 7) (v := .tuple #[.agg #[.string f1, .string f2, .int .i64 fb, .slice A2 FL.length c2], .int .i64 FE]) rfl (by kernel_rfl) (by kernel_rfl) (by kernel_rfl) (fun _ _ _ h => h) (.inl ⟨by rfl, fun w' _ => by go_simp⟩) (hS _ hBA) ?_
            simp only [Act.put, List.setIfInBounds_toArray, List.set_cons_zero, List.set_cons_succ]
            refine wpAnyH_takeL (i := 8) (v := .agg #[.string f1, .string f2, .int .i64 fb, .slice A2 FL.length c2]) rfl (by kernel_rfl) (by kernel_rfl) (by kernel_rfl) (fun _ _ _ h => h) (.inl ⟨by rfl, fun w' _ => by go_simp⟩) (hS _ hBA) ?_
            simp only [Act.put, List.setIfInBounds_toArray, List.set_cons_zero, List.set_cons_succ]
            refine wpAnyH_takeL (i := 9) (v := .int .i64 FE) rfl (by kernel_rfl) (by kernel_rfl) (by kernel_rfl) (fun _ _ _ h => h) (.inl ⟨by rfl, fun w' _ => by go_simp⟩) (hS _ hBA) ?_
            simp only [Act.put, List.setIfInBounds_toArray, List.set_cons_zero, List.set_cons_succ]
            refine wpAnyH_oneL (k := 11) rfl (by kernel_rfl) rfl ?_
            refine wp_st hZA (.tmp 14) (.tmp 91) rfl f1 f2 fb A2 FL.length c2 rfl rfl rfl (fun w7 hQ7 hG7 _ => ?_)
            have hB7 := below_only hBA hG7 hBA.size (by omega)
            have hr7 : w7.ownsRow wd.heap.size _ 34 _ _ _ := own_mono (own_keep hrow hG7 (fun x hx e => by injection hx with hx; have := ownGe hrow e; omega)) (by omega)
            refine ⟨hS _ hB7, ?_⟩
            simp only [Act.put]
            refine wpAnyH_oneL (k := 12) rfl (by kernel_rfl) rfl ?_
            refine wp_of_run (v := .int .i64 FE) (w' := w7) (by rfl) ⟨hS _ hB7, ?_⟩
            simp only [Act.put, List.setIfInBounds_toArray, List.set_cons_zero, List.set_cons_succ]
            refine wpAnyH_done (by kernel_rfl) ?_ _
            refine NoPanic.normal ?_
            (try go_wp2_with fail)
            go_meet
            exact ⟨gn, A2, c2, rfl, rfl, HFIN.out gn A2 c2 w7 hB7 hQ7 hr7⟩
        · have hdummy := True.intro
          have hBN := below_al hB0 (.cells #[.string { data := #[] }, .string { data := #[] }, .int .i64 0, .slice none 0 0] 30)
          have hZN := Blk.new wd 30 #[.string { data := #[] }, .string { data := #[] }, .int .i64 0, .slice none 0 0]
          have hsN : (wd.alloc (.cells #[.string { data := #[] }, .string { data := #[] }, .int .i64 0, .slice none 0 0] 30)).heap.size = wd.heap.size + 1 := by simp
          have hgeN : wd.heap.size ≤ wd.heap.size := hB0.size
          have hBZ : Below wd.heap.size wd (wd.alloc (.cells #[.string { data := #[] }, .string { data := #[] }, .int .i64 0, .slice none 0 0] 30)) := below_al (Below.refl _ _) _
          refine wp_of_run (v := .pointer (some ⟨wd.heap.size, 0, none⟩)) (w' := wd.alloc (.cells #[.string { data := #[] }, .string { data := #[] }, .int .i64 0, .slice none 0 0] 30)) (by go_simp) ⟨hS _ hBN, ?_⟩
          simp only [Act.put, List.setIfInBounds_toArray, List.set_cons_zero, List.set_cons_succ]
          obtain ⟨wn, hwn⟩ : ∃ wn, wd.alloc (.cells #[.string { data := #[] }, .string { data := #[] }, .int .i64 0, .slice none 0 0] 30) = wn := ⟨_, rfl⟩
          rw [hwn] at hBN hZN hsN hBZ ⊢
          obtain ⟨gn, hgn⟩ : ∃ gn, wd.heap.size = gn := ⟨_, rfl⟩
          rw [hgn] at hZN hsN hgeN ⊢
          clear hwn
          refine wpAnyH_oneL (k := 5) rfl (by kernel_rfl) rfl ?_
          refine wp_of_call (f := 10) (args := #[.agg (rvC r).toArray]) (by go_simp) (rev_any r wn) (fun e w5 hp => ?_)
          obtain ⟨rfl, hB5⟩ := hp
          have hge5 := hB5.size
          have hBR := below_tr hBN hB5
          refine ⟨_, rfl, hS _ hBR, ?_⟩
          simp only [Act.put, List.setIfInBounds_toArray, List.set_cons_zero, List.set_cons_succ]
          have hZR := hZN.be hB5
          refine wpAnyH_oneL (k := 6) rfl (by kernel_rfl) rfl ?_
          refine wp_of_call (f := 17) (args := #[.string u1, .string u2, .agg (rvC r).toArray]) (by go_simp) (first_any u1 u2 r w5 (by omega) (by omega)) (fun e w6 hp => ?_)
          obtain ⟨A2, c2, rfl, hB6, hrow⟩ := first_res hp HFres.out
          simp only at hrow ⊢
          have hBA := below_tr hBR hB6
          have hgeA := hBR.size
          clear hp
          refine ⟨_, rfl, hS _ hBA, ?_⟩
          simp only [Act.put, List.setIfInBounds_toArray, List.set_cons_zero, List.set_cons_succ]
          have hZA := hZR.be hB6
          refine wpAnyH_takeL (i := 7) (v := .tuple #[.agg #[.string f1, .string f2, .int .i64 fb, .slice A2 FL.length c2], .int .i64 FE]) rfl (by kernel_rfl) (by kernel_rfl) (by kernel_rfl) (fun _ _ _ h => h) (.inl ⟨by rfl, fun w' _ => by go_simp⟩) (hS _ hBA) ?_
          simp only [Act.put, List.setIfInBounds_toArray, List.set_cons_zero, List.set_cons_succ]
          refine wpAnyH_takeL (i := 8) (v := .agg #[.string f1, .string f2, .int .i64 fb, .slice A2 FL.length c2]) rfl (by kernel_rfl) (by kernel_rfl) (by kernel_rfl) (fun _ _ _ h => h) (.inl ⟨by rfl, fun w' _ => by go_simp⟩) (hS _ hBA) ?_
          simp only [Act.put, List.setIfInBounds_toArray, List.set_cons_zero, List.set_cons_succ]
          refine wpAnyH_takeL (i := 9) (v := .int .i64 FE) rfl (by kernel_rfl) (by kernel_rfl) (by kernel_rfl) (fun _ _ _ h => h) (.inl ⟨by rfl, fun w' _ => by go_simp⟩) (hS _ hBA) ?_
          simp only [Act.put, List.setIfInBounds_toArray, List.set_cons_zero, List.set_cons_succ]
          refine wpAnyH_oneL (k := 11) rfl (by kernel_rfl) rfl ?_
          refine wp_st hZA (.tmp 14) (.tmp 91) rfl f1 f2 fb A2 FL.length c2 rfl rfl rfl (fun w7 hQ7 hG7 _ => ?_)
          have hB7 := below_only hBA hG7 hBA.size (by omega)
          have hr7 : w7.ownsRow wd.heap.size _ 34 _ _ _ := own_mono (own_keep hrow hG7 (fun x hx e => by injection hx with hx; have := ownGe hrow e; omega)) (by omega)
          refine ⟨hS _ hB7, ?_⟩
          simp only [Act.put]
          refine wpAnyH_oneL (k := 12) rfl (by kernel_rfl) rfl ?_
          refine wp_of_run (v := .int .i64 FE) (w' := w7) (by rfl) ⟨hS _ hB7, ?_⟩
          simp only [Act.put, List.setIfInBounds_toArray, List.set_cons_zero, List.set_cons_succ]
          refine wpAnyH_done (by kernel_rfl) ?_ _
          refine NoPanic.normal ?_
          (try go_wp2_with fail)
          go_meet
          exact ⟨gn, A2, c2, rfl, rfl, HFIN.out gn A2 c2 w7 hB7 hQ7 hr7⟩
      case rest =>
        obtain ⟨gz, A2z, c2z, rfl, rfl, hBz, hZz, hoz⟩ := hcut
        have hDz := HDq.out.be hBz
        have hFz := HFq.out.be hBz
        have hGz := (HGq.out.below hBz).more hBz.size
        clear hDq hVq hfq hgq HDq HFq HGq hBz
        go_wp2_with (refine ld_pkR hFz rfl (.tmp 13) rfl rfl rfl ?_)
        refine (rcheck_any u1 u2 r.no (some ⟨gs, 0, none⟩) 1 1 [r] _ (by omega) (by omega) (by omega) hGz).mono ?_
        rintro e w21 ⟨rfl, hB21⟩
        rw [← (HFO.out).1]
        have hDx := hDz.be hB21
        have hFx := hFz.be hB21
        have hGx := (hGz.below hB21).more hB21.size
        have hZx := hZz.be hB21
        have hox := own_below hoz hB21
        clear hDz hFz hGz hZz hoz hB21
        go_wp2_with fail
        have hBx := hDx.x.below
        have hFd := hFx.be (Below.refl w21.heap.size w21).drew
        have hGd := (hGx.below (Below.refl w21.heap.size w21).drew)
        have hZd := hZx.be (Below.refl w21.heap.size w21).drew
        have hod := own_below hox (Below.refl w21.heap.size w21).drew
        have hbd := below_tr hBx (Below.refl w21.heap.size w21).drew
        clear hDx hFx hGx hZx hox hBx
        by_cases hE : FE = 0
        · obtain ⟨rfl, rfl, rfl, rfl⟩ := HFO.out.2 hE
          subst hE
          simp only [List.length_cons, List.length_nil, Nat.zero_add] at *
          have hSd : w21.drew.cell? ⟨gz, 0, none⟩ = some (.string f1) ∧ w21.drew.cell? ⟨gz, 1, none⟩ = some (.string f2) ∧ w21.drew.cell? ⟨gz, 2, none⟩ = some (.int .i64 r.no) ∧ w21.drew.cell? ⟨gz, 3, none⟩ = some (.slice A2z 1 c2z) ∧ w21.drew.cell? ⟨gf, 0, none⟩ = some (.string f1) ∧ w21.drew.cell? ⟨gf, 1, none⟩ = some (.string f2) ∧ w21.drew.cell? ⟨gf, 2, none⟩ = some (.int .i64 r.no) ∧ w21.drew.cell? ⟨gf, 3, none⟩ = some (.slice (some ⟨gs, 0, none⟩) 1 1) := ⟨hZd.cell 0, hZd.cell 1, hZd.cell 2, hZd.cell 3, hFd.cell 0, hFd.cell 1, hFd.cell 2, hFd.cell 3⟩
          go_region_held3 (fun W => W.cell? ⟨gz, 0, none⟩ = some (.string f1) ∧ W.cell? ⟨gz, 1, none⟩ = some (.string f2) ∧ W.cell? ⟨gz, 2, none⟩ = some (.int .i64 r.no) ∧ W.cell? ⟨gz, 3, none⟩ = some (.slice A2z 1 c2z) ∧ W.cell? ⟨gf, 0, none⟩ = some (.string f1) ∧ W.cell? ⟨gf, 1, none⟩ = some (.string f2) ∧ W.cell? ⟨gf, 2, none⟩ = some (.int .i64 r.no) ∧ W.cell? ⟨gf, 3, none⟩ = some (.slice (some ⟨gs, 0, none⟩) 1 1)) (first | assumption | exact hSd)
            (first
              | (go_at_call 19; refine (known_any _).mono ?_; rintro e w22 ⟨rfl, hB22⟩; have hF22 := hFd.be hB22; have hG22 := (hGd.below hB22).more hB22.size; have hZ22 := hZd.be hB22; have ho22 := own_below hod hB22; have hS22 : w22.cell? ⟨gz, 0, none⟩ = some (.string f1) ∧ w22.cell? ⟨gz, 1, none⟩ = some (.string f2) ∧ w22.cell? ⟨gz, 2, none⟩ = some (.int .i64 r.no) ∧ w22.cell? ⟨gz, 3, none⟩ = some (.slice A2z 1 c2z) ∧ w22.cell? ⟨gf, 0, none⟩ = some (.string f1) ∧ w22.cell? ⟨gf, 1, none⟩ = some (.string f2) ∧ w22.cell? ⟨gf, 2, none⟩ = some (.int .i64 r.no) ∧ w22.cell? ⟨gf, 3, none⟩ = some (.slice (some ⟨gs, 0, none⟩) 1 1) := ⟨hZ22.cell 0, hZ22.cell 1, hZ22.cell 2, hZ22.cell 3, hF22.cell 0, hF22.cell 1, hF22.cell 2, hF22.cell 3⟩)
              | (go_at_call 8; refine (of10_any f1 f2 r.no A2z 1 c2z [r] _ (by omega) (Reads.of_own ho22)).mono ?_; rintro e w23 ⟨A6, c6, rfl, ho6, hB23⟩; have hF23 := hF22.be hB23; have hG23 := (hG22.below hB23).more hB23.size; have hZ23 := hZ22.be hB23; have hS23 : w23.cell? ⟨gz, 0, none⟩ = some (.string f1) ∧ w23.cell? ⟨gz, 1, none⟩ = some (.string f2) ∧ w23.cell? ⟨gz, 2, none⟩ = some (.int .i64 r.no) ∧ w23.cell? ⟨gz, 3, none⟩ = some (.slice A2z 1 c2z) ∧ w23.cell? ⟨gf, 0, none⟩ = some (.string f1) ∧ w23.cell? ⟨gf, 1, none⟩ = some (.string f2) ∧ w23.cell? ⟨gf, 2, none⟩ = some (.int .i64 r.no) ∧ w23.cell? ⟨gf, 3, none⟩ = some (.slice (some ⟨gs, 0, none⟩) 1 1) := ⟨hZ23.cell 0, hZ23.cell 1, hZ23.cell 2, hZ23.cell 3, hF23.cell 0, hF23.cell 1, hF23.cell 2, hF23.cell 3⟩)
              | (go_at_call 12; refine (same10_any f1 f2 r.no A6 (some ⟨gs, 0, none⟩) 1 c6 1 [r] _ (by omega) (Reads.of_own ho6) hG23).mono ?_; rintro e w24 ⟨rfl, hB24⟩; have hS24 : w24.cell? ⟨gz, 0, none⟩ = some (.string f1) ∧ w24.cell? ⟨gz, 1, none⟩ = some (.string f2) ∧ w24.cell? ⟨gz, 2, none⟩ = some (.int .i64 r.no) ∧ w24.cell? ⟨gz, 3, none⟩ = some (.slice A2z 1 c2z) ∧ w24.cell? ⟨gf, 0, none⟩ = some (.string f1) ∧ w24.cell? ⟨gf, 1, none⟩ = some (.string f2) ∧ w24.cell? ⟨gf, 2, none⟩ = some (.int .i64 r.no) ∧ w24.cell? ⟨gf, 3, none⟩ = some (.slice (some ⟨gs, 0, none⟩) 1 1) := (let h1 := hZ23.be hB24; let h2 := hF23.be hB24; ⟨h1.cell 0, h1.cell 1, h1.cell 2, h1.cell 3, h2.cell 0, h2.cell 1, h2.cell 2, h2.cell 3⟩)))
          all_goals
            go_wp2_with fail
            go_ret
            exact ⟨by first | rfl | simp, below_tr (below_tr (below_tr hbd hB22) hB23) hB24⟩
        · have hne : ((FE : Int) != 0) = true := by simpa using hE
          have hSd : True := trivial
          go_region_with
            ((go_at_call 19; refine (known_any _).mono ?_; rintro e w22 ⟨rfl, hB22⟩))
          all_goals
            go_wp2_with fail
            go_ret
            exact ⟨by first | rfl | simp, below_tr hbd hB22⟩

end Go.Proofs.Ytkmdhmnjohlnaaa
