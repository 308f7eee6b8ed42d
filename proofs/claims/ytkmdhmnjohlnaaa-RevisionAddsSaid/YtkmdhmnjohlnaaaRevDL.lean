/-
  The walk of the law RevisionDrops.
-/
import Derived.Test.YtkmdhmnjohlnaaaRevRD
import Derived.Test.YtkmdhmnjohlnaaaRevBL
namespace Go.Proofs.Ytkmdhmnjohlnaaa
open Go.RowKit
attribute [local go_sem ↓] Go.wp_at_zero Go.wp_at_succ

/-- What comes of Drop, in plain words: the package, those that go, the error. -/
structure DropRes where
  t1 : ByteArray
  t2 : ByteArray
  b : Int
  L2 : List Rv
  G : List Rv
  E : Nat
def dropRes (u1 u2 : ByteArray) (a : Int) (l : List Rv) (ns : List Int) : DropRes :=
  if dropE u1 u2 a l ns = 0 then ⟨u1, u2, a, dropL false l ns, dropL true l ns, 0⟩ else ⟨⟨#[]⟩, ⟨#[]⟩, 0, [], [], dropE u1 u2 a l ns⟩
theorem drop_res {w w' : World} {u1 u2 : ByteArray} {a : Int} {l : List Rv} {ns : List Int} {e : Ending} (h : DropPost w u1 u2 a l ns e w') {R : DropRes} (hR : dropRes u1 u2 a l ns = R) :
    ∃ (A2 : Option Addr) (c2 : Nat) (A1 : Option Addr) (c1 : Nat), e = .returned (.tuple #[.agg #[.string R.t1, .string R.t2, .int .i64 R.b, .slice A2 R.L2.length c2], .slice A1 R.G.length c1, .int .i64 R.E]) ∧
      Below w.heap.size w w' ∧ Rows2 w' w.heap.size (.slice A1 R.G.length c1) R.G (.slice A2 R.L2.length c2) R.L2 := by
  subst hR
  obtain ⟨hB, hp⟩ := h
  unfold dropRes
  rcases hp with ⟨hE, rfl⟩ | ⟨hE, A1, c1, A2, c2, rfl, hrows⟩
  · rw [if_neg hE]
    exact ⟨none, 0, none, 0, rfl, hB, ⟨World.ownsRow_nil _ _ _ _, World.ownsRow_nil _ _ _ _, fun x hx => by simp [Value.ownBlock] at hx⟩⟩
  · rw [if_pos hE]
    exact ⟨A2, c2, A1, c1, rfl, hB, hrows⟩
theorem rdrop_res {w w' : World} {u1 u2 : ByteArray} {a : Int} {l : List Rv} {ns : List Int} {e : Ending} (h : RDropPost w u1 u2 a l ns e w') {R : DropRes} (hR : dropRes u1 u2 a l ns = R) :
    ∃ (A2 : Option Addr) (c2 : Nat) (A1 : Option Addr) (c1 : Nat), e = .returned (.tuple #[.agg #[.string R.t1, .string R.t2, .int .i64 R.b, .slice A2 R.L2.length c2], .slice A1 R.G.length c1, .int .i64 R.E]) ∧
      Below w.heap.size w w' ∧ Rows2R w' w.heap.size (.slice A1 R.G.length c1) R.G (.slice A2 R.L2.length c2) R.L2 := by
  subst hR
  obtain ⟨hB, hp⟩ := h
  unfold dropRes
  rcases hp with ⟨hE, rfl⟩ | ⟨hE, A1, c1, A2, c2, rfl, hrows⟩
  · rw [if_neg hE]
    exact ⟨none, 0, none, 0, rfl, hB, ⟨World.ownsRow_nil _ _ _ _, World.ownsRow_nil _ _ _ _, fun x hx => by simp [Value.ownBlock] at hx⟩⟩
  · rw [if_pos hE]
    exact ⟨A2, c2, A1, c1, rfl, hB, hrows⟩

theorem drop_check {u1 u2 : ByteArray} {a : Int} {l : List Rv} {ns : List Int} (hE : dropE u1 u2 a l ns = 0) : checkF u1 u2 a (dropL false l ns) = 0 ∧ 1 ≤ l.length := by
  have hc : checkF u1 u2 a l = 0 := by
    by_cases h : checkF u1 u2 a l = 0
    · exact h
    · unfold dropE at hE; rw [if_pos h] at hE; exact absurd hE h
  have hna : hasN a ns = false := by
    unfold dropE at hE
    rw [if_neg (by simpa using hc)] at hE
    cases h : hasN a ns
    · rfl
    · rw [h] at hE; split at hE <;> simp at hE
  obtain ⟨h1, h2, h3, h4, h5, h6⟩ := check_parts hc
  obtain ⟨r0, hr0, hra⟩ := idx_at a l (has_idx a l h6)
  have hm0 : r0 ∈ dropL false l ns := List.mem_filter.2 ⟨List.mem_of_getElem? hr0, by rw [hra, hna]; rfl⟩
  have hlen : (dropL false l ns).length ≤ l.length := List.length_filter_le _ _
  exact ⟨check_of h1 h2 (List.length_pos_of_mem hm0) (by omega) (good_filter _ l 0 h5) (List.any_eq_true.2 ⟨r0, hm0, by simp [hra]⟩), h3⟩
theorem dropRes_le (u1 u2 : ByteArray) (a : Int) (l : List Rv) (ns : List Int) : (dropRes u1 u2 a l ns).L2.length ≤ l.length ∧ (dropRes u1 u2 a l ns).G.length ≤ l.length := by
  unfold dropRes
  split
  · exact ⟨List.length_filter_le _ _, List.length_filter_le _ _⟩
  · exact ⟨Nat.zero_le _, Nat.zero_le _⟩
theorem dropRes_ok {u1 u2 : ByteArray} {a : Int} {l : List Rv} {ns : List Int} (h : (dropRes u1 u2 a l ns).E = 0) : checkF (dropRes u1 u2 a l ns).t1 (dropRes u1 u2 a l ns).t2 (dropRes u1 u2 a l ns).b (dropRes u1 u2 a l ns).L2 = 0 ∧ 1 ≤ l.length ∧ (dropRes u1 u2 a l ns).t1 = u1 ∧ (dropRes u1 u2 a l ns).t2 = u2 := by
  unfold dropRes at h ⊢
  by_cases hE : dropE u1 u2 a l ns = 0
  · rw [if_pos hE]
    exact ⟨(drop_check hE).1, (drop_check hE).2, rfl, rfl⟩
  · rw [if_neg hE] at h
    exact absurd h hE

/-- What the law keeps: x, y, q, w and what went. -/
structure DS (w W : World) (gx : Nat) (u1 u2 : ByteArray) (a : Int) (A : Option Addr) (c : Nat) (l : List Rv) (gy : Nat) (Ay : Option Addr) (cy : Nat) (gq : Nat) (t1 t2 : ByteArray) (b : Int) (A2 : Option Addr) (L2 : List Rv) (c2 : Nat) (A1 : Option Addr) (G : List Rv) (c1 : Nat) (gv : Nat) (A2' : Option Addr) (c2' : Nat) (A1' : Option Addr) (c1' : Nat) : Prop where
  x : BS w W gx u1 u2 a A c l
  y : Blk W gy 24 #[.string u1, .string u2, .int .i64 a, .slice Ay l.length cy]
  yo : W.ownsRow w.heap.size 27 34 (.slice Ay l.length cy) l.length (revC l)
  q : Blk W gq 30 #[.string t1, .string t2, .int .i64 b, .slice A2 L2.length c2]
  v : Blk W gv 24 #[.string t1, .string t2, .int .i64 b, .slice A2' L2.length c2']
  r : Rows2 W w.heap.size (.slice A1 G.length c1) G (.slice A2 L2.length c2) L2
  s : Rows2R W w.heap.size (.slice A1' G.length c1') G (.slice A2' L2.length c2') L2
section
variable {w W W' : World} {gx : Nat} {u1 u2 : ByteArray} {a : Int} {A : Option Addr} {c : Nat} {l : List Rv} {gy : Nat} {Ay : Option Addr} {cy : Nat} {gq : Nat} {t1 t2 : ByteArray} {b : Int} {A2 : Option Addr} {L2 : List Rv} {c2 : Nat} {A1 : Option Addr} {G : List Rv} {c1 : Nat} {gv : Nat} {A2' : Option Addr} {c2' : Nat} {A1' : Option Addr} {c1' : Nat}
theorem DS.be (h : DS w W gx u1 u2 a A c l gy Ay cy gq t1 t2 b A2 L2 c2 A1 G c1 gv A2' c2' A1' c1') (hb : Below W.heap.size W W') : DS w W' gx u1 u2 a A c l gy Ay cy gq t1 t2 b A2 L2 c2 A1 G c1 gv A2' c2' A1' c1' :=
  ⟨h.x.be hb, h.y.be hb, own_below h.yo hb, h.q.be hb, h.v.be hb, h.r.below hb, h.s.below hb⟩
theorem DS.cells (h : DS w W gx u1 u2 a A c l gy Ay cy gq t1 t2 b A2 L2 c2 A1 G c1 gv A2' c2' A1' c1') : W.cell? ⟨gq, 0, none⟩ = some (.string t1) ∧ W.cell? ⟨gq, 1, none⟩ = some (.string t2) ∧ W.cell? ⟨gq, 2, none⟩ = some (.int .i64 b) ∧ W.cell? ⟨gq, 3, none⟩ = some (.slice A2 L2.length c2) ∧ W.cell? ⟨gv, 0, none⟩ = some (.string t1) ∧ W.cell? ⟨gv, 1, none⟩ = some (.string t2) ∧ W.cell? ⟨gv, 2, none⟩ = some (.int .i64 b) ∧ W.cell? ⟨gv, 3, none⟩ = some (.slice A2' L2.length c2') ∧ W.cell? ⟨gx, 0, none⟩ = some (.string u1) ∧ W.cell? ⟨gx, 1, none⟩ = some (.string u2) ∧ W.cell? ⟨gx, 2, none⟩ = some (.int .i64 a) ∧ W.cell? ⟨gx, 3, none⟩ = some (.slice A l.length c) ∧ W.cell? ⟨gy, 0, none⟩ = some (.string u1) ∧ W.cell? ⟨gy, 1, none⟩ = some (.string u2) ∧ W.cell? ⟨gy, 2, none⟩ = some (.int .i64 a) ∧ W.cell? ⟨gy, 3, none⟩ = some (.slice Ay l.length cy) := ⟨h.q.cell 0, h.q.cell 1, h.q.cell 2, h.q.cell 3, h.v.cell 0, h.v.cell 1, h.v.cell 2, h.v.cell 3, h.x.blk.cell 0, h.x.blk.cell 1, h.x.blk.cell 2, h.x.blk.cell 3, h.y.cell 0, h.y.cell 1, h.y.cell 2, h.y.cell 3⟩
theorem DS.keep (hb : Below W.heap.size W W') (h : W.cell? ⟨gq, 0, none⟩ = some (.string t1) ∧ W.cell? ⟨gq, 1, none⟩ = some (.string t2) ∧ W.cell? ⟨gq, 2, none⟩ = some (.int .i64 b) ∧ W.cell? ⟨gq, 3, none⟩ = some (.slice A2 L2.length c2) ∧ W.cell? ⟨gv, 0, none⟩ = some (.string t1) ∧ W.cell? ⟨gv, 1, none⟩ = some (.string t2) ∧ W.cell? ⟨gv, 2, none⟩ = some (.int .i64 b) ∧ W.cell? ⟨gv, 3, none⟩ = some (.slice A2' L2.length c2') ∧ W.cell? ⟨gx, 0, none⟩ = some (.string u1) ∧ W.cell? ⟨gx, 1, none⟩ = some (.string u2) ∧ W.cell? ⟨gx, 2, none⟩ = some (.int .i64 a) ∧ W.cell? ⟨gx, 3, none⟩ = some (.slice A l.length c) ∧ W.cell? ⟨gy, 0, none⟩ = some (.string u1) ∧ W.cell? ⟨gy, 1, none⟩ = some (.string u2) ∧ W.cell? ⟨gy, 2, none⟩ = some (.int .i64 a) ∧ W.cell? ⟨gy, 3, none⟩ = some (.slice Ay l.length cy)) : W'.cell? ⟨gq, 0, none⟩ = some (.string t1) ∧ W'.cell? ⟨gq, 1, none⟩ = some (.string t2) ∧ W'.cell? ⟨gq, 2, none⟩ = some (.int .i64 b) ∧ W'.cell? ⟨gq, 3, none⟩ = some (.slice A2 L2.length c2) ∧ W'.cell? ⟨gv, 0, none⟩ = some (.string t1) ∧ W'.cell? ⟨gv, 1, none⟩ = some (.string t2) ∧ W'.cell? ⟨gv, 2, none⟩ = some (.int .i64 b) ∧ W'.cell? ⟨gv, 3, none⟩ = some (.slice A2' L2.length c2') ∧ W'.cell? ⟨gx, 0, none⟩ = some (.string u1) ∧ W'.cell? ⟨gx, 1, none⟩ = some (.string u2) ∧ W'.cell? ⟨gx, 2, none⟩ = some (.int .i64 a) ∧ W'.cell? ⟨gx, 3, none⟩ = some (.slice A l.length c) ∧ W'.cell? ⟨gy, 0, none⟩ = some (.string u1) ∧ W'.cell? ⟨gy, 1, none⟩ = some (.string u2) ∧ W'.cell? ⟨gy, 2, none⟩ = some (.int .i64 a) ∧ W'.cell? ⟨gy, 3, none⟩ = some (.slice Ay l.length cy) := ⟨cell_later hb h.1, cell_later hb h.2.1, cell_later hb h.2.2.1, cell_later hb h.2.2.2.1, cell_later hb h.2.2.2.2.1, cell_later hb h.2.2.2.2.2.1, cell_later hb h.2.2.2.2.2.2.1, cell_later hb h.2.2.2.2.2.2.2.1, cell_later hb h.2.2.2.2.2.2.2.2.1, cell_later hb h.2.2.2.2.2.2.2.2.2.1, cell_later hb h.2.2.2.2.2.2.2.2.2.2.1, cell_later hb h.2.2.2.2.2.2.2.2.2.2.2.1, cell_later hb h.2.2.2.2.2.2.2.2.2.2.2.2.1, cell_later hb h.2.2.2.2.2.2.2.2.2.2.2.2.2.1, cell_later hb h.2.2.2.2.2.2.2.2.2.2.2.2.2.2.1, cell_later hb h.2.2.2.2.2.2.2.2.2.2.2.2.2.2.2⟩
end

set_option maxRecDepth 100000 in
set_option maxHeartbeats 8000000 in
theorem drops_walk (s1 s2 : ByteArray) (a : Int) (A0 : Option Addr) (n0 c0 : Nat) (l0 : List Rv) (B : Option Addr) (m0 d m1 : Nat) (ns : List Int) (w : World) (h1 : s1.size ≤ 9223372036854775807) (h2 : s2.size ≤ 9223372036854775807) (hn0 : n0 ≤ 9223372036854775807)
    (hm0 : m0 ≤ 9223372036854775807) (hmd : m0 ≤ d) (hm1 : (m0 ≤ 10 ∧ m1 = m0) ∨ (10 < m0 ∧ m1 = 10)) (hR : Reads w w.heap.size 34 A0 n0 (revC l0)) (hN : Reads w w.heap.size 1 B m1 (ns.map (Value.int .i64))) :
    Calls Try.prog 5 #[.agg #[.string s1, .string s2, .int .i64 a, .slice A0 n0 c0], .slice B m0 d] w fun e w' => e = .returned (.bool true) ∧ Below w.heap.size w w' := by
  have hX0 := Blk.new w 24 #[.string s1, .string s2, .int .i64 a, .slice A0 n0 c0]
  have hE0 := below_al (Below.refl w.heap.size w) (.cells #[.string s1, .string s2, .int .i64 a, .slice A0 n0 c0] 24)
  obtain ⟨w0, hw0⟩ : ∃ w0, w.alloc (.cells #[.string s1, .string s2, .int .i64 a, .slice A0 n0 c0] 24) = w0 := ⟨_, rfl⟩
  rw [hw0] at hX0 hE0
  have HR0 := Sl.mk ((hR.below hE0).more hE0.size)
  have HN := Sl.mk hN
  obtain ⟨c00, c01, c02, c03⟩ := hX0.c4
  clear hR hN
  go_enter Try.func5, Try.ntmps5
  go_wp2_with fail
  clear hw0
  refine (to10_any s1 s2 a A0 n0 c0 l0 _ h1 h2 hn0 HR0.out).mono ?_
  rintro e w1 ⟨u1, u2, A, c, l, hu1, hu2, hl4, rfl, hown, hB1⟩
  have hE1 := below_tr hE0 hB1
  have hown1 := own_mono (b' := w.heap.size) hown hE0.size
  have hlo := hE1.size
  clear c00 c01 c02 c03 hX0 hE0 HR0 hown hB1
  go_wp2_with (refine st_pkn rfl (.tmp 5) (.tmp 16) rfl u1 u2 a A l.length c rfl rfl ?_)
  intro w2 hP2 hB2 _
  have hS2 : BS w w2 w1.heap.size u1 u2 a A c l := ⟨hP2, own_below hown1 hB2, hlo, below_tr hE1 hB2⟩
  obtain ⟨gx, hgx⟩ : ∃ gx, w1.heap.size = gx := ⟨_, rfl⟩
  rw [hgx] at hS2 ⊢
  clear hP2 hown1 hB2 hE1 hlo hgx
  go_wp2_with (refine ld_pk hS2.blk rfl (.tmp 5) rfl rfl rfl ?_)
  refine (of10_any u1 u2 a A l.length c l _ (by omega) (Reads.of_own hS2.own)).mono ?_
  rintro e w3 ⟨Ay, cy, rfl, hyo, hB3⟩
  have hS3 := hS2.be hB3
  have hyo3 := own_mono (b' := w.heap.size) hyo hS2.below.size
  clear hS2 hyo hB3
  go_wp2_with (refine st_pknR rfl (.tmp 6) (.tmp 18) rfl u1 u2 a Ay l.length cy rfl rfl ?_)
  intro w4 hY4 hB4 _
  have hS4 := hS3.be hB4
  have hyo4 := own_below hyo3 hB4
  obtain ⟨gy, hgy⟩ : ∃ gy, w3.heap.size = gy := ⟨_, rfl⟩
  rw [hgy] at hY4 ⊢
  clear hS3 hyo3 hB4 hgy
  have hmin : (if (10 : Int) < (m0 : Int) then (10 : Int) else (m0 : Int)) = (m1 : Int) := by split <;> omega
  have hmin2 : min (m0 : Int) 10 = (m1 : Int) := by omega
  have hz0 : (0 : Int) ≤ (m1 : Int) := by omega
  have hz1 : (m1 : Int) ≤ (d : Int) := by omega
  have hm1' : m1 ≤ 10 := by omega
  go_upto_region 3 with fail
  go_cut [1] (fun v1 wx => v1 = .slice B m1 d ∧ wx = w4)
  case first =>
    rcases hm1 with ⟨h10, rfl⟩ | ⟨h10, rfl⟩
    all_goals
      go_wp2_with fail
      go_meet
      exact ⟨by first | rfl | simp, rfl⟩
  case rest =>
    obtain ⟨rfl, rfl⟩ := hcut
    clear hmin hmin2 hz0 hz1 hm1
    go_wp2_with (refine ld_pk hS4.blk rfl (.tmp 5) rfl rfl rfl ?_)
    obtain ⟨R, hRes⟩ : ∃ R, dropRes u1 u2 a l ns = R := ⟨_, rfl⟩
    have hle := dropRes_le u1 u2 a l ns
    have hok := dropRes_ok (u1 := u1) (u2 := u2) (a := a) (l := l) (ns := ns)
    refine (drop_any u1 u2 a A l.length c l B m1 d ns _ (by omega) (by omega) (by omega) (by omega) (Reads.of_own hS4.own) ((HN.out.below hS4.below).more hS4.below.size)).mono ?_
    rintro e w5 hp
    obtain ⟨A2, c2, A1, c1, rfl, hB5, hrows⟩ := drop_res hp hRes
    have HRes := Sl.mk hRes
    rw [hRes] at hle hok
    obtain ⟨t1, t2, b, L2, G, E⟩ := R
    simp only at hle hok hrows ⊢
    have HOK := Sl.mk hok
    obtain ⟨hLle, hGle⟩ := hle
    have hS5 := hS4.be hB5
    have hY5 := hY4.be hB5
    have hyo5 := own_below hyo4 hB5
    have hrows5 : Rows2 w5 w.heap.size _ _ _ _ := ⟨own_mono hrows.own1 hS4.below.size, own_mono hrows.own2 hS4.below.size, hrows.ne⟩
    clear hp hrows hRes hS4 hY4 hyo4 hB5 hok
    go_wp2_with (refine st_pkn rfl (.tmp 7) (.tmp 28) rfl t1 t2 b A2 L2.length c2 rfl rfl ?_)
    intro w6 hQ6 hB6 _
    have hS6 := hS5.be hB6
    have hY6 := hY5.be hB6
    have hyo6 := own_below hyo5 hB6
    have hrows6 := hrows5.below hB6
    obtain ⟨gq, hgq⟩ : ∃ gq, w5.heap.size = gq := ⟨_, rfl⟩
    rw [hgq] at hQ6 ⊢
    clear hS5 hY5 hyo5 hrows5 hB6 hgq
    go_wp2_with (refine ld_pkR hY6 rfl (.tmp 6) rfl rfl rfl ?_)
    refine (rdrop_any u1 u2 a Ay l.length cy l B m1 d ns _ (by omega) (by omega) (by omega) (by omega) (Reads.of_own hyo6) ((HN.out.below hS6.below).more hS6.below.size)).mono ?_
    rintro e w7 hp
    obtain ⟨A2', c2', A1', c1', rfl, hB7, hrowsR⟩ := rdrop_res hp HRes.out
    simp only at hrowsR ⊢
    have hS7 := hS6.be hB7
    have hY7 := hY6.be hB7
    have hyo7 := own_below hyo6 hB7
    have hrows7 := hrows6.below hB7
    have hQ7 := hQ6.be hB7
    have hrowsR7 : Rows2R w7 w.heap.size _ _ _ _ := ⟨own_mono hrowsR.own1 hS6.below.size, own_mono hrowsR.own2 hS6.below.size, hrowsR.ne⟩
    clear hp hrowsR hS6 hY6 hyo6 hB7 hrows6 hQ6
    go_wp2_with (refine st_pknR rfl (.tmp 10) (.tmp 35) rfl t1 t2 b A2' L2.length c2' rfl rfl ?_)
    intro w8 hV8 hB8 _
    obtain ⟨gv, hgv⟩ : ∃ gv, w7.heap.size = gv := ⟨_, rfl⟩
    rw [hgv] at hV8 ⊢
    have hD : DS w w8 gx u1 u2 a A c l gy Ay cy gq t1 t2 b A2 L2 c2 A1 G c1 gv A2' c2' A1' c1' := ⟨hS7.be hB8, hY7.be hB8, own_below hyo7 hB8, hQ7.be hB8, hV8, hrows7.below hB8, hrowsR7.below hB8⟩
    clear hS7 hY7 hyo7 hrows7 hQ7 hrowsR7 hV8 hB8 hgv HRes
    have hDd := hD.be (Below.refl w8.heap.size w8).drew
    have hSd := hDd.cells
    have hLz : L2.length ≤ 1000000 := by omega
    have hGz : G.length ≤ 1000000 := by omega
    have hlz : l.length ≤ 1000000 := by omega
    go_wp2_with fail
    go_region_held3 (fun W => W.cell? ⟨gq, 0, none⟩ = some (.string t1) ∧ W.cell? ⟨gq, 1, none⟩ = some (.string t2) ∧ W.cell? ⟨gq, 2, none⟩ = some (.int .i64 b) ∧ W.cell? ⟨gq, 3, none⟩ = some (.slice A2 L2.length c2) ∧ W.cell? ⟨gv, 0, none⟩ = some (.string t1) ∧ W.cell? ⟨gv, 1, none⟩ = some (.string t2) ∧ W.cell? ⟨gv, 2, none⟩ = some (.int .i64 b) ∧ W.cell? ⟨gv, 3, none⟩ = some (.slice A2' L2.length c2') ∧ W.cell? ⟨gx, 0, none⟩ = some (.string u1) ∧ W.cell? ⟨gx, 1, none⟩ = some (.string u2) ∧ W.cell? ⟨gx, 2, none⟩ = some (.int .i64 a) ∧ W.cell? ⟨gx, 3, none⟩ = some (.slice A l.length c) ∧ W.cell? ⟨gy, 0, none⟩ = some (.string u1) ∧ W.cell? ⟨gy, 1, none⟩ = some (.string u2) ∧ W.cell? ⟨gy, 2, none⟩ = some (.int .i64 a) ∧ W.cell? ⟨gy, 3, none⟩ = some (.slice Ay l.length cy)) (first | assumption | exact hSd)
      (first
        | (go_at_call 8; have _g := hD12; refine (of10_any u1 u2 a A l.length c l _ hlz (Reads.of_own hD12.x.own)).mono ?_; rintro e w13 ⟨A8, c8, rfl, ho8, hB13⟩; have hD13 := hD12.be hB13; have hS13 := hD13.cells)
        | (go_at_call 12; have _g := hD13; refine (same10_any u1 u2 a A8 Ay l.length c8 cy l _ hlz (Reads.of_own ho8) (Reads.of_own hD13.yo)).mono ?_; rintro e w14 ⟨rfl, hB14⟩; have hD14 := hD13.be hB14; have hS14 := hD14.cells)
        | (go_at_call 14; refine (revs_any A1 G.length c1 G _ hGz (Reads.of_own hD10.r.own1)).mono ?_; rintro e w11 ⟨A7, c7, rfl, ho7, hB11⟩; have hD11 := hD10.be hB11; have hS11 := hD11.cells)
        | (go_at_call 13; refine (same_revs A7 A1' G.length c7 c1' G _ hGz (Reads.of_own ho7) (Reads.of_own hD11.s.own1)).mono ?_; rintro e w12 ⟨rfl, hB12⟩; have hD12 := hD11.be hB12; have hS12 := hD12.cells)
        | (go_at_call 8; refine (of10_any t1 t2 b A2 L2.length c2 L2 _ hLz (Reads.of_own hDd.r.own2)).mono ?_; rintro e w9 ⟨A6, c6, rfl, ho6, hB9⟩; have hD9 := hDd.be hB9; have hS9 := hD9.cells)
        | (go_at_call 12; refine (same10_any t1 t2 b A6 A2' L2.length c6 c2' L2 _ hLz (Reads.of_own ho6) (Reads.of_own hD9.s.own2)).mono ?_; rintro e w10 ⟨rfl, hB10⟩; have hD10 := hD9.be hB10; have hS10 := hD10.cells))
    clear hSd
    try clear hS9 hS10 hS11 hS12 hS13 hS14
    try clear hD hDd hD9 hD10 hD11 hD12 hD13
    try clear ho6 ho7 ho8
    go_wp2_with (refine ld_pk hD14.x.blk rfl (.tmp 5) rfl rfl rfl ?_)
    refine (kept_any u1 u2 a A l.length c l _ hlz (Reads.of_own hD14.x.own)).mono ?_
    rintro e w15 ⟨A9, c9, rfl, hk, hB15⟩
    have hD15 := hD14.be hB15
    have hk15 := own_mono (b' := w.heap.size) hk hD14.x.below.size
    clear hk hB15 hD14
    obtain ⟨y0, y1, y2, y3⟩ := hD15.y.c4
    go_wp2_with fail
    clear y0 y1 y2 y3
    go_loopw [14] (fun s14 wr => ∃ i : Nat, i ≤ l.length ∧ s14 = .int .i64 i ∧ DS w wr gx u1 u2 a A c l gy Ay cy gq t1 t2 b A2 L2 c2 A1 G c1 gv A2' c2' A1' c1' ∧ wr.ownsRow w.heap.size 3 1 (.slice A9 l.length c9) l.length (nosV l)) (fun s14 _ => l.length - (intOf s14).toNat)
    case atStart => exact ⟨0, Nat.zero_le _, rfl, hD15, hk15⟩
    case round =>
      obtain ⟨i, hi, rfl, hK, hkw⟩ := hrel
      clear hD15 hk15
      obtain ⟨y0, y1, y2, y3⟩ := hK.y.c4
      by_cases hil : i < l.length
      · obtain ⟨r, hr⟩ : ∃ r, l[i]? = some r := ⟨_, List.getElem?_eq_getElem hil⟩
        obtain ⟨g, cc, hv, _, hglt, hcell⟩ := ownCells hkw (by omega)
        injection hv with hA _ hcc
        obtain ⟨g', cc', hv', _, hglt', hcell'⟩ := ownCells hK.yo (by omega)
        injection hv' with hA' _ hcc'
        subst hA hcc hA' hcc'
        have hc0 : wr.cell? ⟨g, i, none⟩ = some (.int .i64 r.no) := hcell i _ (by simp [nosV, hr])
        have hc1 : wr.cell? ⟨g', i * 34, none⟩ = some (.int .i64 r.no) := hcell' (i * 34) _ (revC_at l i r hr 0 _ (rvC_0 r))
        have e1 : decide ((i : Int) < l.length) = true := by simp; omega
        have e2 : ((l.length : Int) != l.length) = false := by simp
        have e3 : (r.no != r.no) = false := by simp
        have hi0 : (0 : Int) ≤ (i : Int) := by omega
        have hi1 : (i : Int) < (l.length : Int) := by omega
        clear hr hcell hcell'
        go_wp2_with fail
        go_quiet (fail)
        go_wp2_with fail
        have hBn : Below wr.heap.size wr (wr.drewN nq) := below_drN (Below.refl _ _) _
        exact ⟨⟨i + 1, by omega, by go_num, hK.be hBn, own_below hkw hBn⟩, by simp [intOf]; omega⟩
      · obtain rfl : i = l.length := by omega
        have e1 : decide ((l.length : Int) < l.length) = false := by simp
        clear y0 y1 y2
        go_wp2_with fail
        refine (known_any _).mono ?_
        rintro e w16 ⟨rfl, hB16⟩
        have hK16 := hK.be hB16
        have hkw16 := own_below hkw hB16
        clear hK hkw hB16 y3
        obtain ⟨y0, y1, y2, y3⟩ := hK16.y.c4
        obtain ⟨q0, q1, q2, q3⟩ := hK16.q.c4
        obtain ⟨x0, x1, x2, x3⟩ := hK16.x.blk.c4
        by_cases hE : E = 0
        · obtain ⟨hck, hl1, rfl, rfl⟩ := HOK.out hE
          have HCK := Sl.mk hck
          clear hck
          subst hE
          have hl0 : ¬ l = [] := List.length_pos_iff.1 hl1
          have g1 : decide ((0 : Int) < (l.length : Int)) = true := by simp; omega
          clear x0 x1 x2 x3 y0 y1 y2 y3
          go_wp2_with fail
          refine (check_any t1 t2 b A2 L2.length c2 L2 _ (by omega) (by omega) (by omega) (Reads.of_own hK16.r.own2)).mono ?_
          rintro e w17 ⟨rfl, hB17⟩
          have hK17 := hK16.be hB17
          clear hK16 q0 q1 q2 q3
          obtain ⟨y0, y1, y2, y3⟩ := hK17.y.c4
          rw [HCK.out]
          have hB17' := hK17.x.below
          clear hK17
          go_wp2_with fail
          go_ret
          exact ⟨by first | rfl | simp, hB17'⟩
        · have hne : ((E : Int) != 0) = true := by simpa using hE
          by_cases hl0 : l = []
          · subst hl0
            have g1 : decide ((0 : Int) < (0 : Int)) = false := by simp
            clear q0 q1 q2 q3 y0 y1 y2
            go_wp2_with fail
            refine (next_any u1 u2 a A 0 c [] _ (by omega) (Reads.of_own hK16.x.own) rfl).mono ?_
            rintro e w17 ⟨rfl, hB17⟩
            have hK17 := hK16.be hB17
            clear hK16 x0 x1 x2 x3 y3
            rw [show lastF [] + 1 = 1 from rfl]
            go_wp2_with fail
            go_ret
            exact ⟨by first | rfl | simp, hK17.x.below⟩
          · have hl1 : 0 < l.length := List.length_pos_iff.2 hl0
            have g1 : decide ((0 : Int) < (l.length : Int)) = true := by simp; omega
            clear x0 x1 x2 x3 q0 q1 q2 q3 y0 y1 y2
            go_wp2_with fail
            go_ret
            exact ⟨by first | rfl | simp, hK16.x.below⟩

end Go.Proofs.Ytkmdhmnjohlnaaa
