/-
  The walk of the law RevisionBack.
-/
import Derived.Test.YtkmdhmnjohlnaaaRevTo
import Derived.Test.YtkmdhmnjohlnaaaRevDrop
import Derived.Test.YtkmdhmnjohlnaaaRevSame
import Derived.Test.YtkmdhmnjohlnaaaWordsU
namespace Go.Proofs.Ytkmdhmnjohlnaaa
open Go.RowKit

/-- The law's package. -/
structure BS (w W : World) (gx : Nat) (u1 u2 : ByteArray) (a : Int) (A : Option Addr) (c : Nat) (l : List Rv) : Prop where
  blk : Blk W gx 30 #[.string u1, .string u2, .int .i64 a, .slice A l.length c]
  own : W.ownsRow w.heap.size 36 34 (.slice A l.length c) l.length (revC l)
  lo : w.heap.size ≤ gx
  below : Below w.heap.size w W
theorem BS.be {w W W' : World} {gx : Nat} {u1 u2 : ByteArray} {a : Int} {A : Option Addr} {c : Nat} {l : List Rv} (h : BS w W gx u1 u2 a A c l) (hb : Below W.heap.size W W') : BS w W' gx u1 u2 a A c l :=
  ⟨h.blk.be hb, own_below h.own hb, h.lo, below_tr h.below hb⟩

theorem to_parts {s1 s2 : ByteArray} {a no : Int} {l : List Rv} (h : toF s1 s2 a no l = 0) : checkF s1 s2 a l = 0 ∧ idxR no l < l.length := by
  unfold toF at h
  by_cases hc : checkF s1 s2 a l = 0
  · rw [if_neg (by simpa using hc)] at h
    refine ⟨hc, ?_⟩
    by_cases hi : idxR no l < l.length
    · exact hi
    · rw [if_neg hi] at h; cases h
  · rw [if_pos hc] at h; exact absurd h hc
theorem to_back {s1 s2 : ByteArray} {a no : Int} {l : List Rv} (h : toF s1 s2 a no l = 0) : toF s1 s2 no a l = 0 := by
  obtain ⟨hc, hi⟩ := to_parts h
  obtain ⟨h1, h2, h3, h4, h5, h6⟩ := check_parts hc
  obtain ⟨r, hr, hrn⟩ := idx_at no l hi
  have hn : hasF no l = true := List.any_eq_true.2 ⟨r, List.mem_of_getElem? hr, by simp [hrn]⟩
  unfold toF
  rw [if_neg (by rw [check_of h1 h2 h3 h4 h5 hn]; simp), if_pos (has_idx a l h6)]

/-- What comes of Drop, errors and all. -/
def DropIs (u1 u2 : ByteArray) (a : Int) (l : List Rv) (ns : List Int) (t1 t2 : ByteArray) (b : Int) (L2 G : List Rv) (E : Int) : Prop :=
  (E ≠ 0 ∧ G = []) ∨ (E = 0 ∧ t1 = u1 ∧ t2 = u2 ∧ b = a ∧ G = dropL true l ns ∧ L2 = dropL false l ns ∧ dropE u1 u2 a l ns = 0)
theorem drop_form {w w' : World} {u1 u2 : ByteArray} {a : Int} {l : List Rv} {ns : List Int} {e : Ending} (h : DropPost w u1 u2 a l ns e w') (hl : l.length ≤ 4) :
    ∃ (t1 t2 : ByteArray) (b : Int) (A2 : Option Addr) (L2 : List Rv) (c2 : Nat) (A1 : Option Addr) (G : List Rv) (c1 : Nat) (E : Int), e = .returned (.tuple #[.agg #[.string t1, .string t2, .int .i64 b, .slice A2 L2.length c2], .slice A1 G.length c1, .int .i64 E]) ∧
      Below w.heap.size w w' ∧ Rows2 w' w.heap.size (.slice A1 G.length c1) G (.slice A2 L2.length c2) L2 ∧ G.length ≤ 4 ∧ L2.length ≤ 4 ∧ DropIs u1 u2 a l ns t1 t2 b L2 G E := by
  obtain ⟨hB, hp⟩ := h
  rcases hp with ⟨hE, rfl⟩ | ⟨hE, A1, c1, A2, c2, rfl, hrows⟩
  · exact ⟨⟨#[]⟩, ⟨#[]⟩, 0, none, [], 0, none, [], 0, _, rfl, hB, ⟨World.ownsRow_nil _ _ _ _, World.ownsRow_nil _ _ _ _, fun x hx => by simp [Value.ownBlock] at hx⟩, by simp, by simp, .inl ⟨by simpa using hE, rfl⟩⟩
  · have h1 : (dropL true l ns).length ≤ l.length := List.length_filter_le _ _
    have h2 : (dropL false l ns).length ≤ l.length := List.length_filter_le _ _
    exact ⟨u1, u2, a, A2, _, c2, A1, _, c1, 0, rfl, hB, hrows, by omega, by omega, .inr ⟨rfl, rfl, rfl, rfl, rfl, rfl, hE⟩⟩

/-- What the law's loop leaves as it is. -/
structure LS (w W : World) (gx : Nat) (u1 u2 : ByteArray) (a : Int) (A : Option Addr) (c : Nat) (l : List Rv) (gq : Nat) (t1 t2 : ByteArray) (b : Int) (A2 : Option Addr) (L2 : List Rv) (c2 : Nat) (A1 : Option Addr) (G : List Rv) (c1 : Nat) : Prop where
  bs : BS w W gx u1 u2 a A c l
  blk : Blk W gq 30 #[.string t1, .string t2, .int .i64 b, .slice A2 L2.length c2]
  rows : Rows2 W w.heap.size (.slice A1 G.length c1) G (.slice A2 L2.length c2) L2
section
variable {w W W0 W1 W2 : World} {gx : Nat} {u1 u2 : ByteArray} {a : Int} {A : Option Addr} {c : Nat} {l : List Rv} {gq : Nat} {t1 t2 : ByteArray} {b : Int} {A2 : Option Addr} {L2 : List Rv} {c2 : Nat} {A1 : Option Addr} {G : List Rv} {c1 : Nat}
theorem LS.be (h : LS w W gx u1 u2 a A c l gq t1 t2 b A2 L2 c2 A1 G c1) (hb : Below W.heap.size W W1) : LS w W1 gx u1 u2 a A c l gq t1 t2 b A2 L2 c2 A1 G c1 :=
  ⟨h.bs.be hb, h.blk.be hb, h.rows.below hb⟩
theorem LS.far {g : Nat} (h0 : LS w W0 gx u1 u2 a A c l gq t1 t2 b A2 L2 c2 A1 G c1) (h : LS w W1 gx u1 u2 a A c l gq t1 t2 b A2 L2 c2 A1 G c1) (hg : W0.heap.size ≤ g) (hG : W1.grownBy W2 (some g)) : LS w W2 gx u1 u2 a A c l gq t1 t2 b A2 L2 c2 A1 G c1 := by
  have e1 := h0.bs.blk.lt
  have e2 := h0.blk.lt
  have e3 := h0.bs.below.size
  refine ⟨⟨blk_only h.bs.blk hG (by omega), own_keep h.bs.own hG (fun x hx e => by injection hx with hx; have := own_lt h0.bs.own e; omega), h.bs.lo, below_only h.bs.below hG h.bs.below.size (by omega)⟩, blk_only h.blk hG (by omega), ⟨?_, ?_, h.rows.ne⟩⟩
  · exact own_keep h.rows.own1 hG (fun x hx e => by injection hx with hx; have := own_lt h0.rows.own1 e; omega)
  · exact own_keep h.rows.own2 hG (fun x hx e => by injection hx with hx; have := own_lt h0.rows.own2 e; omega)
end

theorem gone_no {u1 u2 : ByteArray} {a : Int} {l : List Rv} {ns : List Int} (hE : dropE u1 u2 a l ns = 0) {r : Rv} (hr : r ∈ dropL true l ns) :
    toF u1 u2 a r.no (dropL false l ns) = 7 ∧ ¬ idxR r.no (dropL false l ns) < (dropL false l ns).length := by
  have hc : checkF u1 u2 a l = 0 := by
    by_cases h : checkF u1 u2 a l = 0
    · exact h
    · unfold dropE at hE; rw [if_pos h] at hE; exact absurd hE h
  have hna : hasN a ns = false := by
    unfold dropE at hE
    rw [if_neg (by simpa using hc)] at hE
    cases h : hasN a ns
    · rfl
    · rw [h] at hE; split at hE <;> simp at hE
  obtain ⟨h1, h2, h3, h4, h5, h6⟩ := check_parts hc
  obtain ⟨r0, hr0, hra⟩ := idx_at a l (has_idx a l h6)
  have hm0 : r0 ∈ dropL false l ns := List.mem_filter.2 ⟨List.mem_of_getElem? hr0, by rw [hra, hna]; rfl⟩
  have hlen : (dropL false l ns).length ≤ l.length := List.length_filter_le _ _
  have hpos : 1 ≤ (dropL false l ns).length := List.length_pos_of_mem hm0
  have hck : checkF u1 u2 a (dropL false l ns) = 0 := check_of h1 h2 hpos (by omega) (good_filter _ l 0 h5) (List.any_eq_true.2 ⟨r0, hm0, by simp [hra]⟩)
  have hrn : hasN r.no ns = true := by have := (List.mem_filter.1 hr).2; simpa using this
  have hno : ¬ idxR r.no (dropL false l ns) < (dropL false l ns).length := idx_none fun x hx e => by
    have := (List.mem_filter.1 hx).2
    rw [e, hrn] at this
    simp at this
  refine ⟨?_, hno⟩
  unfold toF
  rw [if_neg (by rw [hck]; simp), if_neg hno]
theorem drop_len (l : List Rv) (ns : List Int) : (dropL false l ns).length + (dropL true l ns).length = l.length := by
  induction l with
  | nil => rfl
  | cons r l ih =>
    unfold dropL at ih ⊢
    cases h : hasN r.no ns <;> simp [h] at ih ⊢ <;> omega

theorem to_seven {w w' : World} {s1 s2 : ByteArray} {a no : Int} {n : Nat} {l : List Rv} {e : Ending} (h : PkPost w (toF s1 s2 a no l) s1 s2 no n l e w') (h7 : toF s1 s2 a no l = 7) : e = .returned (.tuple #[.agg #[.string { data := #[] }, .string { data := #[] }, .int .i64 0, .slice none 0 0], .int .i64 7]) ∧ Below w.heap.size w w' := by
  obtain ⟨hB, hp⟩ := h
  rcases hp with ⟨_, rfl⟩ | ⟨h0, _⟩
  · exact ⟨by rw [h7]; rfl, hB⟩
  · rw [h7] at h0; cases h0
theorem find_none {w w' : World} {no : Int} {l : List Rv} {e : Ending} (h : FindPost w no l e w') (hn : ¬ idxR no l < l.length) : e = .returned (.tuple #[.agg (rvC rv0).toArray, .int .i64 7]) ∧ Below w.heap.size w w' := by
  obtain ⟨rfl, hB⟩ := h
  rw [if_neg hn, List.getElem?_eq_none (by omega)]
  exact ⟨rfl, hB⟩

theorem wp_strv {o : Oper} {a : Act} {w : World} {K : Act → World → Prop} {Q : Exit → Act → World → Prop} {g : Nat} {r0 : Rv} (hB : Blk w g 36 (rvC r0).toArray) (x y : Operand) (ho : o.op = .store 36 x y) (r : Rv)
    (hx : a.eval x = .pointer (some ⟨g, 0, none⟩)) (hy : a.eval y = .agg (rvC r).toArray)
    (h : ∀ w', Blk w' g 36 (rvC r).toArray → w.grownBy w' (some g) → w'.heap.size = w.heap.size → K (a.put o.dst undef) w') : o.wp Try.prog a w K Q := by
  have h2 := blk_setCells (rvC r) 0 w (rvC r0) hB (by simp [rvC_len])
  have e : (rvC r0).take 0 ++ rvC r ++ (rvC r0).drop (0 + (rvC r).length) = rvC r := by
    rw [List.drop_of_length_le (by simp [rvC_len])]; simp
  rw [e] at h2
  refine wp_store_mid 36 x y ho g 0 (rvC r).toArray hx hy (there_blk hB (by simp [rvC_len])) (by rw [infoRv]; simp [rvC_len]) (all_oneCell_toArray (rvC_one r)) ?_
  exact h _ h2 (only_setCells g _ 0 w w (only_refl w _)) (size_setCells g _ 0 w)

theorem wp_of_call {P : Program} {o : Oper} {a : Act} {w : World} {K : Act → World → Prop} {Q : Exit → Act → World → Prop} {f : FuncId} {args : Array Value} {R : Ending → World → Prop} (hrun : (execOp a.eval o).run P w = .ok (.enter f args) w)
    (hc : Calls P f args w R) (h : ∀ e w', R e w' → ∃ v, e = .returned v ∧ K (a.put o.dst v) w') : o.wp P a w K Q := by
  unfold Oper.wp
  rw [hrun]
  refine hc.mono fun e w' hr => ?_
  obtain ⟨v, rfl, hk⟩ := h e w' hr
  exact hk
theorem wp_st {o : Oper} {a : Act} {w : World} {K : Act → World → Prop} {Q : Exit → Act → World → Prop} {g : Nat} {cs : Array Value} (hB : Blk w g 30 cs) (x y : Operand) (ho : o.op = .store 30 x y) (s1 s2 : ByteArray) (ac : Int) (A : Option Addr) (n c : Nat)
    (hx : a.eval x = .pointer (some ⟨g, 0, none⟩)) (hy : a.eval y = .agg #[.string s1, .string s2, .int .i64 ac, .slice A n c]) (hs : cs.size = 4)
    (h : ∀ w', Blk w' g 30 #[.string s1, .string s2, .int .i64 ac, .slice A n c] → w.grownBy w' (some g) → w'.heap.size = w.heap.size → K (a.put o.dst undef) w') : o.wp Try.prog a w K Q := by
  have hB' : Blk w g 30 cs.toList.toArray := hB
  have h2 := blk_setCells [.string s1, .string s2, .int .i64 ac, .slice A n c] 0 w cs.toList hB' (by simp [hs])
  have e : cs.toList.take 0 ++ [Value.string s1, .string s2, .int .i64 ac, .slice A n c] ++ cs.toList.drop (0 + [Value.string s1, .string s2, .int .i64 ac, .slice A n c].length) = [Value.string s1, .string s2, .int .i64 ac, .slice A n c] := by
    rw [List.drop_of_length_le (by simp [hs])]; rfl
  rw [e] at h2
  refine wp_store_mid 30 x y ho g 0 #[.string s1, .string s2, .int .i64 ac, .slice A n c] hx hy (there_blk hB' (by simp [hs])) (by rw [infoPk]; rfl) (by simp [Value.oneCell']) ?_
  exact h _ h2 (only_setCells g _ 0 w w (only_refl w _)) (size_setCells g _ 0 w)

set_option maxRecDepth 100000 in
set_option maxHeartbeats 4000000 in
theorem back_walk (s1 s2 : ByteArray) (a no : Int) (A0 : Option Addr) (n0 c0 : Nat) (l0 : List Rv) (B : Option Addr) (m0 d m1 : Nat) (ns : List Int) (w : World) (h1 : s1.size ≤ 9223372036854775807) (h2 : s2.size ≤ 9223372036854775807) (hn0 : n0 ≤ 9223372036854775807)
    (hm0 : m0 ≤ 9223372036854775807) (hmd : m0 ≤ d) (hm1 : (m0 ≤ 10 ∧ m1 = m0) ∨ (10 < m0 ∧ m1 = 10)) (hR : Reads w w.heap.size 34 A0 n0 (revC l0)) (hN : Reads w w.heap.size 1 B m1 (ns.map (Value.int .i64))) :
    Calls Try.prog 6 #[.agg #[.string s1, .string s2, .int .i64 a, .slice A0 n0 c0], .int .i64 no, .slice B m0 d] w fun e w' => e = .returned (.bool true) ∧ Below w.heap.size w w' := by
  have hX0 := Blk.new w 24 #[.string s1, .string s2, .int .i64 a, .slice A0 n0 c0]
  have hE0 := below_al (Below.refl w.heap.size w) (.cells #[.string s1, .string s2, .int .i64 a, .slice A0 n0 c0] 24)
  obtain ⟨w0, hw0⟩ : ∃ w0, w.alloc (.cells #[.string s1, .string s2, .int .i64 a, .slice A0 n0 c0] 24) = w0 := ⟨_, rfl⟩
  rw [hw0] at hX0 hE0
  have HR0 := Sl.mk ((hR.below hE0).more hE0.size)
  have HN := Sl.mk hN
  obtain ⟨c00, c01, c02, c03⟩ := hX0.c4
  clear hR hN
  go_enter Try.func6, Try.ntmps6
  go_wp2_with fail
  clear hw0
  refine (to10_any s1 s2 a A0 n0 c0 l0 _ h1 h2 hn0 HR0.out).mono ?_
  rintro e w1 ⟨u1, u2, A, c, l, hu1, hu2, hl4, rfl, hown, hB1⟩
  have hE1 := below_tr hE0 hB1
  have hown1 := own_mono (b' := w.heap.size) hown hE0.size
  have hlo := hE1.size
  clear c00 c01 c02 c03 hX0 hE0 HR0 hown hB1
  go_wp2_with (refine st_pkn rfl (.tmp 7) (.tmp 21) rfl u1 u2 a A l.length c rfl rfl ?_)
  intro w2 hP2 hB2 _
  have hS2 : BS w w2 w1.heap.size u1 u2 a A c l := ⟨hP2, own_below hown1 hB2, hlo, below_tr hE1 hB2⟩
  obtain ⟨gx, hgx⟩ : ∃ gx, w1.heap.size = gx := ⟨_, rfl⟩
  rw [hgx] at hS2 ⊢
  clear hP2 hown1 hB2 hE1 hlo hgx
  go_upto_region 2 with fail
  go_cut [8, 9] (fun v8 v9 wx => BS w wx gx u1 u2 a A c l ∧ ∃ (g8 : Nat) (E : Int), v8 = .pointer (some ⟨g8, 0, none⟩) ∧ v9 = .int .i64 E ∧
    (E ≠ 0 ∨ (E = 0 ∧ toF u1 u2 no a l = 0 ∧ ∃ A4 c4, Blk wx g8 30 #[.string u1, .string u2, .int .i64 no, .slice A4 l.length c4] ∧ Sl (Reads wx wx.heap.size 34 A4 l.length (revC l)))))
  case first =>
    go_wp2_with (refine ld_pk hS2.blk rfl (.tmp 7) rfl rfl rfl ?_)
    refine (to_any u1 u2 a no A l.length c l _ (by omega) (by omega) (by omega) (Reads.of_own hS2.own)).mono ?_
    rintro e w3 ⟨hB3, hp⟩
    have hS3 := hS2.be hB3
    clear hS2
    rcases hp with ⟨hE, rfl⟩ | ⟨hE, A4, c4, rfl, hown4⟩
    · obtain ⟨E, hEE⟩ : ∃ E, ((toF u1 u2 a no l : Nat) : Int) = E := ⟨_, rfl⟩
      have hne : E ≠ 0 := by rw [← hEE]; simpa using hE
      have HNE := Sl.mk hne
      rw [hEE]
      clear hE hEE hne
      go_wp2_with (refine st_pkn rfl (.tmp 8) (.tmp 26) rfl ⟨#[]⟩ ⟨#[]⟩ 0 none 0 0 rfl rfl ?_)
      intro w4 _ hB4 _
      have hS4 := hS3.be hB4
      clear hS3 hB4
      go_wp2_with fail
      go_meet
      exact ⟨hS4, w3.heap.size, E, rfl, rfl, .inl HNE.out⟩
    · have hbk := to_back hE
      clear hE
      go_wp2_with (refine st_pkn rfl (.tmp 8) (.tmp 26) rfl u1 u2 no A4 l.length c4 rfl rfl ?_)
      intro w4 hY4 hB4 _
      have hS4 := hS3.be hB4
      have hown4' := own_below hown4 hB4
      clear hS3 hown4 hB4 hB3
      go_wp2_with fail
      go_meet
      exact ⟨hS4, w3.heap.size, 0, rfl, rfl, .inr ⟨rfl, hbk, A4, c4, hY4, ⟨Reads.of_own hown4'⟩⟩⟩
  case rest =>
    clear hS2
    obtain ⟨hS2, g8, E, rfl, rfl, hor⟩ := hcut
    go_upto_if 29 with fail
    go_cut [11] (fun _ wx => BS w wx gx u1 u2 a A c l)
    case first =>
      rcases hor with hE | ⟨rfl, hbk, A4, c4, hY4, hown4⟩
      · have hne : (E == 0) = false := by simpa using hE
        clear hE
        go_wp2_with fail
        go_meet
        exact hS2
      · obtain ⟨c0, c1, c2, c3⟩ := hS2.blk.c4
        go_wp2_with (refine ld_pk hY4 rfl (.tmp 8) rfl rfl rfl ?_)
        refine (to_ok u1 u2 no a A4 l.length c4 l _ (by omega) (by omega) (by omega) hown4.out hbk).mono ?_
        rintro e w5 ⟨A5, c5, rfl, hown5, hB5⟩
        have hS5 := hS2.be hB5
        clear hS2 hown4 hB5 hY4 c0 c1 c2 c3
        go_wp2_with (refine st_pkn rfl (.tmp 10) (.tmp 35) rfl u1 u2 a A5 l.length c5 rfl rfl ?_)
        intro w6 hY6 hB6 _
        have hS6 := hS5.be hB6
        have hR6 := Sl.mk (Reads.of_own (own_below hown5 hB6))
        have hR7 := Sl.mk (Reads.of_own hS6.own)
        clear hS5 hown5 hB6
        obtain ⟨c0, c1, c2, c3⟩ := hS6.blk.c4
        obtain ⟨y0, y1, y2, y3⟩ := hY6.c4
        go_wp2_with fail
        refine (same_any u1 u2 a A5 A l.length c5 c l _ (by omega) hR6.out hR7.out).mono ?_
        rintro e w7 ⟨rfl, hB7⟩
        have hS7 := hS6.be hB7
        clear hS6 hY6 c0 c1 c2 c3 y0 y1 y2 y3 hR6 hR7
        go_wp2_with fail
        go_meet
        exact hS7
    case rest =>
      clear hS2 hor
      have hS2 := hcut
      clear hcut
      go_wp2_with fail
      have hm1' : m1 ≤ 10 ∧ m1 ≤ m0 := by omega
      go_cut [12, 13, 14] (fun v12 v13 v14 wx => ∃ (gq : Nat) (t1 t2 : ByteArray) (b : Int) (A2 : Option Addr) (L2 : List Rv) (c2 : Nat) (A1 : Option Addr) (G : List Rv) (c1 : Nat) (E : Int), v12 = .pointer (some ⟨gq, 0, none⟩) ∧ v13 = .slice A1 G.length c1 ∧ v14 = .int .i64 E ∧ BS w wx gx u1 u2 a A c l ∧
        Blk wx gq 30 #[.string t1, .string t2, .int .i64 b, .slice A2 L2.length c2] ∧ Rows2 wx w.heap.size (.slice A1 G.length c1) G (.slice A2 L2.length c2) L2 ∧ G.length ≤ 4 ∧ L2.length ≤ 4 ∧ DropIs u1 u2 a l ns t1 t2 b L2 G E)
      case first =>
        have hu30 := Try.underlying30
        have hi30 : (Try.prog.info? 30).map (·.size) = some [Value.string u1, .string u2, .int .i64 a, .slice A l.length c].length := infoPk
        have eg := enters_of Try.func22 (by kernel_rfl) rfl
        have hR9 := Sl.mk ((Reads.of_own hS2.own).drew)
        have hN9 := Sl.mk (((HN.out.below hS2.below).more hS2.below.size).drew)
        have hSd := hS2.blk.drew
        have hB9 : Below wc.heap.size wc (wc.drew.alloc (.cells #[.string { data := #[] }, .string { data := #[] }, .int .i64 0, .slice none 0 0] 30)) := below_al (Below.refl wc.heap.size wc).drew _
        have hmin : (if (10 : Int) < (m0 : Int) then (10 : Int) else (m0 : Int)) = (m1 : Int) := by split <;> omega
        have hz0 : (0 : Int) ≤ (m1 : Int) := by omega
        have hz1 : (m1 : Int) ≤ (d : Int) := by omega
        refine wp_region_noPanic ?_
        refine wp_region_held_drew (S := fun W => Blk W gx 30 #[.string u1, .string u2, .int .i64 a, .slice A l.length c]) (by kernel_rfl) hSd (fun hSd => ?_)
        refine wpAnyH_takeL (i := 0) (v := .agg #[.string u1, .string u2, .int .i64 a, .slice A l.length c]) rfl (by kernel_rfl) (by kernel_rfl) (by kernel_rfl) (fun _ _ _ h => h) (yieldsIf_load_mid (by rfl) 30 (.tmp 7) rfl gx 0 rfl [.string u1, .string u2, .int .i64 a, .slice A l.length c] _ (fun _ hw' => blk_range hw') hu30 rfl hi30) hSd ?_
        simp only [Act.put, List.setIfInBounds_toArray, List.set_cons_zero, List.set_cons_succ]
        refine wpAnyH_takeL (i := 1) (v := .slice B m0 d) rfl (by kernel_rfl) (by kernel_rfl) (by kernel_rfl) (fun _ _ _ h => h) (.inl ⟨by rfl, fun w' _ => by go_simp⟩) hSd ?_
        simp only [Act.put, List.setIfInBounds_toArray, List.set_cons_zero, List.set_cons_succ]
        refine wpAnyH_takeL (i := 2) (v := .slice B m0 d) rfl (by kernel_rfl) (by kernel_rfl) (by kernel_rfl) (fun _ _ _ h => h) (.inl ⟨by rfl, fun w' _ => by go_simp⟩) hSd ?_
        simp only [Act.put, List.setIfInBounds_toArray, List.set_cons_zero, List.set_cons_succ]
        refine wpAnyH_takeL (i := 3) (v := .int .i64 m0) rfl (by kernel_rfl) (by kernel_rfl) (by kernel_rfl) (fun _ _ _ h => h) (.inl ⟨by rfl, fun w' _ => by go_simp⟩) hSd ?_
        simp only [Act.put, List.setIfInBounds_toArray, List.set_cons_zero, List.set_cons_succ]
        refine wpAnyH_takeL (i := 4) (v := .int .i64 m1) rfl (by kernel_rfl) (by kernel_rfl) (by kernel_rfl) (fun _ _ _ h => h) (.inl ⟨by rfl, fun w' _ => by go_simp⟩) hSd ?_
        simp only [Act.put, List.setIfInBounds_toArray, List.set_cons_zero, List.set_cons_succ]
        refine wpAnyH_takeL (i := 5) (v := .slice B m1 d) rfl (by kernel_rfl) (by kernel_rfl) (by kernel_rfl) (fun _ _ _ h => h) (.inl ⟨by rfl, fun w' _ => by go_simp⟩) hSd ?_
        simp only [Act.put, List.setIfInBounds_toArray, List.set_cons_zero, List.set_cons_succ]
        refine wpAnyH_twoL (i := 6) (j := 11) rfl rfl (by kernel_rfl) rfl rfl ?_ ?_
        · refine wp_of_call (f := 22) (args := #[.agg #[.string u1, .string u2, .int .i64 a, .slice A l.length c], .slice B m1 d]) (by go_simp) (drop_any u1 u2 a A l.length c l B m1 d ns wc.drew (by omega) (by omega) (by omega) (by omega) hR9.out hN9.out) (fun e w3 hp => ?_)
          obtain ⟨t1, t2, b, A2, L2, c2, A1, G, c1, E, rfl, hB3, hrows, hG4, hL4, hfact⟩ := drop_form hp hl4
          have hS3 := (hS2.be (Below.refl wc.heap.size wc).drew).be hB3
          have hrows' : Rows2 w3 w.heap.size _ _ _ _ := ⟨own_mono hrows.own1 hS2.below.size, own_mono hrows.own2 hS2.below.size, hrows.ne⟩
          clear hp hrows hB3
          refine ⟨_, rfl, hS3.blk, ?_⟩
          simp only [Act.put, List.setIfInBounds_toArray, List.set_cons_zero, List.set_cons_succ]
          refine wpAnyH_takeL (i := 7) (v := .tuple #[.agg #[.string t1, .string t2, .int .i64 b, .slice A2 L2.length c2], .slice A1 G.length c1, .int .i64 E]) rfl (by kernel_rfl) (by kernel_rfl) (by kernel_rfl) (fun _ _ _ h => h) (.inl ⟨by rfl, fun w' _ => by go_simp⟩) hS3.blk ?_
          simp only [Act.put, List.setIfInBounds_toArray, List.set_cons_zero, List.set_cons_succ]
          refine wpAnyH_takeL (i := 8) (v := .agg #[.string t1, .string t2, .int .i64 b, .slice A2 L2.length c2]) rfl (by kernel_rfl) (by kernel_rfl) (by kernel_rfl) (fun _ _ _ h => h) (.inl ⟨by rfl, fun w' _ => by go_simp⟩) hS3.blk ?_
          simp only [Act.put, List.setIfInBounds_toArray, List.set_cons_zero, List.set_cons_succ]
          refine wpAnyH_takeL (i := 9) (v := .slice A1 G.length c1) rfl (by kernel_rfl) (by kernel_rfl) (by kernel_rfl) (fun _ _ _ h => h) (.inl ⟨by rfl, fun w' _ => by go_simp⟩) hS3.blk ?_
          simp only [Act.put, List.setIfInBounds_toArray, List.set_cons_zero, List.set_cons_succ]
          refine wpAnyH_takeL (i := 10) (v := .int .i64 E) rfl (by kernel_rfl) (by kernel_rfl) (by kernel_rfl) (fun _ _ _ h => h) (.inl ⟨by rfl, fun w' _ => by go_simp⟩) hS3.blk ?_
          simp only [Act.put, List.setIfInBounds_toArray, List.set_cons_zero, List.set_cons_succ]
          refine wpAnyH_oneL (k := 11) rfl (by kernel_rfl) rfl ?_
          refine wp_of_run (v := .pointer (some ⟨w3.heap.size, 0, none⟩)) (w' := w3.alloc (.cells #[.string { data := #[] }, .string { data := #[] }, .int .i64 0, .slice none 0 0] 30)) (by go_simp) ⟨hS3.blk.alloc _, ?_⟩
          simp only [Act.put, List.setIfInBounds_toArray, List.set_cons_zero, List.set_cons_succ]
          refine wpAnyH_oneL (k := 12) rfl (by kernel_rfl) rfl ?_
          refine wp_st (Blk.new w3 30 #[.string { data := #[] }, .string { data := #[] }, .int .i64 0, .slice none 0 0]) (.tmp 12) (.tmp 53) rfl t1 t2 b A2 L2.length c2 rfl rfl rfl (fun w4 hQ4 hG5 _ => ?_)
          have hB4 : Below w3.heap.size w3 w4 := below_only (below_al (Below.refl _ _) _) hG5 (by simp) (Nat.le_refl _)
          have hS4 := hS3.be hB4
          have hrows4 := hrows'.below hB4
          refine ⟨hS4.blk, ?_⟩
          simp only [Act.put]
          refine wpAnyH_oneL (k := 13) rfl (by kernel_rfl) rfl ?_
          refine wp_of_run (v := .slice A1 G.length c1) (w' := w4) (by go_simp) ⟨hS4.blk, ?_⟩
          simp only [Act.put, List.setIfInBounds_toArray, List.set_cons_zero, List.set_cons_succ]
          refine wpAnyH_oneL (k := 14) rfl (by kernel_rfl) rfl ?_
          refine wp_of_run (v := .int .i64 E) (w' := w4) (by go_simp) ⟨hS4.blk, ?_⟩
          simp only [Act.put, List.setIfInBounds_toArray, List.set_cons_zero, List.set_cons_succ]
          refine wpAnyH_done (by kernel_rfl) ?_ _
          refine NoPanic.normal ?_
          (try go_wp2_with fail)
          go_meet
          exact ⟨w3.heap.size, t1, t2, b, A2, L2, c2, A1, G, c1, E, rfl, rfl, rfl, hS4, hQ4, hrows4, hG4, hL4, hfact⟩
        · refine wp_of_run (v := .pointer (some ⟨wc.heap.size, 0, none⟩)) (w' := wc.drew.alloc (.cells #[.string { data := #[] }, .string { data := #[] }, .int .i64 0, .slice none 0 0] 30)) (by go_simp) ⟨hSd.alloc _, ?_⟩
          simp only [Act.put, List.setIfInBounds_toArray, List.set_cons_zero, List.set_cons_succ]
          refine wpAnyH_oneL (k := 6) rfl (by kernel_rfl) rfl ?_
          refine wp_of_call (f := 22) (args := #[.agg #[.string u1, .string u2, .int .i64 a, .slice A l.length c], .slice B m1 d]) (by go_simp) (drop_any u1 u2 a A l.length c l B m1 d ns (wc.drew.alloc (.cells #[.string { data := #[] }, .string { data := #[] }, .int .i64 0, .slice none 0 0] 30)) (by omega) (by omega) (by omega) (by omega) (Reads.of_own (own_below hS2.own hB9)) ((HN.out.below (below_tr hS2.below hB9)).more (below_tr hS2.below hB9).size)) (fun e w3 hp => ?_)
          obtain ⟨t1, t2, b, A2, L2, c2, A1, G, c1, E, rfl, hB3, hrows, hG4, hL4, hfact⟩ := drop_form hp hl4
          have hS3 := (hS2.be hB9).be hB3
          have hZ3 := (Blk.new wc.drew 30 #[.string { data := #[] }, .string { data := #[] }, .int .i64 0, .slice none 0 0]).be hB3
          have hrows' : Rows2 w3 (wc.heap.size + 1) _ _ _ _ := ⟨own_mono hrows.own1 (by show _ ≤ (wc.alloc (.cells #[.string { data := #[] }, .string { data := #[] }, .int .i64 0, .slice none 0 0] 30)).heap.size; simp), own_mono hrows.own2 (by show _ ≤ (wc.alloc (.cells #[.string { data := #[] }, .string { data := #[] }, .int .i64 0, .slice none 0 0] 30)).heap.size; simp), hrows.ne⟩
          clear hp hrows hB3
          refine ⟨_, rfl, hS3.blk, ?_⟩
          simp only [Act.put, List.setIfInBounds_toArray, List.set_cons_zero, List.set_cons_succ]
          refine wpAnyH_takeL (i := 7) (v := .tuple #[.agg #[.string t1, .string t2, .int .i64 b, .slice A2 L2.length c2], .slice A1 G.length c1, .int .i64 E]) rfl (by kernel_rfl) (by kernel_rfl) (by kernel_rfl) (fun _ _ _ h => h) (.inl ⟨by rfl, fun w' _ => by go_simp⟩) hS3.blk ?_
          simp only [Act.put, List.setIfInBounds_toArray, List.set_cons_zero, List.set_cons_succ]
          refine wpAnyH_takeL (i := 8) (v := .agg #[.string t1, .string t2, .int .i64 b, .slice A2 L2.length c2]) rfl (by kernel_rfl) (by kernel_rfl) (by kernel_rfl) (fun _ _ _ h => h) (.inl ⟨by rfl, fun w' _ => by go_simp⟩) hS3.blk ?_
          simp only [Act.put, List.setIfInBounds_toArray, List.set_cons_zero, List.set_cons_succ]
          refine wpAnyH_takeL (i := 9) (v := .slice A1 G.length c1) rfl (by kernel_rfl) (by kernel_rfl) (by kernel_rfl) (fun _ _ _ h => h) (.inl ⟨by rfl, fun w' _ => by go_simp⟩) hS3.blk ?_
          simp only [Act.put, List.setIfInBounds_toArray, List.set_cons_zero, List.set_cons_succ]
          refine wpAnyH_takeL (i := 10) (v := .int .i64 E) rfl (by kernel_rfl) (by kernel_rfl) (by kernel_rfl) (fun _ _ _ h => h) (.inl ⟨by rfl, fun w' _ => by go_simp⟩) hS3.blk ?_
          simp only [Act.put, List.setIfInBounds_toArray, List.set_cons_zero, List.set_cons_succ]
          refine wpAnyH_oneL (k := 12) rfl (by kernel_rfl) rfl ?_
          refine wp_st (g := wc.heap.size) hZ3 (.tmp 12) (.tmp 53) rfl t1 t2 b A2 L2.length c2 rfl rfl rfl (fun w4 hQ4 hG5 _ => ?_)
          have hgl := hS2.blk.lt
          have hS4 : BS w w4 gx u1 u2 a A c l := ⟨blk_only hS3.blk hG5 (by omega), own_keep hS3.own hG5 (fun x hx e => by injection hx with hx; have := own_lt hS2.own e; omega), hS3.lo, below_only hS3.below hG5 hS3.below.size hS2.below.size⟩
          have hr4 := hrows'.far hG5 (by omega)
          have hrows4 : Rows2 w4 w.heap.size _ _ _ _ := ⟨own_mono hr4.own1 (by have := hS2.below.size; omega), own_mono hr4.own2 (by have := hS2.below.size; omega), hr4.ne⟩
          refine ⟨hS4.blk, ?_⟩
          simp only [Act.put]
          refine wpAnyH_oneL (k := 13) rfl (by kernel_rfl) rfl ?_
          refine wp_of_run (v := .slice A1 G.length c1) (w' := w4) (by go_simp) ⟨hS4.blk, ?_⟩
          simp only [Act.put, List.setIfInBounds_toArray, List.set_cons_zero, List.set_cons_succ]
          refine wpAnyH_oneL (k := 14) rfl (by kernel_rfl) rfl ?_
          refine wp_of_run (v := .int .i64 E) (w' := w4) (by go_simp) ⟨hS4.blk, ?_⟩
          simp only [Act.put, List.setIfInBounds_toArray, List.set_cons_zero, List.set_cons_succ]
          refine wpAnyH_done (by kernel_rfl) ?_ _
          refine NoPanic.normal ?_
          (try go_wp2_with fail)
          go_meet
          exact ⟨wc.heap.size, t1, t2, b, A2, L2, c2, A1, G, c1, E, rfl, rfl, rfl, hS4, hQ4, hrows4, hG4, hL4, hfact⟩
      case rest =>
        obtain ⟨gq, t1, t2, b, A2, L2, c2, A1, G, c1, E, rfl, rfl, rfl, hS, hQ, hrows, hG4, hL4, hfact⟩ := hcut
        clear hS2
        go_wp2_with fail
        go_loopw [15] (fun s15 wr => ∃ i : Nat, i ≤ G.length ∧ s15 = .int .i64 i ∧ LS w wr gx u1 u2 a A c l gq t1 t2 b A2 L2 c2 A1 G c1) (fun s15 _ => G.length - (intOf s15).toNat)
        case atStart => exact ⟨0, Nat.zero_le _, rfl, hS, hQ, hrows⟩
        case round =>
          obtain ⟨i, hi, rfl, hK⟩ := hrel
          clear hS hQ hrows
          by_cases hil : i < G.length
          · obtain ⟨r, hr⟩ : ∃ r, G[i]? = some r := ⟨_, List.getElem?_eq_getElem hil⟩
            rcases hfact with ⟨_, rfl⟩ | ⟨rfl, e1, e2, e3, hG, hL2, hE0⟩
            · simp at hil
            have e1' := e1.symm
            have e2' := e2.symm
            have e3' := e3.symm
            clear e1 e2 e3
            subst e1' e2' e3'
            obtain ⟨hto, hix⟩ := gone_no hE0 (r := r) (by rw [← hG]; exact List.mem_of_getElem? hr)
            rw [← hL2] at hto hix
            obtain ⟨g, cc, hv, _, hglt, hcell⟩ := ownCells hK.rows.own1 (by omega)
            injection hv with hA _ hcc
            subst hA hcc
            have hc0 : wr.cell? ⟨g, i * 34, none⟩ = some (.int .i64 r.no) := hcell (i * 34) _ (revC_at G i r hr 0 _ (rvC_0 r))
            have HTO := Sl.mk hto
            have HIX := Sl.mk hix
            have e1 : decide ((i : Int) < G.length) = true := by simp; omega
            have hi0 : (0 : Int) ≤ (i : Int) := by omega
            have hi1 : (i : Int) < (G.length : Int) := by omega
            have hLSz : L2.length ≤ 1000000 := by omega
            have hu30 := Try.underlying30
            have hi30 : (Try.prog.info? 30).map (·.size) = some [Value.string u1, .string u2, .int .i64 a, .slice A2 L2.length c2].length := infoPk
            have eg1 := enters_of Try.func25 (by kernel_rfl) rfl
            have eg2 := enters_of Try.func21 (by kernel_rfl) rfl
            clear hr hcell hto hix hG hL2 hE0 hil
            go_wp2_with fail
            go_cut [17] (fun v wx => v = .int .i64 7 ∧ LS w wx gx u1 u2 a A c l gq u1 u2 a A2 L2 c2 (some ⟨g, 0, none⟩) G c1 ∧ wx.cell? ⟨g, i * 34, none⟩ = some (.int .i64 r.no))
            case first =>
              have hK9 := hK.be (Below.refl wr.heap.size wr).drew
              have hB9 : Below wr.heap.size wr (wr.drew.alloc (.cells #[.string { data := #[] }, .string { data := #[] }, .int .i64 0, .slice none 0 0] 30)) := below_al (Below.refl wr.heap.size wr).drew _
              have hKa := hK.be hB9
              have hcd : wr.drew.cell? ⟨g, i * 34, none⟩ = some (.int .i64 r.no) := hc0
              have hca : (wr.drew.alloc (.cells #[.string { data := #[] }, .string { data := #[] }, .int .i64 0, .slice none 0 0] 30)).cell? ⟨g, i * 34, none⟩ = some (.int .i64 r.no) := cell_later hB9 hc0
              have hsz := hK.bs.below.size
              refine wp_region_noPanic ?_
              refine wp_region_held_drew (S := fun W => Blk W gq 30 #[.string u1, .string u2, .int .i64 a, .slice A2 L2.length c2] ∧ W.cell? ⟨g, i * 34, none⟩ = some (.int .i64 r.no)) (by kernel_rfl) ⟨hK9.blk, hcd⟩ (fun hSd => ?_)
              refine wpAnyH_takeL (i := 0) (v := .agg #[.string u1, .string u2, .int .i64 a, .slice A2 L2.length c2]) rfl (by kernel_rfl) (by kernel_rfl) (by kernel_rfl) (fun _ _ _ h => h) (yieldsIf_load_mid (by rfl) 30 (.tmp 12) rfl gq 0 rfl [.string u1, .string u2, .int .i64 a, .slice A2 L2.length c2] _ (fun _ hw' => blk_range hw'.1) hu30 rfl hi30) hSd ?_
              simp only [Act.put, List.setIfInBounds_toArray, List.set_cons_zero, List.set_cons_succ]
              refine wpAnyH_takeL (i := 1) (v := .slice (some ⟨g, 0, none⟩) G.length c1) rfl (by kernel_rfl) (by kernel_rfl) (by kernel_rfl) (fun _ _ _ h => h) (.inl ⟨by rfl, fun w' _ => by go_simp⟩) hSd ?_
              simp only [Act.put, List.setIfInBounds_toArray, List.set_cons_zero, List.set_cons_succ]
              refine wpAnyH_takeL (i := 2) (v := .int .i64 i) rfl (by kernel_rfl) (by kernel_rfl) (by kernel_rfl) (fun _ _ _ h => h) (.inl ⟨by rfl, fun w' _ => by go_simp⟩) hSd ?_
              simp only [Act.put, List.setIfInBounds_toArray, List.set_cons_zero, List.set_cons_succ]
              refine wpAnyH_takeL (i := 3) (v := .pointer (some ⟨g, i * 34, none⟩)) rfl (by kernel_rfl) (by kernel_rfl) (by kernel_rfl) (fun _ _ _ h => h) (.inl ⟨by rfl, fun w' _ => by go_simp⟩) hSd ?_
              simp only [Act.put, List.setIfInBounds_toArray, List.set_cons_zero, List.set_cons_succ]
              refine wpAnyH_takeL (i := 4) (v := .pointer (some ⟨g, i * 34, none⟩)) rfl (by kernel_rfl) (by kernel_rfl) (by kernel_rfl) (fun _ _ _ h => h) (.inl ⟨by rfl, fun w' _ => by go_simp⟩) hSd ?_
              simp only [Act.put, List.setIfInBounds_toArray, List.set_cons_zero, List.set_cons_succ]
              refine wpAnyH_takeL (i := 5) (v := .int .i64 r.no) rfl (by kernel_rfl) (by kernel_rfl) (by kernel_rfl) (fun _ _ _ h => h) (.inl ⟨by rfl, fun w' hw' => by have q1 := hw'.2; clear hw'; go_simp⟩) hSd ?_
              simp only [Act.put, List.setIfInBounds_toArray, List.set_cons_zero, List.set_cons_succ]
              refine wpAnyH_twoL (i := 6) (j := 10) rfl rfl (by kernel_rfl) rfl rfl ?_ ?_
              · refine wp_of_call (f := 25) (args := #[.agg #[.string u1, .string u2, .int .i64 a, .slice A2 L2.length c2], .int .i64 r.no]) (by go_simp) (to_any u1 u2 a r.no A2 L2.length c2 L2 wr.drew (by omega) (by omega) hLSz (Reads.of_own hK9.rows.own2)) (fun e w3 hp => ?_)
                obtain ⟨rfl, hB3⟩ := to_seven hp HTO.out
                have hK3 := hK9.be hB3
                have hc3 := cell_later hB3 hcd
                clear hp
                refine ⟨_, rfl, ⟨hK3.blk, hc3⟩, ?_⟩
                simp only [Act.put, List.setIfInBounds_toArray, List.set_cons_zero, List.set_cons_succ]
                refine wpAnyH_takeL (i := 7) (v := .tuple #[.agg #[.string { data := #[] }, .string { data := #[] }, .int .i64 0, .slice none 0 0], .int .i64 7]) rfl (by kernel_rfl) (by kernel_rfl) (by kernel_rfl) (fun _ _ _ h => h) (.inl ⟨by rfl, fun w' _ => by go_simp⟩) ⟨hK3.blk, hc3⟩ ?_
                simp only [Act.put, List.setIfInBounds_toArray, List.set_cons_zero, List.set_cons_succ]
                refine wpAnyH_takeL (i := 8) (v := .agg #[.string { data := #[] }, .string { data := #[] }, .int .i64 0, .slice none 0 0]) rfl (by kernel_rfl) (by kernel_rfl) (by kernel_rfl) (fun _ _ _ h => h) (.inl ⟨by rfl, fun w' _ => by go_simp⟩) ⟨hK3.blk, hc3⟩ ?_
                simp only [Act.put, List.setIfInBounds_toArray, List.set_cons_zero, List.set_cons_succ]
                refine wpAnyH_takeL (i := 9) (v := .int .i64 7) rfl (by kernel_rfl) (by kernel_rfl) (by kernel_rfl) (fun _ _ _ h => h) (.inl ⟨by rfl, fun w' _ => by go_simp⟩) ⟨hK3.blk, hc3⟩ ?_
                simp only [Act.put, List.setIfInBounds_toArray, List.set_cons_zero, List.set_cons_succ]
                refine wpAnyH_oneL (k := 10) rfl (by kernel_rfl) rfl ?_
                refine wp_of_run (v := .pointer (some ⟨w3.heap.size, 0, none⟩)) (w' := w3.alloc (.cells #[.string { data := #[] }, .string { data := #[] }, .int .i64 0, .slice none 0 0] 30)) (by go_simp) ⟨⟨hK3.blk.alloc _, cell_later (below_al (Below.refl _ _) _) hc3⟩, ?_⟩
                simp only [Act.put, List.setIfInBounds_toArray, List.set_cons_zero, List.set_cons_succ]
                refine wpAnyH_oneL (k := 11) rfl (by kernel_rfl) rfl ?_
                refine wp_st (g := w3.heap.size) (Blk.new w3 30 #[.string { data := #[] }, .string { data := #[] }, .int .i64 0, .slice none 0 0]) (.tmp 16) (.tmp 70) rfl ⟨#[]⟩ ⟨#[]⟩ 0 none 0 0 rfl rfl rfl (fun w4 _ hG5 _ => ?_)
                have hK4 := hK3.far (hK3.be (below_al (Below.refl _ _) _)) (Nat.le_refl _) hG5
                have hc4 := (World.cell?_of_block (hG5.block g (by have := cellLt hc3; simp; exact Nat.lt_succ_of_lt this) (fun e => by injection e with e; have := cellLt hc3; simp at this; omega)) : w4.cell? ⟨g, i * 34, none⟩ = _).trans (cell_later (below_al (Below.refl w3.heap.size w3) _) hc3)
                refine ⟨⟨hK4.blk, hc4⟩, ?_⟩
                simp only [Act.put]
                refine wpAnyH_oneL (k := 12) rfl (by kernel_rfl) rfl ?_
                refine wp_of_run (v := .int .i64 7) (w' := w4) (by go_simp) ⟨⟨hK4.blk, hc4⟩, ?_⟩
                simp only [Act.put, List.setIfInBounds_toArray, List.set_cons_zero, List.set_cons_succ]
                refine wpAnyH_done (by kernel_rfl) ?_ _
                refine NoPanic.normal ?_
                (try go_wp2_with fail)
                go_meet
                exact ⟨rfl, hK4, hc4⟩
              · refine wp_of_run (v := .pointer (some ⟨wr.heap.size, 0, none⟩)) (w' := wr.drew.alloc (.cells #[.string { data := #[] }, .string { data := #[] }, .int .i64 0, .slice none 0 0] 30)) (by go_simp) ⟨⟨hKa.blk, hca⟩, ?_⟩
                simp only [Act.put, List.setIfInBounds_toArray, List.set_cons_zero, List.set_cons_succ]
                refine wpAnyH_oneL (k := 6) rfl (by kernel_rfl) rfl ?_
                refine wp_of_call (f := 25) (args := #[.agg #[.string u1, .string u2, .int .i64 a, .slice A2 L2.length c2], .int .i64 r.no]) (by go_simp) (to_any u1 u2 a r.no A2 L2.length c2 L2 (wr.drew.alloc (.cells #[.string { data := #[] }, .string { data := #[] }, .int .i64 0, .slice none 0 0] 30)) (by omega) (by omega) hLSz (Reads.of_own hKa.rows.own2)) (fun e w3 hp => ?_)
                obtain ⟨rfl, hB3⟩ := to_seven hp HTO.out
                have hK3 := hKa.be hB3
                have hc3 := cell_later hB3 hca
                have hZ3 := (Blk.new wr.drew 30 #[.string { data := #[] }, .string { data := #[] }, .int .i64 0, .slice none 0 0]).be hB3
                clear hp
                refine ⟨_, rfl, ⟨hK3.blk, hc3⟩, ?_⟩
                simp only [Act.put, List.setIfInBounds_toArray, List.set_cons_zero, List.set_cons_succ]
                refine wpAnyH_takeL (i := 7) (v := .tuple #[.agg #[.string { data := #[] }, .string { data := #[] }, .int .i64 0, .slice none 0 0], .int .i64 7]) rfl (by kernel_rfl) (by kernel_rfl) (by kernel_rfl) (fun _ _ _ h => h) (.inl ⟨by rfl, fun w' _ => by go_simp⟩) ⟨hK3.blk, hc3⟩ ?_
                simp only [Act.put, List.setIfInBounds_toArray, List.set_cons_zero, List.set_cons_succ]
                refine wpAnyH_takeL (i := 8) (v := .agg #[.string { data := #[] }, .string { data := #[] }, .int .i64 0, .slice none 0 0]) rfl (by kernel_rfl) (by kernel_rfl) (by kernel_rfl) (fun _ _ _ h => h) (.inl ⟨by rfl, fun w' _ => by go_simp⟩) ⟨hK3.blk, hc3⟩ ?_
                simp only [Act.put, List.setIfInBounds_toArray, List.set_cons_zero, List.set_cons_succ]
                refine wpAnyH_takeL (i := 9) (v := .int .i64 7) rfl (by kernel_rfl) (by kernel_rfl) (by kernel_rfl) (fun _ _ _ h => h) (.inl ⟨by rfl, fun w' _ => by go_simp⟩) ⟨hK3.blk, hc3⟩ ?_
                simp only [Act.put, List.setIfInBounds_toArray, List.set_cons_zero, List.set_cons_succ]
                refine wpAnyH_oneL (k := 11) rfl (by kernel_rfl) rfl ?_
                refine wp_st (g := wr.heap.size) hZ3 (.tmp 16) (.tmp 70) rfl ⟨#[]⟩ ⟨#[]⟩ 0 none 0 0 rfl rfl rfl (fun w4 _ hG5 _ => ?_)
                have hK4 := hK.far hK3 (Nat.le_refl _) hG5
                have hc4 := (World.cell?_of_block (hG5.block g (cellLt hc3) (fun e => by injection e with e; have := cellLt hc0; simp at this; omega)) : w4.cell? ⟨g, i * 34, none⟩ = _).trans hc3
                refine ⟨⟨hK4.blk, hc4⟩, ?_⟩
                simp only [Act.put]
                refine wpAnyH_oneL (k := 12) rfl (by kernel_rfl) rfl ?_
                refine wp_of_run (v := .int .i64 7) (w' := w4) (by go_simp) ⟨⟨hK4.blk, hc4⟩, ?_⟩
                simp only [Act.put, List.setIfInBounds_toArray, List.set_cons_zero, List.set_cons_succ]
                refine wpAnyH_done (by kernel_rfl) ?_ _
                refine NoPanic.normal ?_
                (try go_wp2_with fail)
                go_meet
                exact ⟨rfl, hK4, hc4⟩
            case rest =>
              obtain ⟨rfl, hK2, hc2⟩ := hcut
              clear hc0 hK
              have hc0 := hc2
              go_wp2_with fail
              go_cut [19] (fun v wx => v = .int .i64 7 ∧ LS w wx gx u1 u2 a A c l gq u1 u2 a A2 L2 c2 (some ⟨g, 0, none⟩) G c1 ∧ wx.cell? ⟨g, i * 34, none⟩ = some (.int .i64 r.no))
              case first =>
                have hK9 := hK2.be (Below.refl wc.heap.size wc).drew
                have hB9 : Below wc.heap.size wc (wc.drew.alloc (.cells #[.int .i64 0, .int .u8 0, .int .u8 0, .int .u8 0, .int .u8 0, .int .u8 0, .int .u8 0, .int .u8 0, .int .u8 0, .int .u8 0, .int .u8 0, .int .u8 0, .int .u8 0, .int .u8 0, .int .u8 0, .int .u8 0, .int .u8 0, .int .u8 0, .int .u8 0, .int .u8 0, .int .u8 0, .int .u8 0, .int .u8 0, .int .u8 0, .int .u8 0, .int .u8 0, .int .u8 0, .int .u8 0, .int .u8 0, .int .u8 0, .int .u8 0, .int .u8 0, .int .u8 0, .int .i64 0] 36)) := below_al (Below.refl wc.heap.size wc).drew _
                have hKa := hK2.be hB9
                have hcd : wc.drew.cell? ⟨g, i * 34, none⟩ = some (.int .i64 r.no) := hc0
                have hca : (wc.drew.alloc (.cells #[.int .i64 0, .int .u8 0, .int .u8 0, .int .u8 0, .int .u8 0, .int .u8 0, .int .u8 0, .int .u8 0, .int .u8 0, .int .u8 0, .int .u8 0, .int .u8 0, .int .u8 0, .int .u8 0, .int .u8 0, .int .u8 0, .int .u8 0, .int .u8 0, .int .u8 0, .int .u8 0, .int .u8 0, .int .u8 0, .int .u8 0, .int .u8 0, .int .u8 0, .int .u8 0, .int .u8 0, .int .u8 0, .int .u8 0, .int .u8 0, .int .u8 0, .int .u8 0, .int .u8 0, .int .i64 0] 36)).cell? ⟨g, i * 34, none⟩ = some (.int .i64 r.no) := cell_later hB9 hc0
                have hsz := hK2.bs.below.size
                refine wp_region_noPanic ?_
                refine wp_region_held_drew (S := fun W => Blk W gq 30 #[.string u1, .string u2, .int .i64 a, .slice A2 L2.length c2] ∧ W.cell? ⟨g, i * 34, none⟩ = some (.int .i64 r.no)) (by kernel_rfl) ⟨hK9.blk, hcd⟩ (fun hSd => ?_)
                refine wpAnyH_takeL (i := 0) (v := .agg #[.string u1, .string u2, .int .i64 a, .slice A2 L2.length c2]) rfl (by kernel_rfl) (by kernel_rfl) (by kernel_rfl) (fun _ _ _ h => h) (yieldsIf_load_mid (by rfl) 30 (.tmp 12) rfl gq 0 rfl [.string u1, .string u2, .int .i64 a, .slice A2 L2.length c2] _ (fun _ hw' => blk_range hw'.1) hu30 rfl hi30) hSd ?_
                simp only [Act.put, List.setIfInBounds_toArray, List.set_cons_zero, List.set_cons_succ]
                refine wpAnyH_takeL (i := 1) (v := .slice (some ⟨g, 0, none⟩) G.length c1) rfl (by kernel_rfl) (by kernel_rfl) (by kernel_rfl) (fun _ _ _ h => h) (.inl ⟨by rfl, fun w' _ => by go_simp⟩) hSd ?_
                simp only [Act.put, List.setIfInBounds_toArray, List.set_cons_zero, List.set_cons_succ]
                refine wpAnyH_takeL (i := 2) (v := .int .i64 i) rfl (by kernel_rfl) (by kernel_rfl) (by kernel_rfl) (fun _ _ _ h => h) (.inl ⟨by rfl, fun w' _ => by go_simp⟩) hSd ?_
                simp only [Act.put, List.setIfInBounds_toArray, List.set_cons_zero, List.set_cons_succ]
                refine wpAnyH_takeL (i := 3) (v := .pointer (some ⟨g, i * 34, none⟩)) rfl (by kernel_rfl) (by kernel_rfl) (by kernel_rfl) (fun _ _ _ h => h) (.inl ⟨by rfl, fun w' _ => by go_simp⟩) hSd ?_
                simp only [Act.put, List.setIfInBounds_toArray, List.set_cons_zero, List.set_cons_succ]
                refine wpAnyH_takeL (i := 4) (v := .pointer (some ⟨g, i * 34, none⟩)) rfl (by kernel_rfl) (by kernel_rfl) (by kernel_rfl) (fun _ _ _ h => h) (.inl ⟨by rfl, fun w' _ => by go_simp⟩) hSd ?_
                simp only [Act.put, List.setIfInBounds_toArray, List.set_cons_zero, List.set_cons_succ]
                refine wpAnyH_takeL (i := 5) (v := .int .i64 r.no) rfl (by kernel_rfl) (by kernel_rfl) (by kernel_rfl) (fun _ _ _ h => h) (.inl ⟨by rfl, fun w' hw' => by have q1 := hw'.2; clear hw'; go_simp⟩) hSd ?_
                simp only [Act.put, List.setIfInBounds_toArray, List.set_cons_zero, List.set_cons_succ]
                refine wpAnyH_twoL (i := 6) (j := 10) rfl rfl (by kernel_rfl) rfl rfl ?_ ?_
                · refine wp_of_call (f := 21) (args := #[.agg #[.string u1, .string u2, .int .i64 a, .slice A2 L2.length c2], .int .i64 r.no]) (by go_simp) (find_any u1 u2 a r.no A2 L2.length c2 L2 wc.drew hLSz (Reads.of_own hK9.rows.own2)) (fun e w3 hp => ?_)
                  obtain ⟨rfl, hB3⟩ := find_none hp HIX.out
                  have hK3 := hK9.be hB3
                  have hc3 := cell_later hB3 hcd
                  clear hp
                  refine ⟨_, rfl, ⟨hK3.blk, hc3⟩, ?_⟩
                  simp only [Act.put, List.setIfInBounds_toArray, List.set_cons_zero, List.set_cons_succ]
                  refine wpAnyH_takeL (i := 7) (v := .tuple #[.agg (rvC rv0).toArray, .int .i64 7]) rfl (by kernel_rfl) (by kernel_rfl) (by kernel_rfl) (fun _ _ _ h => h) (.inl ⟨by rfl, fun w' _ => by go_simp⟩) ⟨hK3.blk, hc3⟩ ?_
                  simp only [Act.put, List.setIfInBounds_toArray, List.set_cons_zero, List.set_cons_succ]
                  refine wpAnyH_takeL (i := 8) (v := .agg (rvC rv0).toArray) rfl (by kernel_rfl) (by kernel_rfl) (by kernel_rfl) (fun _ _ _ h => h) (.inl ⟨by rfl, fun w' _ => by go_simp⟩) ⟨hK3.blk, hc3⟩ ?_
                  simp only [Act.put, List.setIfInBounds_toArray, List.set_cons_zero, List.set_cons_succ]
                  refine wpAnyH_takeL (i := 9) (v := .int .i64 7) rfl (by kernel_rfl) (by kernel_rfl) (by kernel_rfl) (fun _ _ _ h => h) (.inl ⟨by rfl, fun w' _ => by go_simp⟩) ⟨hK3.blk, hc3⟩ ?_
                  simp only [Act.put, List.setIfInBounds_toArray, List.set_cons_zero, List.set_cons_succ]
                  refine wpAnyH_oneL (k := 10) rfl (by kernel_rfl) rfl ?_
                  refine wp_of_run (v := .pointer (some ⟨w3.heap.size, 0, none⟩)) (w' := w3.alloc (.cells #[.int .i64 0, .int .u8 0, .int .u8 0, .int .u8 0, .int .u8 0, .int .u8 0, .int .u8 0, .int .u8 0, .int .u8 0, .int .u8 0, .int .u8 0, .int .u8 0, .int .u8 0, .int .u8 0, .int .u8 0, .int .u8 0, .int .u8 0, .int .u8 0, .int .u8 0, .int .u8 0, .int .u8 0, .int .u8 0, .int .u8 0, .int .u8 0, .int .u8 0, .int .u8 0, .int .u8 0, .int .u8 0, .int .u8 0, .int .u8 0, .int .u8 0, .int .u8 0, .int .u8 0, .int .i64 0] 36)) (by go_simp) ⟨⟨hK3.blk.alloc _, cell_later (below_al (Below.refl _ _) _) hc3⟩, ?_⟩
                  simp only [Act.put, List.setIfInBounds_toArray, List.set_cons_zero, List.set_cons_succ]
                  refine wpAnyH_oneL (k := 11) rfl (by kernel_rfl) rfl ?_
                  refine wp_strv (g := w3.heap.size) (r0 := rv0) (Blk.new w3 36 (rvC rv0).toArray) (.tmp 18) (.tmp 80) rfl rv0 rfl rfl (fun w4 _ hG5 _ => ?_)
                  have hK4 := hK3.far (hK3.be (below_al (Below.refl _ _) _)) (Nat.le_refl _) hG5
                  have hc4 := (World.cell?_of_block (hG5.block g (by have := cellLt hc3; simp; exact Nat.lt_succ_of_lt this) (fun e => by injection e with e; have := cellLt hc3; simp at this; omega)) : w4.cell? ⟨g, i * 34, none⟩ = _).trans (cell_later (below_al (Below.refl w3.heap.size w3) _) hc3)
                  refine ⟨⟨hK4.blk, hc4⟩, ?_⟩
                  simp only [Act.put]
                  refine wpAnyH_oneL (k := 12) rfl (by kernel_rfl) rfl ?_
                  refine wp_of_run (v := .int .i64 7) (w' := w4) (by go_simp) ⟨⟨hK4.blk, hc4⟩, ?_⟩
                  simp only [Act.put, List.setIfInBounds_toArray, List.set_cons_zero, List.set_cons_succ]
                  refine wpAnyH_done (by kernel_rfl) ?_ _
                  refine NoPanic.normal ?_
                  (try go_wp2_with fail)
                  go_meet
                  exact ⟨rfl, hK4, hc4⟩
                · refine wp_of_run (v := .pointer (some ⟨wc.heap.size, 0, none⟩)) (w' := wc.drew.alloc (.cells #[.int .i64 0, .int .u8 0, .int .u8 0, .int .u8 0, .int .u8 0, .int .u8 0, .int .u8 0, .int .u8 0, .int .u8 0, .int .u8 0, .int .u8 0, .int .u8 0, .int .u8 0, .int .u8 0, .int .u8 0, .int .u8 0, .int .u8 0, .int .u8 0, .int .u8 0, .int .u8 0, .int .u8 0, .int .u8 0, .int .u8 0, .int .u8 0, .int .u8 0, .int .u8 0, .int .u8 0, .int .u8 0, .int .u8 0, .int .u8 0, .int .u8 0, .int .u8 0, .int .u8 0, .int .i64 0] 36)) (by go_simp) ⟨⟨hKa.blk, hca⟩, ?_⟩
                  simp only [Act.put, List.setIfInBounds_toArray, List.set_cons_zero, List.set_cons_succ]
                  refine wpAnyH_oneL (k := 6) rfl (by kernel_rfl) rfl ?_
                  refine wp_of_call (f := 21) (args := #[.agg #[.string u1, .string u2, .int .i64 a, .slice A2 L2.length c2], .int .i64 r.no]) (by go_simp) (find_any u1 u2 a r.no A2 L2.length c2 L2 (wc.drew.alloc (.cells #[.int .i64 0, .int .u8 0, .int .u8 0, .int .u8 0, .int .u8 0, .int .u8 0, .int .u8 0, .int .u8 0, .int .u8 0, .int .u8 0, .int .u8 0, .int .u8 0, .int .u8 0, .int .u8 0, .int .u8 0, .int .u8 0, .int .u8 0, .int .u8 0, .int .u8 0, .int .u8 0, .int .u8 0, .int .u8 0, .int .u8 0, .int .u8 0, .int .u8 0, .int .u8 0, .int .u8 0, .int .u8 0, .int .u8 0, .int .u8 0, .int .u8 0, .int .u8 0, .int .u8 0, .int .i64 0] 36)) hLSz (Reads.of_own hKa.rows.own2)) (fun e w3 hp => ?_)
                  obtain ⟨rfl, hB3⟩ := find_none hp HIX.out
                  have hK3 := hKa.be hB3
                  have hc3 := cell_later hB3 hca
                  have hZ3 : Blk w3 wc.heap.size 36 (rvC rv0).toArray := (Blk.new wc.drew 36 #[.int .i64 0, .int .u8 0, .int .u8 0, .int .u8 0, .int .u8 0, .int .u8 0, .int .u8 0, .int .u8 0, .int .u8 0, .int .u8 0, .int .u8 0, .int .u8 0, .int .u8 0, .int .u8 0, .int .u8 0, .int .u8 0, .int .u8 0, .int .u8 0, .int .u8 0, .int .u8 0, .int .u8 0, .int .u8 0, .int .u8 0, .int .u8 0, .int .u8 0, .int .u8 0, .int .u8 0, .int .u8 0, .int .u8 0, .int .u8 0, .int .u8 0, .int .u8 0, .int .u8 0, .int .i64 0]).be hB3
                  clear hp
                  refine ⟨_, rfl, ⟨hK3.blk, hc3⟩, ?_⟩
                  simp only [Act.put, List.setIfInBounds_toArray, List.set_cons_zero, List.set_cons_succ]
                  refine wpAnyH_takeL (i := 7) (v := .tuple #[.agg (rvC rv0).toArray, .int .i64 7]) rfl (by kernel_rfl) (by kernel_rfl) (by kernel_rfl) (fun _ _ _ h => h) (.inl ⟨by rfl, fun w' _ => by go_simp⟩) ⟨hK3.blk, hc3⟩ ?_
                  simp only [Act.put, List.setIfInBounds_toArray, List.set_cons_zero, List.set_cons_succ]
                  refine wpAnyH_takeL (i := 8) (v := .agg (rvC rv0).toArray) rfl (by kernel_rfl) (by kernel_rfl) (by kernel_rfl) (fun _ _ _ h => h) (.inl ⟨by rfl, fun w' _ => by go_simp⟩) ⟨hK3.blk, hc3⟩ ?_
                  simp only [Act.put, List.setIfInBounds_toArray, List.set_cons_zero, List.set_cons_succ]
                  refine wpAnyH_takeL (i := 9) (v := .int .i64 7) rfl (by kernel_rfl) (by kernel_rfl) (by kernel_rfl) (fun _ _ _ h => h) (.inl ⟨by rfl, fun w' _ => by go_simp⟩) ⟨hK3.blk, hc3⟩ ?_
                  simp only [Act.put, List.setIfInBounds_toArray, List.set_cons_zero, List.set_cons_succ]
                  refine wpAnyH_oneL (k := 11) rfl (by kernel_rfl) rfl ?_
                  refine wp_strv (g := wc.heap.size) (r0 := rv0) hZ3 (.tmp 18) (.tmp 80) rfl rv0 rfl rfl (fun w4 _ hG5 _ => ?_)
                  have hK4 := hK2.far hK3 (Nat.le_refl _) hG5
                  have hc4 := (World.cell?_of_block (hG5.block g (cellLt hc3) (fun e => by injection e with e; have := cellLt hc0; simp at this; omega)) : w4.cell? ⟨g, i * 34, none⟩ = _).trans hc3
                  refine ⟨⟨hK4.blk, hc4⟩, ?_⟩
                  simp only [Act.put]
                  refine wpAnyH_oneL (k := 12) rfl (by kernel_rfl) rfl ?_
                  refine wp_of_run (v := .int .i64 7) (w' := w4) (by go_simp) ⟨⟨hK4.blk, hc4⟩, ?_⟩
                  simp only [Act.put, List.setIfInBounds_toArray, List.set_cons_zero, List.set_cons_succ]
                  refine wpAnyH_done (by kernel_rfl) ?_ _
                  refine NoPanic.normal ?_
                  (try go_wp2_with fail)
                  go_meet
                  exact ⟨rfl, hK4, hc4⟩
              case rest =>
                obtain ⟨rfl, hK3, -⟩ := hcut
                clear hc0 hc2 hK2
                go_wp2_with fail
                exact ⟨⟨i + 1, by omega, by go_num, hK3⟩, by simp [intOf]; omega⟩
          · obtain rfl : i = G.length := by omega
            obtain ⟨x0, x1, x2, x3⟩ := hK.bs.blk.c4
            obtain ⟨y0, y1, y2, y3⟩ := hK.blk.c4
            clear x0 x1 x2 x3 y0 y1 y2 y3
            go_wp2_with fail
            refine (known_any _).mono ?_
            rintro e w9 ⟨rfl, hB9⟩
            have hK9 := hK.be hB9
            clear hK
            obtain ⟨x0, x1, x2, x3⟩ := hK9.bs.blk.c4
            obtain ⟨y0, y1, y2, y3⟩ := hK9.blk.c4
            rcases hfact with ⟨hE, _⟩ | ⟨hE, _, _, e3, hG, hL2, _⟩
            · have hne : (E != 0) = true := by simpa using hE
              go_wp2_with fail
              go_ret
              exact ⟨rfl, hK9.bs.below⟩
            · have e3' := e3.symm
              subst hE e3'
              have hsum : L2.length + G.length = l.length := by rw [hG, hL2]; exact drop_len l ns
              have hsum' : (L2.length : Int) + (G.length : Int) = (l.length : Int) := by omega
              clear hG hL2 e3
              go_wp2_with fail
              go_ret
              exact ⟨by first | rfl | simp, hK9.bs.below⟩

end Go.Proofs.Ytkmdhmnjohlnaaa
