/-
  The contract of Add's predicate; what Add comes to.
-/
import Derived.Test.YtkmdhmnjohlnaaaRevH
import Derived.Test.YtkmdhmnjohlnaaaWordsU
namespace Go.Proofs.Ytkmdhmnjohlnaaa
open Go.RowKit

def goB (m was no x : Int) : Bool := decide (0 < m) && !(x == was) && !(x == no)
def moreF (m0 was no : Int) (l : List Rv) : Nat → Int
  | 0 => m0
  | i + 1 => if goB (moreF m0 was no l i) was no ((l[i]?).getD rv0).no = true then moreF m0 was no l i - 1 else moreF m0 was no l i
def goesF (m0 was no : Int) (l : List Rv) (i : Nat) : Bool := goB (moreF m0 was no l i) was no ((l[i]?).getD rv0).no
theorem moreF_le (m0 was no : Int) (l : List Rv) : ∀ i, moreF m0 was no l i ≤ m0
  | 0 => Int.le_refl _
  | i + 1 => by
    have := moreF_le m0 was no l i
    unfold moreF; split <;> omega
theorem moreF_ge (m0 was no : Int) (l : List Rv) (h : -3 ≤ m0) : ∀ i, -3 ≤ moreF m0 was no l i
  | 0 => h
  | i + 1 => by
    have h1 := moreF_ge m0 was no l h i
    unfold moreF
    split
    · rename_i hg
      have : 0 < moreF m0 was no l i := by unfold goB at hg; simp at hg; exact hg.1.1
      omega
    · exact h1

/-- What Add's predicate reads and writes. -/
structure AddSt (gm gw gr : Nat) (m was no : Int) (w : World) : Prop where
  more : w.cell? ⟨gm, 0, none⟩ = some (.int .i64 m)
  free : w.frozen? ⟨gm, 0, none⟩ = false
  wasC : w.cell? ⟨gw, 0, none⟩ = some (.int .i64 was)
  noC : w.cell? ⟨gr, 0, none⟩ = some (.int .i64 no)

set_option maxHeartbeats 1000000 in
theorem addc_any (gm gw gr : Nat) (m was no : Int) (r : Rv) (w : World) (hS : AddSt gm gw gr m was no w) (hm : -3 ≤ m ∧ m ≤ 1000000) (h1 : gm ≠ gw) (h2 : gm ≠ gr) (l1 : gm < w.heap.size) (l2 : gw < w.heap.size) (l3 : gr < w.heap.size) :
    Calls Try.prog 31 #[.agg (rvC r).toArray, .pointer (some ⟨gm, 0, none⟩), .pointer (some ⟨gw, 0, none⟩), .pointer (some ⟨gr, 0, none⟩)] w fun e w' =>
      e = .returned (.bool (goB m was no r.no)) ∧ AddSt gm gw gr (if goB m was no r.no = true then m - 1 else m) was no w' ∧ w.grownBy w' (some gm) := by
  have hX := Blk.new w 36 (rvC r).toArray
  have d0 := hX.rv0
  have c1 := (World.cell?_alloc_lt w (.cells (rvC r).toArray 36) ⟨gm, 0, none⟩ l1).trans hS.more
  have c2 := (World.cell?_alloc_lt w (.cells (rvC r).toArray 36) ⟨gw, 0, none⟩ l2).trans hS.wasC
  have c3 := (World.cell?_alloc_lt w (.cells (rvC r).toArray 36) ⟨gr, 0, none⟩ l3).trans hS.noC
  have f1 := froz_later (below_al (Below.refl w.heap.size w) (.cells (rvC r).toArray 36)) hS.more hS.free
  have hG := only_alloc (only_refl w (some gm)) (.cells (rvC r).toArray 36)
  obtain ⟨w0, hw0⟩ : ∃ w0, w.alloc (.cells (rvC r).toArray 36) = w0 := ⟨_, rfl⟩
  rw [hw0] at d0 c1 c2 c3 f1 hG
  clear hX hS
  cases eB : goB m was no r.no
  · have h : m ≤ 0 ∨ r.no = was ∨ r.no = no := by unfold goB at eB; simp at eB; omega
    by_cases e1 : m ≤ 0
    · clear h
      go_enter Try.func31, Try.ntmps31
      go_wp2
      go_ret
      exact ⟨rfl, ⟨c1, f1, c2, c3⟩, hG⟩
    have e1' : decide (m ≤ 0) = false := by simp; omega
    by_cases e2 : r.no = was
    · have e2' : (r.no == was) = true := by simp [e2]
      clear h e1 e2
      go_enter Try.func31, Try.ntmps31
      go_wp2
      go_ret
      exact ⟨rfl, ⟨c1, f1, c2, c3⟩, hG⟩
    have e2' : (r.no == was) = false := by simp [e2]
    have e3' : (r.no == no) = true := by simp; omega
    clear h e1 e2
    go_enter Try.func31, Try.ntmps31
    go_wp2
    go_ret
    exact ⟨rfl, ⟨c1, f1, c2, c3⟩, hG⟩
  · have h : 0 < m ∧ r.no ≠ was ∧ r.no ≠ no := by unfold goB at eB; simp at eB; omega
    have e1 : decide (m ≤ 0) = false := by simp; omega
    have e2 : (r.no == was) = false := by simp [h.2.1]
    have e3 : (r.no == no) = false := by simp [h.2.2]
    go_enter Try.func31, Try.ntmps31
    go_wp2
    go_ret
    refine ⟨rfl, ⟨by go_simp, by go_simp, ?_, ?_⟩, only_setCell hG 0 _⟩
    · rw [World.cell?_setCell_other _ _ _ _ (fun e => by injection e with e; exact h1 e)]; exact c2
    · rw [World.cell?_setCell_other _ _ _ _ (fun e => by injection e with e; exact h2 e)]; exact c3

def addE (s1 s2 : ByteArray) (a : Int) (l : List Rv) (r : Rv) : Nat :=
  if checkF s1 s2 a l ≠ 0 then checkF s1 s2 a l else if idxR r.no l < l.length then 8 else if checkF s1 s2 r.no [r] ≠ 0 ∨ r.no < lastF l + 1 then 1 else 0
/-- Those that go (true), those that stay (false). -/
def addL (v : Bool) (a : Int) (l : List Rv) (r : Rv) : List Rv := selF (goesF (((l.length + 1 : Nat) : Int) - 3) a r.no (l ++ [r])) v (l ++ [r]) (l.length + 1)
def AddPost (w : World) (s1 s2 : ByteArray) (a : Int) (l : List Rv) (r : Rv) (e : Ending) (w' : World) : Prop :=
  Below w.heap.size w w' ∧
    ((addE s1 s2 a l r ≠ 0 ∧ e = .returned (.tuple #[.agg #[.string { data := #[] }, .string { data := #[] }, .int .i64 0, .slice none 0 0], .slice none 0 0, .int .i64 (addE s1 s2 a l r)])) ∨
     (addE s1 s2 a l r = 0 ∧ ∃ A1 c1 A2 c2, e = .returned (.tuple #[.agg #[.string s1, .string s2, .int .i64 r.no, .slice A2 (addL false a l r).length c2], .slice A1 (addL true a l r).length c1, .int .i64 0]) ∧
       Rows2 w' w.heap.size (.slice A1 (addL true a l r).length c1) (addL true a l r) (.slice A2 (addL false a l r).length c2) (addL false a l r)))

theorem blk_range {w : World} {g : Nat} {t : TypeId} {l : List Value} (h : Blk w g t l.toArray) : w.rangeAt g 0 l := fun j v hv => by
  rw [h.cell]; simpa using hv
theorem sV {w : World} {g : Nat} {t : TypeId} {r : Rv} (h : Blk w g t (rvC r).toArray) : w.cell? ⟨g, 0, none⟩ = some (.int .i64 r.no) ∧ w.rangeAt g 0 (rvC r) := ⟨h.rv0, blk_range h⟩

theorem res_cell_tmp2 {fn : Func} {p u v : Tmp} {ty : TypeId} (h : fn.results = #[.cell p ty, .tmp u, .tmp v]) (tmps : Array Value) (P : Program) (w : World) {g : Nat} {t : TypeId} {cs : Array Value} {fs : Array Field} {x y : Value}
    (hp : tmps.getD p undef = .pointer (some ⟨g, 0, none⟩)) (hB : Blk w g t cs) (hu : P.underlying ty = some (.struct fs))
    (hi : (P.info? ty).map (·.size) = some cs.size) (hx : tmps.getD u undef = x) (hy : tmps.getD v undef = y) :
    (results fn tmps).run P w = .ok (.tuple #[.agg cs, x, y]) w := by
  have hl := run_loadVar_row (P := P) w g t ty cs (0, 0) _ hB hu rfl hi
  have hp2 : tmps[p]?.getD undef = .pointer (some ⟨g, 0, none⟩) := by simpa using hp
  have hx2 : tmps[u]?.getD undef = x := by simpa using hx
  have hy2 : tmps[v]?.getD undef = y := by simpa using hy
  simp [results, h, hp2, hx2, hy2, asAddr, hl]

set_option maxRecDepth 100000 in
set_option maxHeartbeats 4000000 in
theorem add_any (s1 s2 : ByteArray) (a : Int) (A : Option Addr) (n c : Nat) (l : List Rv) (r : Rv) (w : World) (h1 : s1.size ≤ 9223372036854775807) (h2 : s2.size ≤ 9223372036854775807) (hn : n ≤ 1000000) (hR : Reads w w.heap.size 34 A n (revC l)) :
    Calls Try.prog 9 #[.agg #[.string s1, .string s2, .int .i64 a, .slice A n c], .agg (rvC r).toArray] w (AddPost w s1 s2 a l r) := by
  obtain ⟨wa, hwa, hRa, hEa, hPa, hVa, hsa⟩ := two_new w s1 s2 a A n c l 36 (rvC r).toArray hR
  have hl := reads_n hR
  obtain ⟨w0, hw0⟩ : ∃ w0, wa.alloc (.cells #[.string { data := #[] }, .string { data := #[] }, .int .i64 0, .slice none 0 0] 30) = w0 := ⟨_, rfl⟩
  have hB0 : Below wa.heap.size wa w0 := by rw [← hw0]; exact below_al (Below.refl _ _) _
  have hZ0 : Blk w0 (w.heap.size + 2) 30 #[.string { data := #[] }, .string { data := #[] }, .int .i64 0, .slice none 0 0] := by rw [← hw0]; exact Blk.new' (by rw [hsa])
  have hs0 : w0.heap.size = w.heap.size + 3 := by rw [← hw0]; simp [hsa]
  have hR0 := Sl.mk ((hRa.out.below hB0).more hB0.size)
  have hP0 := hPa.be hB0
  have hV0 := hVa.be hB0
  have hE0 := below_tr hEa hB0
  clear hR hRa hEa hPa hVa hB0
  go_enter Try.func9, Try.ntmps9
  go_wp2_with (refine ld_pk hP0 rfl (.tmp 2) rfl rfl rfl ?_)
  clear hwa hw0 hsa
  refine (checked_any s1 s2 a A n c l _ h1 h2 hn hR0.out).mono ?_
  rintro e w1 ⟨hB1, hpost⟩
  have hE1 := below_tr hE0 hB1
  have hP1 := hP0.be hB1
  have hV1 := hV0.be hB1
  have hZ1 := hZ0.be hB1
  have hge1 := hB1.size
  rw [hs0] at hge1
  clear hE0 hP0 hV0 hZ0 hR0
  rcases hpost with ⟨hC, rfl⟩ | ⟨hC, A', c', rfl, hown⟩
  · have HT := Sl.mk (show addE s1 s2 a l r = checkF s1 s2 a l by unfold addE; rw [if_pos hC])
    have HC := Sl.mk hC
    have hne' : (((checkF s1 s2 a l : Nat) : Int) != 0) = true := by simpa using hC
    obtain ⟨E, hE⟩ : ∃ E, ((checkF s1 s2 a l : Nat) : Int) = E := ⟨_, rfl⟩
    have HEE := Sl.mk hE
    rw [hE] at hne' ⊢
    clear hC hE hB1
    go_wp2_with (refine st_pkn rfl (.tmp 7) (.tmp 18) rfl ⟨#[]⟩ ⟨#[]⟩ 0 none 0 0 rfl rfl ?_)
    intro w2 hY2 hB2 hs2
    have hZ2 := hZ1.be hB2
    have hE2 := below_tr hE1 hB2
    clear hY2 hs2 hZ1 hE1 hP1 hV1
    go_wp2_with (refine st_pk hZ2 rfl (.tmp 4) (.tmp 23) rfl ⟨#[]⟩ ⟨#[]⟩ 0 none 0 0 rfl rfl rfl ?_)
    intro w3 hZ3 hG3 _
    have hE3 := below_only hE2 hG3 hE2.size (by omega)
    go_wp2_with fail
    refine bodyPost_ret (res_cell_tmp2 Try.results9 _ _ _ rfl hZ3 Try.underlying30 infoPk rfl rfl) rfl ?_
    exact ⟨hE3, .inl ⟨by rw [HT.out]; exact HC.out, by rw [HT.out, HEE.out]; rfl⟩⟩
  · have hgood := (check_parts hC).2.2.2.2.1
    have HG := Sl.mk hgood
    have HC := Sl.mk hC
    have hn3 := (check_parts hC).2.2.2.1
    have hown1 := own_mono (b' := w.heap.size + 3) hown (by omega)
    have hne1 := ownNeLt hown1 (Nat.le_refl _)
    clear hC hB1 hown hgood
    go_wp2_with (refine st_pkn rfl (.tmp 7) (.tmp 18) rfl s1 s2 a A' n c' rfl rfl ?_)
    intro w2 hY2 hB2 hs2
    have hZ2 := hZ1.be hB2
    have hE2 := below_tr hE1 hB2
    have hP2 := hP1.be hB2
    have hV2 := hV1.be hB2
    have hown2 := own_below hown1 hB2
    have hR2 := Sl.mk (Reads.of_own hown2)
    have d0 := hV2.rv0
    clear hs2 hZ1 hE1 hP1 hV1
    go_wp2_with (refine ld_pk hY2 rfl (.tmp 7) rfl rfl rfl ?_)
    refine (at_any s1 s2 a r.no A' n c' l _ hn hR2.out).mono ?_
    rintro e w3 ⟨rfl, hB3⟩
    have hZ3 := hZ2.be hB3
    have hY3 := hY2.be hB3
    have hE3 := below_tr hE2 hB3
    have hP3 := hP2.be hB3
    have hV3 := hV2.be hB3
    have hown3 := own_below hown2 hB3
    clear hZ2 hY2 hE2 hown2 hR2 hP2 hV2 d0 hB2 hB3
    by_cases hi : idxR r.no l < l.length
    · have HT := Sl.mk (show addE s1 s2 a l r = 8 by unfold addE; rw [if_neg (by rw [HC.out]; simp), if_pos hi])
      have hp : placeF r.no l = ((idxR r.no l : Nat) : Int) := by unfold placeF; rw [if_pos hi]
      rw [hp]
      clear hp hi
      go_wp2_with (refine st_pk hZ3 rfl (.tmp 4) (.tmp 31) rfl ⟨#[]⟩ ⟨#[]⟩ 0 none 0 0 rfl rfl rfl ?_)
      intro w4 hZ4 hG4 _
      have hE4 := below_only hE3 hG4 hE3.size (by omega)
      go_wp2_with fail
      refine bodyPost_ret (res_cell_tmp2 Try.results9 _ _ _ rfl hZ4 Try.underlying30 infoPk rfl rfl) rfl ?_
      exact ⟨hE4, .inl ⟨by rw [HT.out]; simp, by rw [HT.out]; rfl⟩⟩
    have HI := Sl.mk hi
    have hp : placeF r.no l = -1 := by unfold placeF; rw [if_neg hi]
    rw [hp]
    clear hp hi
    obtain ⟨c0, c1, c2, c3⟩ := hP3.c4
    go_wp2_with (refine ld_rv hV3 rfl (.tmp 3) rfl rfl ?_)
    refine (first_any s1 s2 r _ h1 h2).mono ?_
    rintro e w4 ⟨hB4, hpost4⟩
    obtain ⟨a1, a2, x9, B9, m9, d9, E4, rfl, hE4⟩ : ∃ (a1 a2 : ByteArray) (x9 : Int) (B9 : Option Addr) (m9 d9 E4 : Nat), e = .returned (.tuple #[.agg #[.string a1, .string a2, .int .i64 x9, .slice B9 m9 d9], .int .i64 E4]) ∧ checkF s1 s2 r.no [r] = E4 := by
      rcases hpost4 with ⟨hC, rfl⟩ | ⟨hC, A4, c4, rfl, _⟩
      · exact ⟨_, _, _, _, _, _, _, rfl, rfl⟩
      · exact ⟨_, _, _, _, _, _, 0, rfl, hC⟩
    have HE4 := Sl.mk hE4
    have hZ4 := hZ3.be hB4
    have hY4 := hY3.be hB4
    have hE4' := below_tr hE3 hB4
    have hV4 := hV3.be hB4
    have hown4 := own_below hown3 hB4
    clear hZ3 hY3 hE3 hP3 hV3 hown3 hB4 hpost4 c0 c1 c2 c3 hE4
    go_wp2_with (refine st_pkn rfl (.tmp 9) (.tmp 39) rfl a1 a2 x9 B9 m9 d9 rfl rfl ?_)
    intro w5 _ hB5 _
    have hZ5 := hZ4.be hB5
    have hY5 := hY4.be hB5
    have hE5 := below_tr hE4' hB5
    have hV5 := hV4.be hB5
    have hown5 := own_below hown4 hB5
    clear hZ4 hY4 hE4' hV4 hown4 hB5
    by_cases hE0 : E4 = 0
    · subst hE0
      obtain ⟨c0, c1, c2, c3⟩ := hY5.c4
      have d0 := hV5.rv0
      have hS5 : w5.cell? ⟨w.heap.size + 1, 0, none⟩ = some (.int .i64 r.no) ∧ w5.cell? ⟨w1.heap.size, 0, none⟩ = some (.string s1) ∧ w5.cell? ⟨w1.heap.size, 1, none⟩ = some (.string s2) ∧ w5.cell? ⟨w1.heap.size, 2, none⟩ = some (.int .i64 a) ∧ w5.cell? ⟨w1.heap.size, 3, none⟩ = some (.slice A' n c') := ⟨d0, c0, c1, c2, c3⟩
      have hRd := Sl.mk ((Reads.of_own hown5).drew)
      go_wp2_with fail
      go_region_held3 (fun w' => w'.cell? ⟨w.heap.size + 1, 0, none⟩ = some (.int .i64 r.no) ∧ w'.cell? ⟨w1.heap.size, 0, none⟩ = some (.string s1) ∧ w'.cell? ⟨w1.heap.size, 1, none⟩ = some (.string s2) ∧ w'.cell? ⟨w1.heap.size, 2, none⟩ = some (.int .i64 a) ∧ w'.cell? ⟨w1.heap.size, 3, none⟩ = some (.slice A' n c')) (first | assumption | exact hS5)
        (first | (go_at_call 16; refine (with5 (p0 := ⟨w.heap.size + 1, 0, none⟩) (v0 := (.int .i64 r.no)) (p1 := ⟨w1.heap.size, 0, none⟩) (v1 := (.string s1)) (p2 := ⟨w1.heap.size, 1, none⟩) (v2 := (.string s2)) (p3 := ⟨w1.heap.size, 2, none⟩) (v3 := (.int .i64 a)) (p4 := ⟨w1.heap.size, 3, none⟩) (v4 := (.slice A' n c')) (next_any s1 s2 a A' n c' l _ hn hRd.out HG.out) ?_).mono ?_; (focus assumption); rintro e w6 ⟨rfl, hB6, hS6⟩))
      have hZ6 := hZ5.drew.be hB6
      have hY6 := hY5.drew.be hB6
      have hE6 := below_tr hE5.drew hB6
      have hV6 := hV5.drew.be hB6
      have hown6 := own_below (own_below hown5 (Below.refl w5.heap.size w5).drew) hB6
      clear hZ5 hY5 hE5 hV5 hown5 hB6 hRd hS5 hS6 c0 c1 c2 c3 d0
      by_cases hlt : r.no < lastF l + 1
      · have HT := Sl.mk (show addE s1 s2 a l r = 1 by unfold addE; rw [if_neg (by rw [HC.out]; simp), if_neg HI.out, if_pos (.inr hlt)])
        go_wp2_with (refine st_pk hZ6 rfl (.tmp 4) (.tmp 50) rfl ⟨#[]⟩ ⟨#[]⟩ 0 none 0 0 rfl rfl rfl ?_)
        intro w8 hZ8 hG8 _
        have hE8 := below_only hE6 hG8 hE6.size (by omega)
        go_wp2_with fail
        refine bodyPost_ret (res_cell_tmp2 Try.results9 _ _ _ rfl hZ8 Try.underlying30 infoPk rfl rfl) rfl ?_
        exact ⟨hE8, .inl ⟨by rw [HT.out]; simp, by rw [HT.out]; rfl⟩⟩
      · have HT := Sl.mk (show addE s1 s2 a l r = 0 by unfold addE; rw [if_neg (by rw [HC.out]; simp), if_neg HI.out, if_neg (by rw [HE4.out]; simp; omega)])
        obtain ⟨c0, c1, c2, c3⟩ := hY6.c4
        go_wp2_with fail
        have hW7 := Blk.new w6 3 #[.int .i64 a]
        have hZ7 := hZ6.alloc (.cells #[.int .i64 a] 3)
        have hY7 := hY6.alloc (.cells #[.int .i64 a] 3)
        have hV7 := hV6.alloc (.cells #[.int .i64 a] 3)
        have hE7 := below_al hE6 (.cells #[.int .i64 a] 3)
        have hown7 := hown6.alloc (.cells #[.int .i64 a] 3)
        have hs7 : (w6.alloc (.cells #[.int .i64 a] 3)).heap.size = w6.heap.size + 1 := by simp
        have hl7 := hY6.lt
        have hneW : some w6.heap.size ≠ (Value.slice A' n c').ownBlock := fun e => by have := own_lt hown6 e.symm; omega
        obtain ⟨w7, hw7⟩ : ∃ w7, w6.alloc (.cells #[.int .i64 a] 3) = w7 := ⟨_, rfl⟩
        rw [hw7] at hW7 hZ7 hY7 hV7 hE7 hown7 hs7 ⊢
        obtain ⟨gw, hgw⟩ : ∃ gw, w6.heap.size = gw := ⟨_, rfl⟩
        rw [hgw] at hW7 hs7 hl7 hneW ⊢
        clear hw7 hgw hZ6 hY6 hE6 hV6 hown6 c0 c1 c2 c3
        go_cut [57] (fun _ wx => ∃ A3 c3, Blk wx w1.heap.size 30 #[.string s1, .string s2, .int .i64 r.no, .slice A3 (n + 1) c3] ∧ wx.ownsRow (w.heap.size + 3) 36 34 (.slice A3 (n + 1) c3) (n + 1) (revC (l ++ [r])) ∧
          Blk wx gw 3 #[.int .i64 a] ∧ Blk wx (w.heap.size + 2) 30 #[.string { data := #[] }, .string { data := #[] }, .int .i64 0, .slice none 0 0] ∧ Blk wx (w.heap.size + 1) 36 (rvC r).toArray ∧ Below w.heap.size w wx)
        case first =>
          have hu36 := Try.underlying36
          have hi36 : (Try.prog.info? 36).map (·.size) = some (rvC r).length := by rw [infoRv, rvC_len]
          obtain ⟨i0, hi0, hz0, hz1, hz2⟩ := info_parts rvInfo
          have hzs : zeroRv.cells.size = 34 := by rfl
          have h63 : n + 1 ≤ maxLen := by unfold maxLen; omega
          have hby : (n + 1) * 48 ≤ 140737488355328 := by omega
          have hbase : w.heap.size + 3 ≤ (w7.drew.alloc (.cells (rvC r).toArray 36)).heap.size := by
            show _ ≤ (w7.alloc (.cells (rvC r).toArray 36)).heap.size
            simp; omega
          have hneY : some w1.heap.size ≠ (Value.slice A' n c').ownBlock := by
            rcases hne1 with e | e
            · rw [e]; simp
            · exact fun x => e x.symm
          have hneZ : some (w.heap.size + 2) ≠ (Value.slice A' n c').ownBlock := fun e => by have := ownGe hown7 e.symm; omega
          have hneV : some (w.heap.size + 1) ≠ (Value.slice A' n c').ownBlock := fun e => by have := ownGe hown7 e.symm; omega
          have hfV : w.heap.size + 1 ≠ w1.heap.size := by omega
          have hfZ : w.heap.size + 2 ≠ w1.heap.size := by omega
          have hfW : gw ≠ w1.heap.size := by omega
          have h34 := rvC_len r
          have hfold := fold_rv r #[.int .i64 0, .int .u8 0, .int .u8 0, .int .u8 0, .int .u8 0, .int .u8 0, .int .u8 0, .int .u8 0, .int .u8 0, .int .u8 0, .int .u8 0, .int .u8 0, .int .u8 0, .int .u8 0, .int .u8 0, .int .u8 0, .int .u8 0, .int .u8 0, .int .u8 0, .int .u8 0, .int .u8 0, .int .u8 0, .int .u8 0, .int .u8 0, .int .u8 0, .int .u8 0, .int .u8 0, .int .u8 0, .int .u8 0, .int .u8 0, .int .u8 0, .int .u8 0, .int .u8 0, .int .i64 0] (by rfl)
          have hV8 : Blk (w7.drew.alloc (.cells (rvC r).toArray 36)) (w.heap.size + 1) 36 (rvC r).toArray := hV7.drew.alloc _
          have hW8 : Blk (w7.drew.alloc (.cells (rvC r).toArray 36)) gw 3 #[.int .i64 a] := hW7.drew.alloc _
          have hY8 : Blk (w7.drew.alloc (.cells (rvC r).toArray 36)) w1.heap.size 30 #[.string s1, .string s2, .int .i64 a, .slice A' n c'] := hY7.drew.alloc _
          have hZ8 : Blk (w7.drew.alloc (.cells (rvC r).toArray 36)) (w.heap.size + 2) 30 #[.string { data := #[] }, .string { data := #[] }, .int .i64 0, .slice none 0 0] := hZ7.drew.alloc _
          have hown8 : (w7.drew.alloc (.cells (rvC r).toArray 36)).ownsRow (w.heap.size + 3) 36 34 (.slice A' n c') n (revC l) := own_below (own_below hown7 (Below.refl w7.heap.size w7).drew) (below_al (Below.refl _ _) _)
          have hE8 : Below w.heap.size w (w7.drew.alloc (.cells (rvC r).toArray 36)) := below_al hE7.drew _
          obtain ⟨c0, c1, c2, c3⟩ := hY7.c4
          have hV7d : Blk w7.drew (w.heap.size + 1) 36 (rvC r).toArray := hV7.drew
          have c3d : w7.drew.cell? ⟨w1.heap.size, 3, none⟩ = some (.slice A' n c') := c3
          have c3e : (w7.drew.alloc (.cells (rvC r).toArray 36)).cell? ⟨w1.heap.size, 3, none⟩ = some (.slice A' n c') := hY8.cell 3
          have hsd : w7.drew.heap.size = w7.heap.size := rfl
          refine wp_region_noPanic ?_
          refine wp_region_held_drew (S := fun w' => w'.cell? ⟨w.heap.size + 1, 0, none⟩ = some (.int .i64 r.no) ∧ w'.rangeAt (w.heap.size + 1) 0 (rvC r)) (by kernel_rfl) (sV hV7d) (fun hSd => ?_)
          refine wpAnyH_takeL (i := 0) (v := .pointer (some ⟨w1.heap.size, 3, none⟩)) rfl (by kernel_rfl) (by kernel_rfl) (by kernel_rfl) (fun _ _ _ h => h) (.inl ⟨by rfl, fun w' hw' => by go_simp⟩) hSd ?_
          simp only [Act.put, List.setIfInBounds_toArray, List.set_cons_zero, List.set_cons_succ]
          refine wpAnyH_takeL (i := 2) (v := .agg (rvC r).toArray) rfl (by kernel_rfl) (by kernel_rfl) (by kernel_rfl) (fun _ _ _ h => h) (yieldsIf_load_mid (by rfl) 36 (.tmp 3) rfl (w.heap.size + 1) 0 rfl (rvC r) _ (fun _ hw' => hw'.2) hu36 rfl hi36) hSd ?_
          simp only [Act.put, List.setIfInBounds_toArray, List.set_cons_zero, List.set_cons_succ]
          refine wpAnyH_takeL (i := 5) (v := .pointer (some ⟨w.heap.size + 1, 0, none⟩)) rfl (by kernel_rfl) (by kernel_rfl) (by kernel_rfl) (fun _ _ _ h => h) (.inl ⟨by rfl, fun w' hw' => by go_simp⟩) hSd ?_
          simp only [Act.put, List.setIfInBounds_toArray, List.set_cons_zero, List.set_cons_succ]
          refine wpAnyH_takeL (i := 6) (v := .int .i64 r.no) rfl (by kernel_rfl) (by kernel_rfl) (by kernel_rfl) (fun _ _ _ h => h) (.inl ⟨by rfl, fun w' hw' => by obtain ⟨hw1, -⟩ := hw'; go_simp⟩) hSd ?_
          simp only [Act.put, List.setIfInBounds_toArray, List.set_cons_zero, List.set_cons_succ]
          refine wpAnyH_twoL (i := 1) (j := 3) rfl rfl (by kernel_rfl) rfl rfl ?_ ?_
          · refine wp_of_run (v := .slice A' n c') (w' := w7.drew) (by go_simp) ⟨hSd, ?_⟩
            simp only [Act.put, List.setIfInBounds_toArray, List.set_cons_zero, List.set_cons_succ]
            refine wpAnyH_oneL (k := 3) rfl (by kernel_rfl) rfl ?_
            refine wp_of_run (v := .slice (some ⟨w7.heap.size, 0, none⟩) 1 1) (w' := w7.drew.alloc (.cells (rvC r).toArray 36)) (by go_simp) ⟨sV hV8, ?_⟩
            simp only [Act.put, List.setIfInBounds_toArray, List.set_cons_zero, List.set_cons_succ]
            refine wpAnyH_oneL (k := 4) rfl (by kernel_rfl) rfl ?_
            refine wp_append_any _ (.tmp 54) (.tmp 56) 28 rfl (w.heap.size + 3) 36 i0 zeroRv 34 48 Try.underlying28 hi0 hz0 hz1 hz2 hzs (by decide) _ _ _ rfl hown8 (w7.heap.size + 1) _ 1 1 (rvC r) rfl (reads_one w7.drew r) (rvC_one r) h63 hby hbase ?_
            intro v3 w3 hown3 hG3 hb3
            obtain ⟨A3, c3', rfl⟩ := ownForm hown3
            have hV3 := hV8.grown hG3 hneV
            have hY3 := hY8.grown hG3 hneY
            have hZ3 := hZ8.grown hG3 hneZ
            have hW3 := hW8.grown hG3 hneW
            have hB3 : Below w.heap.size w w3 := hE8.grown hG3 hE8.size (fun x hx => by have := ownGe hown8 hx; omega)
            have hneO : (Value.slice A3 (n + 1) c3').ownBlock ≠ some w1.heap.size := fun e => by
              rcases hb3 with h | h
              · rw [h] at e; exact hneY e.symm
              · rw [h] at e
                injection e with e
                have : (w7.drew.alloc (.cells (rvC r).toArray 36)).heap.size = w7.heap.size + 1 := by
                  show (w7.alloc (.cells (rvC r).toArray 36)).heap.size = _
                  simp
                omega
            have q2 := hY3.cell 2
            have q3 := hY3.cell 3
            have p2 := hY3.frozen 2
            have p3 := hY3.frozen 3
            have hY4 : Blk (w3.setCell ⟨w1.heap.size, 3, none⟩ (.slice A3 (n + 1) c3')) w1.heap.size 30 #[.string s1, .string s2, .int .i64 a, .slice A3 (n + 1) c3'] := blk_set _ _ _ _ 3 _ _ hY3 rfl
            have hY5' : Blk ((w3.setCell ⟨w1.heap.size, 3, none⟩ (.slice A3 (n + 1) c3')).setCell ⟨w1.heap.size, 2, none⟩ (.int .i64 r.no)) w1.heap.size 30 #[.string s1, .string s2, .int .i64 r.no, .slice A3 (n + 1) c3'] := blk_set _ _ _ _ 2 _ _ hY4 rfl
            have hO4 := (hown3.kept (only_setCell (only_refl w3 (some w1.heap.size)) 3 (.slice A3 (n + 1) c3')) (.inr hneO))
            have hO5 := (hO4.kept (only_setCell (only_refl _ (some w1.heap.size)) 2 (.int .i64 r.no)) (.inr hneO))
            have hV4 := (hV3.far (p := ⟨w1.heap.size, 3, none⟩) hfV (.slice A3 (n + 1) c3'))
            have hV5' := (hV4.far (p := ⟨w1.heap.size, 2, none⟩) hfV (.int .i64 r.no))
            have hZ5' := ((hZ3.far (p := ⟨w1.heap.size, 3, none⟩) hfZ (.slice A3 (n + 1) c3')).far (p := ⟨w1.heap.size, 2, none⟩) hfZ (.int .i64 r.no))
            have hW5' := ((hW3.far (p := ⟨w1.heap.size, 3, none⟩) hfW (.slice A3 (n + 1) c3')).far (p := ⟨w1.heap.size, 2, none⟩) hfW (.int .i64 r.no))
            have hB5' : Below w.heap.size w ((w3.setCell ⟨w1.heap.size, 3, none⟩ (.slice A3 (n + 1) c3')).setCell ⟨w1.heap.size, 2, none⟩ (.int .i64 r.no)) := below_only hB3 (only_setCell (only_setCell (only_refl w3 (some w1.heap.size)) 3 _) 2 _) hB3.size (by omega)
            have q4 := hY4.cell 2
            have p4 := hY4.frozen 2
            refine ⟨sV hV3, ?_⟩
            simp only [Act.put, List.setIfInBounds_toArray, List.set_cons_zero, List.set_cons_succ]
            refine wpAnyH_oneL (k := 7) rfl (by kernel_rfl) rfl ?_
            refine wp_of_run (v := .pointer (some ⟨w1.heap.size, 3, none⟩)) (w' := w3) (by go_simp) ⟨sV hV3, ?_⟩
            simp only [Act.put, List.setIfInBounds_toArray, List.set_cons_zero, List.set_cons_succ]
            refine wpAnyH_oneL (k := 8) rfl (by kernel_rfl) rfl ?_
            refine wp_of_skip (w' := w3.setCell ⟨w1.heap.size, 3, none⟩ (.slice A3 (n + 1) c3')) (by go_simp) ⟨sV hV4, ?_⟩
            simp only [Act.put]
            refine wpAnyH_oneL (k := 9) rfl (by kernel_rfl) rfl ?_
            refine wp_of_run (v := .pointer (some ⟨w1.heap.size, 2, none⟩)) (w' := w3.setCell ⟨w1.heap.size, 3, none⟩ (.slice A3 (n + 1) c3')) (by go_simp) ⟨sV hV4, ?_⟩
            simp only [Act.put, List.setIfInBounds_toArray, List.set_cons_zero, List.set_cons_succ]
            refine wpAnyH_oneL (k := 10) rfl (by kernel_rfl) rfl ?_
            refine wp_of_skip (w' := (w3.setCell ⟨w1.heap.size, 3, none⟩ (.slice A3 (n + 1) c3')).setCell ⟨w1.heap.size, 2, none⟩ (.int .i64 r.no)) (by go_simp) ⟨sV hV5', ?_⟩
            simp only [Act.put]
            refine wpAnyH_done (by kernel_rfl) ?_ _
            refine NoPanic.normal ?_
            (try go_wp2_with fail)
            go_meet
            exact ⟨A3, c3', hY5', by rw [revC_append]; simpa [revC] using hO5, hW5', hZ5', hV5', hB5'⟩
          · refine wp_of_run (v := .slice (some ⟨w7.heap.size, 0, none⟩) 1 1) (w' := w7.drew.alloc (.cells (rvC r).toArray 36)) (by go_simp) ⟨sV hV8, ?_⟩
            simp only [Act.put, List.setIfInBounds_toArray, List.set_cons_zero, List.set_cons_succ]
            refine wpAnyH_oneL (k := 1) rfl (by kernel_rfl) rfl ?_
            refine wp_of_run (v := .slice A' n c') (w' := w7.drew.alloc (.cells (rvC r).toArray 36)) (by go_simp) ⟨sV hV8, ?_⟩
            simp only [Act.put, List.setIfInBounds_toArray, List.set_cons_zero, List.set_cons_succ]
            refine wpAnyH_oneL (k := 4) rfl (by kernel_rfl) rfl ?_
            refine wp_append_any _ (.tmp 54) (.tmp 56) 28 rfl (w.heap.size + 3) 36 i0 zeroRv 34 48 Try.underlying28 hi0 hz0 hz1 hz2 hzs (by decide) _ _ _ rfl hown8 (w7.heap.size + 1) _ 1 1 (rvC r) rfl (reads_one w7.drew r) (rvC_one r) h63 hby hbase ?_
            intro v3 w3 hown3 hG3 hb3
            obtain ⟨A3, c3', rfl⟩ := ownForm hown3
            have hV3 := hV8.grown hG3 hneV
            have hY3 := hY8.grown hG3 hneY
            have hZ3 := hZ8.grown hG3 hneZ
            have hW3 := hW8.grown hG3 hneW
            have hB3 : Below w.heap.size w w3 := hE8.grown hG3 hE8.size (fun x hx => by have := ownGe hown8 hx; omega)
            have hneO : (Value.slice A3 (n + 1) c3').ownBlock ≠ some w1.heap.size := fun e => by
              rcases hb3 with h | h
              · rw [h] at e; exact hneY e.symm
              · rw [h] at e
                injection e with e
                have : (w7.drew.alloc (.cells (rvC r).toArray 36)).heap.size = w7.heap.size + 1 := by
                  show (w7.alloc (.cells (rvC r).toArray 36)).heap.size = _
                  simp
                omega
            have q2 := hY3.cell 2
            have q3 := hY3.cell 3
            have p2 := hY3.frozen 2
            have p3 := hY3.frozen 3
            have hY4 : Blk (w3.setCell ⟨w1.heap.size, 3, none⟩ (.slice A3 (n + 1) c3')) w1.heap.size 30 #[.string s1, .string s2, .int .i64 a, .slice A3 (n + 1) c3'] := blk_set _ _ _ _ 3 _ _ hY3 rfl
            have hY5' : Blk ((w3.setCell ⟨w1.heap.size, 3, none⟩ (.slice A3 (n + 1) c3')).setCell ⟨w1.heap.size, 2, none⟩ (.int .i64 r.no)) w1.heap.size 30 #[.string s1, .string s2, .int .i64 r.no, .slice A3 (n + 1) c3'] := blk_set _ _ _ _ 2 _ _ hY4 rfl
            have hO4 := (hown3.kept (only_setCell (only_refl w3 (some w1.heap.size)) 3 (.slice A3 (n + 1) c3')) (.inr hneO))
            have hO5 := (hO4.kept (only_setCell (only_refl _ (some w1.heap.size)) 2 (.int .i64 r.no)) (.inr hneO))
            have hV4 := (hV3.far (p := ⟨w1.heap.size, 3, none⟩) hfV (.slice A3 (n + 1) c3'))
            have hV5' := (hV4.far (p := ⟨w1.heap.size, 2, none⟩) hfV (.int .i64 r.no))
            have hZ5' := ((hZ3.far (p := ⟨w1.heap.size, 3, none⟩) hfZ (.slice A3 (n + 1) c3')).far (p := ⟨w1.heap.size, 2, none⟩) hfZ (.int .i64 r.no))
            have hW5' := ((hW3.far (p := ⟨w1.heap.size, 3, none⟩) hfW (.slice A3 (n + 1) c3')).far (p := ⟨w1.heap.size, 2, none⟩) hfW (.int .i64 r.no))
            have hB5' : Below w.heap.size w ((w3.setCell ⟨w1.heap.size, 3, none⟩ (.slice A3 (n + 1) c3')).setCell ⟨w1.heap.size, 2, none⟩ (.int .i64 r.no)) := below_only hB3 (only_setCell (only_setCell (only_refl w3 (some w1.heap.size)) 3 _) 2 _) hB3.size (by omega)
            have q4 := hY4.cell 2
            have p4 := hY4.frozen 2
            refine ⟨sV hV3, ?_⟩
            simp only [Act.put, List.setIfInBounds_toArray, List.set_cons_zero, List.set_cons_succ]
            refine wpAnyH_oneL (k := 7) rfl (by kernel_rfl) rfl ?_
            refine wp_of_run (v := .pointer (some ⟨w1.heap.size, 3, none⟩)) (w' := w3) (by go_simp) ⟨sV hV3, ?_⟩
            simp only [Act.put, List.setIfInBounds_toArray, List.set_cons_zero, List.set_cons_succ]
            refine wpAnyH_oneL (k := 8) rfl (by kernel_rfl) rfl ?_
            refine wp_of_skip (w' := w3.setCell ⟨w1.heap.size, 3, none⟩ (.slice A3 (n + 1) c3')) (by go_simp) ⟨sV hV4, ?_⟩
            simp only [Act.put]
            refine wpAnyH_oneL (k := 9) rfl (by kernel_rfl) rfl ?_
            refine wp_of_run (v := .pointer (some ⟨w1.heap.size, 2, none⟩)) (w' := w3.setCell ⟨w1.heap.size, 3, none⟩ (.slice A3 (n + 1) c3')) (by go_simp) ⟨sV hV4, ?_⟩
            simp only [Act.put, List.setIfInBounds_toArray, List.set_cons_zero, List.set_cons_succ]
            refine wpAnyH_oneL (k := 10) rfl (by kernel_rfl) rfl ?_
            refine wp_of_skip (w' := (w3.setCell ⟨w1.heap.size, 3, none⟩ (.slice A3 (n + 1) c3')).setCell ⟨w1.heap.size, 2, none⟩ (.int .i64 r.no)) (by go_simp) ⟨sV hV5', ?_⟩
            simp only [Act.put]
            refine wpAnyH_done (by kernel_rfl) ?_ _
            refine NoPanic.normal ?_
            (try go_wp2_with fail)
            go_meet
            exact ⟨A3, c3', hY5', by rw [revC_append]; simpa [revC] using hO5, hW5', hZ5', hV5', hB5'⟩
        case rest =>
          obtain ⟨A3, c3, hY, hO, hW, hZ, hV, hB⟩ := hcut
          obtain ⟨y0, y1, y2, y3⟩ := hY.c4
          have hgm : gw < wc.heap.size := hW.lt
          have hy : w1.heap.size < wc.heap.size := hY.lt
          have hv : w.heap.size + 1 < wc.heap.size := hV.lt
          have hz : w.heap.size + 2 < wc.heap.size := hZ.lt
          clear hW7 hZ7 hY7 hV7 hE7 hown7 hs7 hneW hne1
          have hw9 := Blk.new wc 3 #[.int .i64 (((l.length + 1 : Nat) : Int) - 3)]
          have hB9 := below_al (Below.refl wc.heap.size wc) (.cells #[.int .i64 (((l.length + 1 : Nat) : Int) - 3)] 3)
          have hs9 : (wc.alloc (.cells #[.int .i64 (((l.length + 1 : Nat) : Int) - 3)] 3)).heap.size = wc.heap.size + 1 := by simp
          obtain ⟨w9, hq9⟩ : ∃ w9, wc.alloc (.cells #[.int .i64 (((l.length + 1 : Nat) : Int) - 3)] 3) = w9 := ⟨_, rfl⟩
          rw [hq9] at hw9 hB9 hs9
          have hln : ((n : Int) + 1 - 3) = (((l.length + 1 : Nat) : Int) - 3) := by omega
          have hY9 := hY.be hB9
          obtain ⟨x0, x1, x2, x3⟩ := hY9.c4
          have HC9 := Sl.mk (show Calls Try.prog 30 #[.slice A3 (n + 1) c3, .func (.func 31) #[] #[.pointer (some ⟨wc.heap.size, 0, none⟩), .pointer (some ⟨gw, 0, none⟩), .pointer (some ⟨w.heap.size + 1, 0, none⟩)]] w9 _ from
            split_any 31 #[.pointer (some ⟨wc.heap.size, 0, none⟩), .pointer (some ⟨gw, 0, none⟩), .pointer (some ⟨w.heap.size + 1, 0, none⟩)] (enters_of Try.func31 (by kernel_rfl) rfl) wc.heap.size (goesF (((l.length + 1 : Nat) : Int) - 3) a r.no (l ++ [r]))
              (fun i W => AddSt wc.heap.size gw (w.heap.size + 1) (moreF (((l.length + 1 : Nat) : Int) - 3) a r.no (l ++ [r]) i) a r.no W) A3 (n + 1) c3 (l ++ [r]) w9 (by omega) (by omega) (Reads.of_own (own_below hO hB9))
              (fun ad had => by have := own_lt hO (g := ad.block) (by rw [had]; rfl); omega)
              (fun i r' W hi hS => by
                have h1 := moreF_le (((l.length + 1 : Nat) : Int) - 3) a r.no (l ++ [r]) i
                have h2 := moreF_ge (((l.length + 1 : Nat) : Int) - 3) a r.no (l ++ [r]) (by omega) i
                have h3 := cellLt hS.more
                have h4 := cellLt hS.wasC
                have h5 := cellLt hS.noC
                have e1 : goesF (((l.length + 1 : Nat) : Int) - 3) a r.no (l ++ [r]) i = goB (moreF (((l.length + 1 : Nat) : Int) - 3) a r.no (l ++ [r]) i) a r.no r'.no := by unfold goesF; rw [hi]; rfl
                have e2 : moreF (((l.length + 1 : Nat) : Int) - 3) a r.no (l ++ [r]) (i + 1) = if goB (moreF (((l.length + 1 : Nat) : Int) - 3) a r.no (l ++ [r]) i) a r.no r'.no = true then moreF (((l.length + 1 : Nat) : Int) - 3) a r.no (l ++ [r]) i - 1 else moreF (((l.length + 1 : Nat) : Int) - 3) a r.no (l ++ [r]) i := by rw [moreF, hi]; rfl
                rw [e1, e2]
                exact addc_any wc.heap.size gw (w.heap.size + 1) _ a r.no r' W hS ⟨h2, by omega⟩ (by omega) (by omega) h3 h4 h5)
              (fun i W w' hW hS hb => ⟨(hb.cell (p := ⟨wc.heap.size, 0, none⟩) (by show wc.heap.size < _; omega)).trans hS.more, (hb.frozen (p := ⟨wc.heap.size, 0, none⟩) (by show wc.heap.size < _; omega)).trans hS.free, (hb.cell (p := ⟨gw, 0, none⟩) (by show gw < _; omega)).trans hS.wasC, (hb.cell (p := ⟨w.heap.size + 1, 0, none⟩) (by show w.heap.size + 1 < _; omega)).trans hS.noC⟩)
              ⟨hw9.cell 0, hw9.frozen 0, (hW.be hB9).cell 0, (hV.be hB9).rv0⟩)
          have hZ9 := hZ.be hB9
          have hE9 := below_tr hB hB9
          have HY9 := Sl.mk hY9
          clear hw9 hW hZ hV hB hB9 hO hY9
          go_wp2_with fail
          refine HC9.out.mono ?_
          rintro e w10 ⟨B1, d1, B2, d2, rfl, hrows, _, hG10⟩
          have hadd : ∀ v, selF (goesF (((l.length + 1 : Nat) : Int) - 3) a r.no (l ++ [r])) v (l ++ [r]) (n + 1) = addL v a l r := fun v => by rw [addL, hl]
          simp only [hadd] at hrows ⊢
          clear HC9 hadd
          obtain ⟨L1, hL1⟩ : ∃ L1, addL true a l r = L1 := ⟨_, rfl⟩
          obtain ⟨L2, hL2⟩ : ∃ L2, addL false a l r = L2 := ⟨_, rfl⟩
          rw [hL1, hL2] at hrows ⊢
          have HL1 := Sl.mk hL1
          have HL2 := Sl.mk hL2
          have hZ10 := blk_only hZ9 hG10 (by omega)
          have hY10 := blk_only HY9.out hG10 (by omega)
          have hE10 : Below w.heap.size w w10 := below_only hE9 hG10 hE9.size (by omega)
          have hrows10 : Rows2 w10 (wc.heap.size + 1) _ _ _ _ := ⟨own_mono hrows.own1 (by omega), own_mono hrows.own2 (by omega), hrows.ne⟩
          clear hL1 hL2 hrows hZ9 HY9 hE9 hG10 x0 x1 x2 x3 y0 y1 y2 y3
          obtain ⟨y0, y1, y2, y3⟩ := hY10.c4
          have f3 := hY10.frozen 3
          have hY11 : Blk (w10.setCell ⟨w1.heap.size, 3, none⟩ (.slice B2 L2.length d2)) w1.heap.size 30 #[.string s1, .string s2, .int .i64 r.no, .slice B2 L2.length d2] := blk_set _ _ _ _ 3 _ _ hY10 rfl
          have hZ11 := hZ10.far (p := ⟨w1.heap.size, 3, none⟩) (by show w.heap.size + 2 ≠ w1.heap.size; omega) (.slice B2 L2.length d2)
          have hE11 : Below w.heap.size w (w10.setCell ⟨w1.heap.size, 3, none⟩ (.slice B2 L2.length d2)) := below_only hE10 (only_setCell (only_refl _ _) 3 _) hE10.size (by omega)
          have hrows11 := hrows10.far (only_setCell (only_refl w10 (some w1.heap.size)) 3 (.slice B2 L2.length d2)) (by omega)
          go_wp2_with (first | refine ld_pk hY11 rfl (.tmp 7) rfl rfl rfl ?_ | refine st_pk hZ11 rfl (.tmp 4) (.tmp 75) rfl s1 s2 r.no B2 L2.length d2 rfl rfl rfl ?_)
          intro w12 hZ12 hG12 _
          have hE12 := below_only hE11 hG12 hE11.size (by omega)
          have hrows12 := hrows11.far hG12 (by omega)
          go_wp2_with fail
          refine bodyPost_ret (res_cell_tmp2 Try.results9 _ _ _ rfl hZ12 Try.underlying30 infoPk rfl rfl) rfl ?_
          refine ⟨hE12, .inr ⟨HT.out, B1, d1, B2, d2, ?_, ?_⟩⟩
          · rw [HL1.out, HL2.out]; rfl
          · rw [HL1.out, HL2.out]
            exact ⟨own_mono hrows12.own1 (by omega), own_mono hrows12.own2 (by omega), hrows12.ne⟩
    · have HT := Sl.mk (show addE s1 s2 a l r = 1 by unfold addE; rw [if_neg (by rw [HC.out]; simp), if_neg HI.out, if_pos (.inl (by rw [HE4.out]; exact hE0))])
      have hne' : ((E4 : Int) != 0) = true := by simpa using hE0
      clear hE0
      go_wp2_with fail
      go_quiet (fail)
      go_wp2_with (refine st_pk (hZ5.drewN _) rfl (.tmp 4) (.tmp 50) rfl ⟨#[]⟩ ⟨#[]⟩ 0 none 0 0 rfl rfl rfl ?_)
      intro w8 hZ8 hG8 _
      have hE8 := below_only (below_drN hE5 _) hG8 hE5.size (by omega)
      go_wp2_with fail
      refine bodyPost_ret (res_cell_tmp2 Try.results9 _ _ _ rfl hZ8 Try.underlying30 infoPk rfl rfl) rfl ?_
      exact ⟨hE8, .inl ⟨by rw [HT.out]; simp, by rw [HT.out]; rfl⟩⟩

end Go.Proofs.Ytkmdhmnjohlnaaa
