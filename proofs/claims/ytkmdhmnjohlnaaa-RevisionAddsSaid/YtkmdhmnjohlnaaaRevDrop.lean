/-
  The contract of Drop.
-/
import Derived.Test.YtkmdhmnjohlnaaaRevDr
namespace Go.Proofs.Ytkmdhmnjohlnaaa
open Go.RowKit

/-- What Drop's loop leaves as it is. -/
structure DrK (w wr : World) (gx : Nat) (s1 s2 : ByteArray) (a : Int) (A' : Option Addr) (n c' : Nat) (l : List Rv) (B : Option Addr) (m d : Nat) : Prop where
  Y : Blk wr gx 30 #[.string s1, .string s2, .int .i64 a, .slice A' n c']
  Z : Blk wr (w.heap.size + 2) 30 #[.string { data := #[] }, .string { data := #[] }, .int .i64 0, .slice none 0 0]
  V : Blk wr (w.heap.size + 1) 50 #[.slice B m d]
  own : wr.ownsRow (w.heap.size + 3) 36 34 (.slice A' n c') n (revC l)
  below : Below w.heap.size w wr
theorem DrK.be {w wr w' : World} {gx : Nat} {s1 s2 : ByteArray} {a : Int} {A' : Option Addr} {n c' : Nat} {l : List Rv} {B : Option Addr} {m d : Nat} (h : DrK w wr gx s1 s2 a A' n c' l B m d) (hb : Below wr.heap.size wr w') : DrK w w' gx s1 s2 a A' n c' l B m d :=
  ⟨h.Y.be hb, h.Z.be hb, h.V.be hb, own_below h.own hb, below_tr h.below hb⟩

set_option maxRecDepth 100000 in
set_option maxHeartbeats 4000000 in
theorem drop_any (s1 s2 : ByteArray) (a : Int) (A : Option Addr) (n c : Nat) (l : List Rv) (B : Option Addr) (m d : Nat) (ns : List Int) (w : World) (h1 : s1.size ≤ 9223372036854775807) (h2 : s2.size ≤ 9223372036854775807) (hn : n ≤ 1000000) (hm : m ≤ 9223372036854775807)
    (hR : Reads w w.heap.size 34 A n (revC l)) (hN : Reads w w.heap.size 1 B m (ns.map (Value.int .i64))) :
    Calls Try.prog 22 #[.agg #[.string s1, .string s2, .int .i64 a, .slice A n c], .slice B m d] w (DropPost w s1 s2 a l ns) := by
  obtain ⟨wa, hwa, hRa, hEa, hPa, hVa, hsa⟩ := two_new w s1 s2 a A n c l 50 #[.slice B m d] hR
  have hl := reads_n hR
  have hml : ns.length = m := by simpa using hN.1
  have HML := Sl.mk hml
  obtain ⟨w0, hw0⟩ : ∃ w0, wa.alloc (.cells #[.string { data := #[] }, .string { data := #[] }, .int .i64 0, .slice none 0 0] 30) = w0 := ⟨_, rfl⟩
  have hB0 : Below wa.heap.size wa w0 := by rw [← hw0]; exact below_al (Below.refl _ _) _
  have hZ0 : Blk w0 (w.heap.size + 2) 30 #[.string { data := #[] }, .string { data := #[] }, .int .i64 0, .slice none 0 0] := by rw [← hw0]; exact Blk.new' (by rw [hsa])
  have hs0 : w0.heap.size = w.heap.size + 3 := by rw [← hw0]; simp [hsa]
  have hR0 := Sl.mk ((hRa.out.below hB0).more hB0.size)
  have hP0 := hPa.be hB0
  have hV0 := hVa.be hB0
  have hE0 := below_tr hEa hB0
  have HN0 := Sl.mk hN
  clear hR hRa hEa hPa hVa hB0 hN hml
  go_enter Try.func22, Try.ntmps22
  go_wp2_with fail
  go_step3
  go_wp2_with (refine ld_pk hP0 rfl (.tmp 2) rfl rfl rfl ?_)
  clear hwa hw0 hsa
  refine (checked_any s1 s2 a A n c l _ h1 h2 hn hR0.out).mono ?_
  rintro e w1 ⟨hB1, hpost⟩
  have hE1 := below_tr hE0 hB1
  have hV1 := hV0.be hB1
  have hZ1 := hZ0.be hB1
  have hge1 := hB1.size
  rw [hs0] at hge1
  clear hE0 hP0 hV0 hZ0 hR0
  rcases hpost with ⟨hC, rfl⟩ | ⟨hC, A', c', rfl, hown⟩
  · have HT := Sl.mk (show dropE s1 s2 a l ns = checkF s1 s2 a l by unfold dropE; rw [if_pos hC])
    have HC := Sl.mk hC
    have hne' : (((checkF s1 s2 a l : Nat) : Int) != 0) = true := by simpa using hC
    obtain ⟨E, hE⟩ : ∃ E, ((checkF s1 s2 a l : Nat) : Int) = E := ⟨_, rfl⟩
    have HEE := Sl.mk hE
    rw [hE] at hne' ⊢
    clear hC hE hB1
    go_wp2_with (refine st_pkn rfl (.tmp 7) (.tmp 16) rfl ⟨#[]⟩ ⟨#[]⟩ 0 none 0 0 rfl rfl ?_)
    intro w2 hY2 hB2 hs2
    have hZ2 := hZ1.be hB2
    have hE2 := below_tr hE1 hB2
    clear hY2 hs2 hZ1 hE1 hV1
    go_wp2_with (refine st_pk hZ2 rfl (.tmp 4) (.tmp 20) rfl ⟨#[]⟩ ⟨#[]⟩ 0 none 0 0 rfl rfl rfl ?_)
    intro w3 hZ3 hG3 _
    have hE3 := below_only hE2 hG3 hE2.size (by omega)
    go_wp2_with fail
    rw [Exit.noGoto_ret]
    refine bodyPost_ret (res_cell_tmp2 Try.results22 _ _ _ rfl hZ3 Try.underlying30 infoPk rfl rfl) rfl ?_
    exact ⟨hE3, .inl ⟨by rw [HT.out]; exact HC.out, by rw [HT.out, HEE.out]; rfl⟩⟩
  · have HC := Sl.mk hC
    have hown1 := own_mono (b' := w.heap.size + 3) hown (by omega)
    have hne1 := ownNeLt hown1 (Nat.le_refl _)
    have hl3 := (check_parts hC).2.2.2.1
    clear hC hB1 hown
    go_wp2_with (refine st_pkn rfl (.tmp 7) (.tmp 16) rfl s1 s2 a A' n c' rfl rfl ?_)
    intro w2 hY2 hB2 hs2
    have hZ2 := hZ1.be hB2
    have hE2 := below_tr hE1 hB2
    have hV2 := hV1.be hB2
    have hown2 := own_below hown1 hB2
    have v0 : w2.cell? ⟨w.heap.size + 1, 0, none⟩ = some (.slice B m d) := hV2.cell 0
    clear hs2 hZ1 hE1 hV1 hown1
    go_wp2_with fail
    go_step3
    go_wp2_with fail
    have hK2 : DrK w w2 w1.heap.size s1 s2 a A' n c' l B m d := ⟨hY2, hZ2, hV2, hown2, hE2⟩
    clear hY2 hZ2 hV2 hown2 hE2 hB2 v0
    go_loopw [10, 24] (fun _ s24 wr => ∃ i : Nat, i ≤ m ∧ s24 = .int .i64 i ∧ Hid ((ns.all fun n => hasF n l) = ((ns.drop i).all fun n => hasF n l)) ∧ DrK w wr w1.heap.size s1 s2 a A' n c' l B m d) (fun _ s24 _ => m - (intOf s24).toNat)
    case atStart => exact ⟨0, Nat.zero_le _, rfl, by simp [Hid], hK2⟩
    case round =>
      obtain ⟨i, hi, rfl, HI, hK⟩ := hrel
      clear hK2
      by_cases hil : i < m
      · obtain ⟨y, hy⟩ : ∃ y, ns[i]? = some y := ⟨_, List.getElem?_eq_getElem (by rw [HML.out]; exact hil)⟩
        obtain ⟨ad, u, rfl, hbl, hu, hcx⟩ := HN0.out.at_ hil
        obtain rfl : u = .int .i64 y := by rw [List.getElem?_map, hy] at hu; simpa using hu.symm
        have hcr := (hK.below.cell (p := ad.add i) (by rw [block_of_add]; exact hbl)).trans hcx
        have HD := Sl.mk (drop_consN hy)
        have hRl := Sl.mk (Reads.of_own hK.own)
        clear hy hu hcx
        go_wp2_with (refine ld_pk hK.Y rfl (.tmp 7) rfl rfl rfl ?_)
        refine (at_any s1 s2 a y A' n c' l _ hn hRl.out).mono ?_
        rintro e w3 ⟨rfl, hB3⟩
        have hK3 := hK.be hB3
        clear hK hB3 hcr hRl
        by_cases hix : idxR y l < l.length
        · have hp : placeF y l = ((idxR y l : Nat) : Int) := by unfold placeF; rw [if_pos hix]
          have hh : hasF y l = true := by
            obtain ⟨r, hr, hry⟩ := idx_at y l hix
            exact List.any_eq_true.2 ⟨r, List.mem_of_getElem? hr, by simp [hry]⟩
          have HN := Sl.mk (show (ns.all fun n => hasF n l) = ((ns.drop (i + 1)).all fun n => hasF n l) by rw [HI.out, HD.out, List.all_cons, hh]; rfl)
          rw [hp]
          clear hp hh hix
          go_wp2_with fail
          first
            | exact ⟨⟨i + 1, by omega, by go_num, HN.out, hK3⟩, by simp [intOf]; omega⟩
            | (go_roundw
               case rel => exact ⟨i + 1, by omega, by go_num, HN.out, hK3⟩
               case measure => simp [intOf]; omega)
        · have hp : placeF y l = -1 := by unfold placeF; rw [if_neg hix]
          have hh : hasF y l = false := by
            cases h : hasF y l
            · rfl
            · exact absurd (has_idx y l h) hix
          have HT := Sl.mk (show dropE s1 s2 a l ns = 7 by
            unfold dropE; rw [if_neg (by rw [HC.out]; simp), if_pos (by rw [HI.out, HD.out, List.all_cons, hh]; rfl)])
          rw [hp]
          clear hp hh hix
          go_wp2_with (refine st_pk hK3.Z rfl (.tmp 4) (.tmp 32) rfl ⟨#[]⟩ ⟨#[]⟩ 0 none 0 0 rfl rfl rfl ?_)
          intro w4 hZ4 hG4 _
          have hE4 := below_only hK3.below hG4 hK3.below.size (by omega)
          go_wp2_with fail
          rw [Exit.noGoto_ret]
          refine bodyPost_ret (res_cell_tmp2 Try.results22 _ _ _ rfl hZ4 Try.underlying30 infoPk rfl rfl) rfl ?_
          exact ⟨hE4, .inl ⟨by rw [HT.out]; simp, by rw [HT.out]; rfl⟩⟩
      · obtain rfl : i = m := by omega
        have HA := Sl.mk (show (ns.all fun n => hasF n l) = true by rw [HI.out, List.drop_of_length_le (by rw [HML.out]; omega)]; rfl)
        obtain ⟨y0, y1, y2, y3⟩ := hK.Y.c4
        have v0 : wr.cell? ⟨w.heap.size + 1, 0, none⟩ = some (.slice B i d) := hK.V.cell 0
        have hNr := Sl.mk ((HN0.out.below hK.below).more hK.below.size)
        go_wp2_with fail
        refine (contains_any a B i d ns _ hm hNr.out).mono ?_
        rintro e w3 ⟨rfl, rfl⟩
        cases hBz : hasN a ns
        · have HT := Sl.mk (show dropE s1 s2 a l ns = 0 by
            unfold dropE; rw [if_neg (by rw [HC.out]; simp), HA.out, if_neg (by simp), hBz, if_neg (by simp)])
          have hgx := hK.Y.lt
          have hgv := hK.V.lt
          have hgz := hK.Z.lt
          have hres : ∀ v, selF (fun i => hasN ((l[i]?).getD rv0).no ns) v l n = dropL v l ns := fun v => by
            rw [← hl]
            exact sel_filter (p := fun r => hasN r.no ns) v (fun i r hr => by rw [hr]; rfl)
          have HC9 := Sl.mk (split_any 38 #[.pointer (some ⟨w.heap.size + 1, 0, none⟩)] (enters_of Try.func38 (by kernel_rfl) rfl) (w.heap.size + 1) (fun i => hasN ((l[i]?).getD rv0).no ns)
              (fun _ W => W.cell? ⟨w.heap.size + 1, 0, none⟩ = some (.slice B i d) ∧ Below w.heap.size w W) A' n c' l wr hn hgv (Reads.of_own hK.own)
              (fun ad had => by have := ownGe hK.own (g := ad.block) (by rw [had]; rfl); omega)
              (fun j r' W hj hS => by
                have e1 : hasN ((l[j]?).getD rv0).no ns = hasN r'.no ns := by rw [hj]; rfl
                rw [e1]
                exact (dropc_any (w.heap.size + 1) r' B i d ns W hm (cellLt hS.1) hS.1 ((HN0.out.below hS.2).more hS.2.size)).mono fun e W' ⟨he, hb⟩ =>
                  ⟨he, ⟨cell_later hb hS.1, below_tr hS.2 hb⟩, only_below (only_refl _ _) hb⟩)
              (fun j W w' _ hS hb => ⟨(hb.cell (p := ⟨w.heap.size + 1, 0, none⟩) hgv).trans hS.1, hS.2.trans (hb.mono hK.below.size)⟩)
              ⟨v0, hK.below⟩)
          go_wp2_with fail
          refine HC9.out.mono ?_
          rintro e w10 ⟨B1, d1, B2, d2, rfl, hrows, _, hG10⟩
          simp only [hres] at hrows ⊢
          clear HC9 hres
          obtain ⟨L1, hL1⟩ : ∃ L1, dropL true l ns = L1 := ⟨_, rfl⟩
          obtain ⟨L2, hL2⟩ : ∃ L2, dropL false l ns = L2 := ⟨_, rfl⟩
          rw [hL1, hL2] at hrows ⊢
          have HL1 := Sl.mk hL1
          have HL2 := Sl.mk hL2
          have hZ10 := blk_only hK.Z hG10 (by omega)
          have hY10 := blk_only hK.Y hG10 (by omega)
          have hE10 : Below w.heap.size w w10 := below_only hK.below hG10 hK.below.size (by omega)
          have hrows10 : Rows2 w10 (w1.heap.size + 1) _ _ _ _ := ⟨own_mono hrows.own1 (by omega), own_mono hrows.own2 (by omega), hrows.ne⟩
          clear hL1 hL2 hrows hK hG10 y0 y1 y2 y3 v0 hNr
          obtain ⟨y0, y1, y2, y3⟩ := hY10.c4
          have f3 := hY10.frozen 3
          have hY11 : Blk (w10.setCell ⟨w1.heap.size, 3, none⟩ (.slice B2 L2.length d2)) w1.heap.size 30 #[.string s1, .string s2, .int .i64 a, .slice B2 L2.length d2] := blk_set _ _ _ _ 3 _ _ hY10 rfl
          have hZ11 := hZ10.far (p := ⟨w1.heap.size, 3, none⟩) (by show w.heap.size + 2 ≠ w1.heap.size; omega) (.slice B2 L2.length d2)
          have hE11 : Below w.heap.size w (w10.setCell ⟨w1.heap.size, 3, none⟩ (.slice B2 L2.length d2)) := below_only hE10 (only_setCell (only_refl _ _) 3 _) hE10.size (by omega)
          have hrows11 := hrows10.far (only_setCell (only_refl w10 (some w1.heap.size)) 3 (.slice B2 L2.length d2)) (by omega)
          go_wp2_with (first | refine ld_pk hY11 rfl (.tmp 7) rfl rfl rfl ?_ | refine st_pk hZ11 rfl (.tmp 4) (.tmp 48) rfl s1 s2 a B2 L2.length d2 rfl rfl rfl ?_)
          intro w12 hZ12 hG12 _
          have hE12 := below_only hE11 hG12 hE11.size (by omega)
          have hrows12 := hrows11.far hG12 (by omega)
          go_wp2_with fail
          rw [Exit.noGoto_ret]
          refine bodyPost_ret (res_cell_tmp2 Try.results22 _ _ _ rfl hZ12 Try.underlying30 infoPk rfl rfl) rfl ?_
          refine ⟨hE12, .inr ⟨HT.out, B1, d1, B2, d2, ?_, ?_⟩⟩
          · rw [HL1.out, HL2.out]; rfl
          · rw [HL1.out, HL2.out]
            exact ⟨own_mono hrows12.own1 (by omega), own_mono hrows12.own2 (by omega), hrows12.ne⟩
        · have HT := Sl.mk (show dropE s1 s2 a l ns = 15 by
            unfold dropE; rw [if_neg (by rw [HC.out]; simp), HA.out, if_neg (by simp), hBz, if_pos rfl])
          go_wp2_with (refine st_pk hK.Z rfl (.tmp 4) (.tmp 38) rfl ⟨#[]⟩ ⟨#[]⟩ 0 none 0 0 rfl rfl rfl ?_)
          intro w4 hZ4 hG4 _
          have hE4 := below_only hK.below hG4 hK.below.size (by omega)
          go_wp2_with fail
          rw [Exit.noGoto_ret]
          refine bodyPost_ret (res_cell_tmp2 Try.results22 _ _ _ rfl hZ4 Try.underlying30 infoPk rfl rfl) rfl ?_
          exact ⟨hE4, .inl ⟨by rw [HT.out]; simp, by rw [HT.out]; rfl⟩⟩

end Go.Proofs.Ytkmdhmnjohlnaaa
