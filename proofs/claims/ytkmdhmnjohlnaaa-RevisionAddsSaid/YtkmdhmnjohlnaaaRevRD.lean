/-
  The contracts of creelref23.Find, creelref23.Drop.
-/
import Derived.Test.YtkmdhmnjohlnaaaRevChk
import Derived.Test.YtkmdhmnjohlnaaaRevDr
import Derived.Test.YtkmdhmnjohlnaaaRevSameR
namespace Go.Proofs.Ytkmdhmnjohlnaaa
open Go.RowKit
attribute [local go_sem ↓] Go.wp_at_zero Go.wp_at_succ

set_option maxHeartbeats 1000000 in
theorem rfind_any (no : Int) (A : Option Addr) (n c : Nat) (l : List Rv) (w : World) (hn : n ≤ 1000000) (hR : Reads w w.heap.size 34 A n (revC l)) :
    Calls Try.prog 32 #[.slice A n c, .int .i64 no] w fun e w' => e = .returned (.int .i64 (placeF no l)) ∧ w = w' := by
  have HL := Sl.mk (reads_n hR)
  go_enter Try.func32, Try.ntmps32
  go_wp2_with fail
  go_loopw [5] (fun s5 wr => ∃ i : Nat, i ≤ n ∧ s5 = .int .i64 i ∧ Hid (idxR no l = i + idxR no (l.drop i)) ∧ w = wr) (fun s5 _ => n - (intOf s5).toNat)
  case atStart => exact ⟨0, Nat.zero_le _, rfl, by simp [Hid], rfl⟩
  case round =>
    obtain ⟨i, hi, rfl, HI, rfl⟩ := hrel
    by_cases hil : i < n
    · obtain ⟨r, hr⟩ : ∃ r, l[i]? = some r := ⟨_, List.getElem?_eq_getElem (by rw [HL.out]; exact hil)⟩
      obtain ⟨ad, rfl, hbl, hld, hd0⟩ := reads_load hR hr
      have HD := Sl.mk (drop_cons' hr)
      have e1 : decide ((i : Int) < n) = true := by simp; omega
      clear hr hld
      cases eR : (r.no == no)
      · have hne : ¬ r.no = no := by simpa using eR
        have HN := Sl.mk (show idxR no l = (i + 1) + idxR no (l.drop (i + 1)) by rw [HI.out, HD.out, idxR, if_neg hne]; omega)
        clear hne
        go_wp2_with fail
        first
          | exact ⟨⟨i + 1, by omega, by go_num, HN.out, rfl⟩, by simp [intOf]; omega⟩
          | (go_roundw
             case rel => exact ⟨i + 1, by omega, by go_num, HN.out, trivial⟩
             case measure => simp [intOf]; omega)
      · have he : r.no = no := by simpa using eR
        have HN := Sl.mk (show placeF no l = i by
          have : idxR no l = i := by rw [HI.out, HD.out, idxR, if_pos he]; omega
          unfold placeF; rw [this, if_pos (by rw [HL.out]; exact hil)])
        clear he
        go_wp2_with fail
        go_ret
        exact ⟨by rw [HN.out]; rfl, rfl⟩
    · obtain rfl : i = n := by omega
      have HN := Sl.mk (show placeF no l = -1 by
        have h : l.drop i = [] := List.drop_of_length_le (by rw [HL.out]; omega)
        have h0 := HI.out
        rw [h] at h0
        unfold placeF; rw [if_neg (by rw [HL.out, h0]; simp [idxR])])
      go_wp2_with fail
      go_ret
      exact ⟨by rw [HN.out]; rfl, rfl⟩

/-- Two rows of the document's revisions. -/
structure Rows2R (w : World) (base : Nat) (v1 : Value) (l1 : List Rv) (v2 : Value) (l2 : List Rv) : Prop where
  own1 : w.ownsRow base 27 34 v1 l1.length (revC l1)
  own2 : w.ownsRow base 27 34 v2 l2.length (revC l2)
  ne : ∀ g, v1.ownBlock = some g → v2.ownBlock ≠ some g
theorem Rows2R.below {w w' : World} {base : Nat} {v1 v2 : Value} {l1 l2 : List Rv} (h : Rows2R w base v1 l1 v2 l2) (hb : Below w.heap.size w w') : Rows2R w' base v1 l1 v2 l2 := ⟨own_below h.own1 hb, own_below h.own2 hb, h.ne⟩
theorem Rows2R.far {w w' : World} {base g : Nat} {v1 v2 : Value} {l1 l2 : List Rv} (h : Rows2R w base v1 l1 v2 l2) (hg : w.grownBy w' (some g)) (hb : g < base) : Rows2R w' base v1 l1 v2 l2 :=
  ⟨own_keep h.own1 hg (fun x hx e => by injection hx with hx; have := ownGe h.own1 e; omega), own_keep h.own2 hg (fun x hx e => by injection hx with hx; have := ownGe h.own2 e; omega), h.ne⟩

/-- What the document's Drop leaves as it is, beside its two rows. -/
structure RK (w wr : World) (s1 s2 : ByteArray) (a : Int) (A : Option Addr) (n c : Nat) (A1 : Option Addr) (G : List Rv) (c1 : Nat) (A2 : Option Addr) (K : List Rv) (c2 : Nat) : Prop where
  P : Blk wr w.heap.size 24 #[.string s1, .string s2, .int .i64 a, .slice A n c]
  Z : Blk wr (w.heap.size + 1) 24 #[.string { data := #[] }, .string { data := #[] }, .int .i64 0, .slice none 0 0]
  rows : Rows2R wr (w.heap.size + 2) (.slice A1 G.length c1) G (.slice A2 K.length c2) K
  below : Below w.heap.size w wr
theorem RK.be {w wr w' : World} {s1 s2 : ByteArray} {a : Int} {A : Option Addr} {n c : Nat} {A1 : Option Addr} {G : List Rv} {c1 : Nat} {A2 : Option Addr} {K : List Rv} {c2 : Nat} (h : RK w wr s1 s2 a A n c A1 G c1 A2 K c2) (hb : Below wr.heap.size wr w') : RK w w' s1 s2 a A n c A1 G c1 A2 K c2 :=
  ⟨h.P.be hb, h.Z.be hb, h.rows.below hb, below_tr h.below hb⟩
theorem RK.dr {w wr : World} {s1 s2 : ByteArray} {a : Int} {A : Option Addr} {n c : Nat} {A1 : Option Addr} {G : List Rv} {c1 : Nat} {A2 : Option Addr} {K : List Rv} {c2 : Nat} (h : RK w wr s1 s2 a A n c A1 G c1 A2 K c2) (q : Nat) : RK w (wr.drewN q) s1 s2 a A n c A1 G c1 A2 K c2 :=
  h.be (below_drN (Below.refl _ _) q)

def RDropPost (w : World) (s1 s2 : ByteArray) (a : Int) (l : List Rv) (ns : List Int) (e : Ending) (w' : World) : Prop :=
  Below w.heap.size w w' ∧
    ((dropE s1 s2 a l ns ≠ 0 ∧ e = .returned (.tuple #[.agg #[.string { data := #[] }, .string { data := #[] }, .int .i64 0, .slice none 0 0], .slice none 0 0, .int .i64 (dropE s1 s2 a l ns)])) ∨
     (dropE s1 s2 a l ns = 0 ∧ ∃ A1 c1 A2 c2, e = .returned (.tuple #[.agg #[.string s1, .string s2, .int .i64 a, .slice A2 (dropL false l ns).length c2], .slice A1 (dropL true l ns).length c1, .int .i64 0]) ∧
       Rows2R w' w.heap.size (.slice A1 (dropL true l ns).length c1) (dropL true l ns) (.slice A2 (dropL false l ns).length c2) (dropL false l ns)))

theorem dropL_snoc (v : Bool) (l : List Rv) (r : Rv) (ns : List Int) : dropL v (l ++ [r]) ns = dropL v l ns ++ (if hasN r.no ns = v then [r] else []) := by
  unfold dropL
  rw [List.filter_append]
  congr 1
  by_cases h : hasN r.no ns = v <;> simp [h]
theorem hasN_snoc {x y : Int} {ns : List Int} {k : Nat} (h : ns[k]? = some y) : hasN x (ns.take (k + 1)) = (hasN x (ns.take k) || y == x) := by
  rw [List.take_add_one, h]
  unfold hasN
  rw [List.any_append]
  by_cases e : x = y
  · subst e; simp
  · have e' : (y == x) = false := by simp; exact fun h => e h.symm
    have e'' : (x == y) = false := by simpa using e
    simp [e', e'']

set_option maxRecDepth 100000 in
set_option maxHeartbeats 8000000 in
theorem rdrop_any (s1 s2 : ByteArray) (a : Int) (A : Option Addr) (n c : Nat) (l : List Rv) (B : Option Addr) (m d : Nat) (ns : List Int) (w : World) (h1 : s1.size ≤ 9223372036854775807) (h2 : s2.size ≤ 9223372036854775807) (hn : n ≤ 1000000) (hm : m ≤ 9223372036854775807)
    (hR : Reads w w.heap.size 34 A n (revC l)) (hN : Reads w w.heap.size 1 B m (ns.map (Value.int .i64))) :
    Calls Try.prog 23 #[.agg #[.string s1, .string s2, .int .i64 a, .slice A n c], .slice B m d] w (RDropPost w s1 s2 a l ns) := by
  have hl := reads_n hR
  have hml : ns.length = m := by simpa using hN.1
  have HML := Sl.mk hml
  have HL := Sl.mk hl
  obtain ⟨w0, hw0⟩ : ∃ w0, (w.alloc (.cells #[.string s1, .string s2, .int .i64 a, .slice A n c] 24)).alloc (.cells #[.string { data := #[] }, .string { data := #[] }, .int .i64 0, .slice none 0 0] 24) = w0 := ⟨_, rfl⟩
  have hE0 := below_al (below_al (Below.refl w.heap.size w) (.cells #[.string s1, .string s2, .int .i64 a, .slice A n c] 24)) (.cells #[.string { data := #[] }, .string { data := #[] }, .int .i64 0, .slice none 0 0] 24)
  have hX0 := (Blk.new w 24 #[.string s1, .string s2, .int .i64 a, .slice A n c]).alloc (.cells #[.string { data := #[] }, .string { data := #[] }, .int .i64 0, .slice none 0 0] 24)
  have hZ0 := Blk.new' (w := w.alloc (.cells #[.string s1, .string s2, .int .i64 a, .slice A n c] 24)) (g := w.heap.size + 1) (t := 24) (cs := #[.string { data := #[] }, .string { data := #[] }, .int .i64 0, .slice none 0 0]) (by simp)
  have hs0 : ((w.alloc (.cells #[.string s1, .string s2, .int .i64 a, .slice A n c] 24)).alloc (.cells #[.string { data := #[] }, .string { data := #[] }, .int .i64 0, .slice none 0 0] 24)).heap.size = w.heap.size + 2 := by simp
  rw [hw0] at hE0 hX0 hZ0 hs0
  have HR := Sl.mk hR
  have HN := Sl.mk hN
  have hK0 : RK w w0 s1 s2 a A n c none [] 0 none [] 0 := ⟨hX0, hZ0, ⟨World.ownsRow_nil _ _ _ _, World.ownsRow_nil _ _ _ _, fun x hx => by simp [Value.ownBlock] at hx⟩, hE0⟩
  have hR0 := Sl.mk ((hR.below hE0).more hE0.size)
  clear hR hN hX0 hZ0 hE0 hml hs0
  go_enter Try.func23, Try.ntmps23
  go_wp2_with (refine ld_pkR hK0.P rfl (.tmp 2) rfl rfl rfl ?_)
  clear hw0
  refine (rcheck_any s1 s2 a A n c l _ h1 h2 hn hR0.out).mono ?_
  rintro e w1 ⟨rfl, hB1⟩
  have hK1 := hK0.be hB1
  clear hK0 hB1 hR0
  by_cases hC : checkF s1 s2 a l = 0
  · have HC := Sl.mk hC
    have hhas := (check_parts hC).2.2.2.2.2
    rw [hC]
    clear hC
    obtain ⟨c0, c1', c2', c3⟩ := hK1.P.c4
    go_wp2_with fail
    go_loopw [8] (fun s8 wr => ∃ i : Nat, i ≤ m ∧ s8 = .int .i64 i ∧ Hid ((ns.all fun n => hasF n l) = ((ns.drop i).all fun n => hasF n l)) ∧ RK w wr s1 s2 a A n c none [] 0 none [] 0) (fun s8 _ => m - (intOf s8).toNat)
    case atStart => exact ⟨0, Nat.zero_le _, rfl, by simp [Hid], hK1⟩
    case round =>
      obtain ⟨i, hi, rfl, HI, hK⟩ := hrel
      clear hK1 c0 c1' c2' c3
      obtain ⟨c0, c1', c2', c3⟩ := hK.P.c4
      by_cases hil : i < m
      · obtain ⟨y, hy⟩ : ∃ y, ns[i]? = some y := ⟨_, List.getElem?_eq_getElem (by rw [HML.out]; exact hil)⟩
        obtain ⟨ad, u, rfl, hbl, hu, hcx⟩ := HN.out.at_ hil
        obtain rfl : u = .int .i64 y := by rw [List.getElem?_map, hy] at hu; simpa using hu.symm
        have hcr := (hK.below.cell (p := ad.add i) (by rw [block_of_add]; exact hbl)).trans hcx
        have HD := Sl.mk (drop_consN hy)
        have hRl := fun q => rfind_any y A n c l (wr.drewN q) hn (((HR.out.below hK.below).more hK.below.size).drewN q)
        have e1 : decide ((i : Int) < m) = true := by simp; omega
        have hi0 : (0 : Int) ≤ (i : Int) := by omega
        have hi1 : (i : Int) < (m : Int) := by omega
        clear hy hu hcx
        by_cases hix : idxR y l < l.length
        · have hp : placeF y l = ((idxR y l : Nat) : Int) := by unfold placeF; rw [if_pos hix]
          have hh : hasF y l = true := by
            obtain ⟨r, hr, hry⟩ := idx_at y l hix
            exact List.any_eq_true.2 ⟨r, List.mem_of_getElem? hr, by simp [hry]⟩
          have HNx := Sl.mk (show (ns.all fun n => hasF n l) = ((ns.drop (i + 1)).all fun n => hasF n l) by rw [HI.out, HD.out, List.all_cons, hh]; rfl)
          rw [hp] at hRl
          obtain ⟨kx, hkx⟩ : ∃ kx, idxR y l = kx := ⟨_, rfl⟩
          rw [hkx] at hRl
          clear hp hh hix hkx
          go_wp2_with fail
          go_quiet ((go_at_call 32; exact quiet_lf (hRl _)))
          go_wp2_with fail
          first
            | exact ⟨⟨i + 1, by omega, by go_num, HNx.out, hK.dr _⟩, by simp [intOf]; omega⟩
            | (go_roundw
               case rel => exact ⟨i + 1, by omega, by go_num, HNx.out, hK.dr _⟩
               case measure => simp [intOf]; omega)
        · have hp : placeF y l = -1 := by unfold placeF; rw [if_neg hix]
          have hh : hasF y l = false := by
            cases h : hasF y l
            · rfl
            · exact absurd (has_idx y l h) hix
          have HT := Sl.mk (show dropE s1 s2 a l ns = 7 by
            unfold dropE; rw [if_neg (by rw [HC.out]; simp), if_pos (by rw [HI.out, HD.out, List.all_cons, hh]; rfl)])
          rw [hp] at hRl
          clear hp hh hix
          go_wp2_with fail
          go_quiet ((go_at_call 32; exact quiet_lf (hRl _)))
          go_wp2_with (refine st_pkR (hK.dr _).Z rfl (.tmp 4) (.tmp 34) rfl ⟨#[]⟩ ⟨#[]⟩ 0 none 0 0 rfl rfl rfl ?_)
          intro w4 hZ4 hG4 _
          have hE4 := below_only (hK.dr _).below hG4 (hK.dr _).below.size (by omega)
          go_wp2_with fail
          refine bodyPost_ret (res_cell_tmp2 Try.results23 _ _ _ rfl hZ4 Try.underlying24 infoRef rfl rfl) rfl ?_
          exact ⟨hE4, .inl ⟨by rw [HT.out]; simp, by rw [HT.out]; rfl⟩⟩
      · obtain rfl : m = i := by omega
        have HA := Sl.mk (show (ns.all fun n => hasF n l) = true by rw [HI.out, List.drop_of_length_le (by rw [HML.out]; omega)]; rfl)
        clear hil hi HI
        go_wp2_with fail
        clear c0 c1' c2' c3
        obtain ⟨i0, hi0, hz0, hz1, hz2⟩ := info_parts rvInfoR
        go_loopw [9, 10, 11] (fun s9 s10 s11 wr => ∃ (i : Nat) (A1 : Option Addr) (c1 : Nat) (A2 : Option Addr) (c2 : Nat), i ≤ n ∧ s11 = .int .i64 i ∧ s9 = .slice A1 (dropL true (l.take i) ns).length c1 ∧ s10 = .slice A2 (dropL false (l.take i) ns).length c2 ∧
          RK w wr s1 s2 a A n c A1 (dropL true (l.take i) ns) c1 A2 (dropL false (l.take i) ns) c2 ∧ Hid (∀ r ∈ l.take i, r.no = a → hasN r.no ns = false)) (fun _ _ s11 _ => n - (intOf s11).toNat)
        case atStart => exact ⟨0, none, 0, none, 0, Nat.zero_le _, rfl, rfl, rfl, hK, fun r hr => by simp at hr⟩
        case round =>
          obtain ⟨i, A1, c1, A2, c2, hin, rfl, rfl, rfl, hKi, HBz⟩ := hrel
          clear hK
          obtain ⟨c0, c1', c2', c3⟩ := hKi.P.c4
          by_cases hil : i < n
          · obtain ⟨r, hr⟩ : ∃ r, l[i]? = some r := ⟨_, List.getElem?_eq_getElem (by rw [HL.out]; exact hil)⟩
            obtain ⟨ad, rfl, hbl, hld, hd0⟩ := reads_load (HR.out.below hKi.below) hr
            have HT := Sl.mk (take_snoc hr)
            have e1 : decide ((i : Int) < n) = true := by simp; omega
            have hi0' : (0 : Int) ≤ (i : Int) := by omega
            have hi1' : (i : Int) < (n : Int) := by omega
            have Hr := Sl.mk hr
            clear hr
            go_wp2_with fail
            go_loopw [12, 13] (fun s12 s13 wi => ∃ k q : Nat, k ≤ m ∧ s13 = .int .i64 k ∧ s12 = .bool (hasN r.no (ns.take k)) ∧ wi = wr.drewN q) (fun _ s13 _ => m - (intOf s13).toNat)
            case atStart => exact ⟨0, 0, Nat.zero_le _, rfl, rfl, rfl⟩
            case round =>
              obtain ⟨k, q, hk, rfl, rfl, rfl⟩ := hrel
              by_cases hkm : k < m
              · obtain ⟨y, hy⟩ : ∃ y, ns[k]? = some y := ⟨_, List.getElem?_eq_getElem (by rw [HML.out]; exact hkm)⟩
                obtain ⟨bd, u, rfl, hbl2, hu, hcx⟩ := HN.out.at_ hkm
                obtain rfl : u = .int .i64 y := by rw [List.getElem?_map, hy] at hu; simpa using hu.symm
                have hcr : wr.cell? (bd.add k) = some (.int .i64 y) := (hKi.below.cell (p := bd.add k) (by rw [block_of_add]; exact hbl2)).trans hcx
                have HSt := Sl.mk (hasN_snoc (x := r.no) hy)
                have e2 : decide ((k : Int) < m) = true := by simp; omega
                have hk0 : (0 : Int) ≤ (k : Int) := by omega
                have hk1 : (k : Int) < (m : Int) := by omega
                clear hy hu hcx
                cases eF : hasN r.no (ns.take k)
                · cases eQ : (y == r.no)
                  · have HRn := Sl.mk (show hasN r.no (ns.take (k + 1)) = false by rw [HSt.out, eF, eQ]; rfl)
                    go_wp2_with fail
                    go_quiet (fail)
                    go_wp2_with fail
                    exact ⟨⟨k + 1, _, by omega, by go_num, by rw [HRn.out], rfl⟩, by simp [intOf]; omega⟩
                  · have HRn := Sl.mk (show hasN r.no (ns.take (k + 1)) = true by rw [HSt.out, eF, eQ]; rfl)
                    go_wp2_with fail
                    go_quiet (fail)
                    go_wp2_with fail
                    exact ⟨⟨k + 1, _, by omega, by go_num, by rw [HRn.out], rfl⟩, by simp [intOf]; omega⟩
                · have HRn := Sl.mk (show hasN r.no (ns.take (k + 1)) = true by rw [HSt.out, eF]; simp)
                  go_wp2_with fail
                  go_quiet (fail)
                  go_wp2_with fail
                  exact ⟨⟨k + 1, _, by omega, by go_num, by rw [HRn.out], rfl⟩, by simp [intOf]; omega⟩
              · obtain rfl : m = k := by omega
                have htk : ns.take m = ns := List.take_of_length_le (by rw [HML.out]; omega)
                rw [htk]
                clear htk
                cases eV : hasN r.no ns
                · have hbz : Hid (∀ r ∈ l.take (i + 1), r.no = a → hasN r.no ns = false) := fun x hx hxa => by
                    rw [HT.out] at hx
                    rcases List.mem_append.1 hx with h | h
                    · exact HBz x h hxa
                    · simp at h; subst h; exact eV
                  go_wp2_with fail
                  go_quiet (fail)
                  have hKv := (hKi.dr q).dr nq
                  have hldv : ∀ j v, (rvC r)[j]? = some v → ((wr.drewN q).drewN nq).cell? ((ad.add (i * 34)).add j) = some v := hld
                  have hc3v : ((wr.drewN q).drewN nq).cell? ⟨w.heap.size, 3, none⟩ = some (.slice (some ad) n c) := c3
                  obtain ⟨wv, hwv⟩ : ∃ wv, (wr.drewN q).drewN nq = wv := ⟨_, rfl⟩
                  rw [hwv] at hKv hldv hc3v ⊢
                  clear hwv hKi hld hd0 c0 c1' c2' c3
                  have h34 := rvC_len r
                  have hfold := fold_rv r #[.int .i64 0, .int .u8 0, .int .u8 0, .int .u8 0, .int .u8 0, .int .u8 0, .int .u8 0, .int .u8 0, .int .u8 0, .int .u8 0, .int .u8 0, .int .u8 0, .int .u8 0, .int .u8 0, .int .u8 0, .int .u8 0, .int .u8 0, .int .u8 0, .int .u8 0, .int .u8 0, .int .u8 0, .int .u8 0, .int .u8 0, .int .u8 0, .int .u8 0, .int .u8 0, .int .u8 0, .int .u8 0, .int .u8 0, .int .u8 0, .int .u8 0, .int .u8 0, .int .u8 0, .int .i64 0] (by rfl)
                  have hdl : (dropL false (l.take i) ns).length ≤ 1000000 := by have h5 : (dropL false (l.take i) ns).length ≤ (l.take i).length := List.length_filter_le _ _; rw [List.length_take, HL.out] at h5; omega
                  go_wp2_with (first | refine ld_elR hldv rfl (.tmp 88) rfl rfl ?_ | (at_builtin; refine wpList_append_anyG _ rfl (.tmp 84) (.tmp 90) 22 rfl (w.heap.size + 2) 27 i0 zeroRv 34 48 Try.underlying22 hi0 hz0 hz1 hz2 (by rfl) (by decide) _ _ _ rfl (hKv.rows.own2.alloc _) (wv.heap.size + 1) _ 1 1 (rvC r) rfl (reads_oneR wv r) (rvC_one r) (by unfold maxLen; omega) (by omega) (by have := hKv.Z.lt; simp; omega) ?_))
                  intro v3 w3 hown3 hG3 hb3
                  obtain ⟨A3, c3q, rfl⟩ := ownForm hown3
                  have hB3 : Below (w.heap.size + 2) wv w3 := ((Below.refl _ wv).alloc (by have := hKv.Z.lt; omega) _).grown hG3 (by have := hKv.Z.lt; simp; omega) (fun x hx => ownGe hKv.rows.own2 hx)
                  have hY : dropL false (l.take (i + 1)) ns = dropL false (l.take i) ns ++ [r] := by rw [HT.out, dropL_snoc, if_pos eV]
                  have hNo : dropL true (l.take (i + 1)) ns = dropL true (l.take i) ns := by rw [HT.out, dropL_snoc, if_neg (by rw [eV]; simp), List.append_nil]
                  have hlen : (dropL false (l.take (i + 1)) ns).length = (dropL false (l.take i) ns).length + 1 := by rw [hY]; simp
                  have hrows3 : Rows2R w3 (w.heap.size + 2) (.slice A1 (dropL true (l.take (i + 1)) ns).length c1) (dropL true (l.take (i + 1)) ns) (.slice A3 (dropL false (l.take (i + 1)) ns).length c3q) (dropL false (l.take (i + 1)) ns) := by
                    rw [hlen, hNo]
                    refine ⟨own_keep (hKv.rows.own1.alloc _) hG3 (fun x hx e => hKv.rows.ne x e hx), by rw [hlen, hY, revC_append]; simpa [revC] using hown3, fun x hx => ?_⟩
                    have hx1 := own_lt hKv.rows.own1 hx
                    rcases hb3 with e | e
                    · rw [e]; exact hKv.rows.ne x hx
                    · rw [e]; intro e2; injection e2 with e2; omega
                  have hK3 : RK w w3 s1 s2 a _ n c A1 (dropL true (l.take (i + 1)) ns) c1 A3 (dropL false (l.take (i + 1)) ns) c3q := ⟨hKv.P.below hB3 (by omega), hKv.Z.below hB3 (by omega), hrows3, hKv.below.trans (hB3.mono (by omega))⟩
                  clear hKv hown3 hG3 hb3 hB3 hldv hfold hrows3
                  go_wp2_with fail
                  first
                    | exact ⟨⟨i + 1, A1, c1, A3, c3q, by omega, by go_num, by rw [hNo], by rw [hlen], hK3, hbz⟩, by simp [intOf]; omega⟩
                    | (go_roundw
                       case rel => exact ⟨i + 1, A1, c1, A3, c3q, by omega, by go_num, by rw [hNo], by rw [hlen], hK3, hbz⟩
                       case measure => simp [intOf]; omega)
                · cases eA : (r.no == a)
                  · have hbz : Hid (∀ r ∈ l.take (i + 1), r.no = a → hasN r.no ns = false) := fun x hx hxa => by
                      rw [HT.out] at hx
                      rcases List.mem_append.1 hx with h | h
                      · exact HBz x h hxa
                      · simp at h; subst h; rw [hxa] at eA; simp at eA
                    go_wp2_with fail
                    go_quiet (fail)
                    have hKv := (hKi.dr q).dr nq
                    have hldv : ∀ j v, (rvC r)[j]? = some v → ((wr.drewN q).drewN nq).cell? ((ad.add (i * 34)).add j) = some v := hld
                    have hc3v : ((wr.drewN q).drewN nq).cell? ⟨w.heap.size, 3, none⟩ = some (.slice (some ad) n c) := c3
                    obtain ⟨wv, hwv⟩ : ∃ wv, (wr.drewN q).drewN nq = wv := ⟨_, rfl⟩
                    rw [hwv] at hKv hldv hc3v ⊢
                    clear hwv hKi hld hd0 c0 c1' c2' c3
                    have h34 := rvC_len r
                    have hfold := fold_rv r #[.int .i64 0, .int .u8 0, .int .u8 0, .int .u8 0, .int .u8 0, .int .u8 0, .int .u8 0, .int .u8 0, .int .u8 0, .int .u8 0, .int .u8 0, .int .u8 0, .int .u8 0, .int .u8 0, .int .u8 0, .int .u8 0, .int .u8 0, .int .u8 0, .int .u8 0, .int .u8 0, .int .u8 0, .int .u8 0, .int .u8 0, .int .u8 0, .int .u8 0, .int .u8 0, .int .u8 0, .int .u8 0, .int .u8 0, .int .u8 0, .int .u8 0, .int .u8 0, .int .u8 0, .int .i64 0] (by rfl)
                    have hdl : (dropL true (l.take i) ns).length ≤ 1000000 := by have h5 : (dropL true (l.take i) ns).length ≤ (l.take i).length := List.length_filter_le _ _; rw [List.length_take, HL.out] at h5; omega
                    go_wp2_with (first | refine ld_elR hldv rfl (.tmp 80) rfl rfl ?_ | (at_builtin; refine wpList_append_anyG _ rfl (.tmp 76) (.tmp 82) 22 rfl (w.heap.size + 2) 27 i0 zeroRv 34 48 Try.underlying22 hi0 hz0 hz1 hz2 (by rfl) (by decide) _ _ _ rfl (hKv.rows.own1.alloc _) (wv.heap.size + 1) _ 1 1 (rvC r) rfl (reads_oneR wv r) (rvC_one r) (by unfold maxLen; omega) (by omega) (by have := hKv.Z.lt; simp; omega) ?_))
                    intro v3 w3 hown3 hG3 hb3
                    obtain ⟨A3, c3q, rfl⟩ := ownForm hown3
                    have hB3 : Below (w.heap.size + 2) wv w3 := ((Below.refl _ wv).alloc (by have := hKv.Z.lt; omega) _).grown hG3 (by have := hKv.Z.lt; simp; omega) (fun x hx => ownGe hKv.rows.own1 hx)
                    have hY : dropL true (l.take (i + 1)) ns = dropL true (l.take i) ns ++ [r] := by rw [HT.out, dropL_snoc, if_pos eV]
                    have hNo : dropL false (l.take (i + 1)) ns = dropL false (l.take i) ns := by rw [HT.out, dropL_snoc, if_neg (by rw [eV]; simp), List.append_nil]
                    have hlen : (dropL true (l.take (i + 1)) ns).length = (dropL true (l.take i) ns).length + 1 := by rw [hY]; simp
                    have hrows3 : Rows2R w3 (w.heap.size + 2) (.slice A3 (dropL true (l.take (i + 1)) ns).length c3q) (dropL true (l.take (i + 1)) ns) (.slice A2 (dropL false (l.take (i + 1)) ns).length c2) (dropL false (l.take (i + 1)) ns) := by
                      rw [hlen, hNo]
                      refine ⟨by rw [hlen, hY, revC_append]; simpa [revC] using hown3, own_keep (hKv.rows.own2.alloc _) hG3 (fun x hx e => hKv.rows.ne x hx e), fun x hx e2 => ?_⟩
                      have hx1 := own_lt hKv.rows.own2 e2
                      rcases hb3 with e | e
                      · rw [e] at hx; exact hKv.rows.ne x hx e2
                      · rw [e] at hx; injection hx with hx; omega
                    have hK3 : RK w w3 s1 s2 a _ n c A3 (dropL true (l.take (i + 1)) ns) c3q A2 (dropL false (l.take (i + 1)) ns) c2 := ⟨hKv.P.below hB3 (by omega), hKv.Z.below hB3 (by omega), hrows3, hKv.below.trans (hB3.mono (by omega))⟩
                    clear hKv hown3 hG3 hb3 hB3 hldv hfold hrows3
                    go_wp2_with fail
                    first
                      | exact ⟨⟨i + 1, A3, c3q, A2, c2, by omega, by go_num, by rw [hlen], by rw [hNo], hK3, hbz⟩, by simp [intOf]; omega⟩
                      | (go_roundw
                         case rel => exact ⟨i + 1, A3, c3q, A2, c2, by omega, by go_num, by rw [hlen], by rw [hNo], hK3, hbz⟩
                         case measure => simp [intOf]; omega)
                  · have hra : r.no = a := by simpa using eA
                    have HTx := Sl.mk (show dropE s1 s2 a l ns = 15 by
                      unfold dropE; rw [if_neg (by rw [HC.out]; simp), HA.out, if_neg (by simp), ← hra, eV, if_pos rfl])
                    clear hra
                    go_wp2_with fail
                    go_quiet (fail)
                    go_wp2_with (refine st_pkR (hKi.dr (q + nq)).Z rfl (.tmp 4) (.tmp 74) rfl ⟨#[]⟩ ⟨#[]⟩ 0 none 0 0 rfl rfl rfl ?_)
                    intro w4 hZ4 hG4 _
                    have hE4 := below_only (hKi.dr (q + nq)).below hG4 (hKi.dr (q + nq)).below.size (by omega)
                    go_wp2_with fail
                    refine bodyPost_ret (res_cell_tmp2 Try.results23 _ _ _ rfl hZ4 Try.underlying24 infoRef rfl rfl) rfl ?_
                    exact ⟨hE4, .inl ⟨by rw [HTx.out]; simp, by rw [HTx.out]; rfl⟩⟩
          · obtain rfl : n = i := by omega
            have ht : l.take n = l := List.take_of_length_le (by rw [HL.out]; omega)
            rw [ht] at hKi HBz ⊢
            have HTx := Sl.mk (show dropE s1 s2 a l ns = 0 by
              obtain ⟨r0, hr0, hra⟩ := idx_at a l (has_idx a l hhas)
              have := HBz r0 (List.mem_of_getElem? hr0) hra
              rw [hra] at this
              unfold dropE; rw [if_neg (by rw [HC.out]; simp), HA.out, if_neg (by simp), this, if_neg (by simp)])
            obtain ⟨L1, hL1⟩ : ∃ L1, dropL true l ns = L1 := ⟨_, rfl⟩
            obtain ⟨L2, hL2⟩ : ∃ L2, dropL false l ns = L2 := ⟨_, rfl⟩
            rw [hL1, hL2] at hKi ⊢
            have HL1 := Sl.mk hL1
            have HL2 := Sl.mk hL2
            clear hL1 hL2 ht HBz hil
            have f3 := hKi.P.frozen 3
            have hP2 : Blk (wr.setCell ⟨w.heap.size, 3, none⟩ (.slice A2 L2.length c2)) w.heap.size 24 #[.string s1, .string s2, .int .i64 a, .slice A2 L2.length c2] := blk_set _ _ _ _ 3 _ _ hKi.P rfl
            have hZ2 := hKi.Z.far (p := ⟨w.heap.size, 3, none⟩) (by show w.heap.size + 1 ≠ w.heap.size; omega) (.slice A2 L2.length c2)
            have hE2 : Below w.heap.size w (wr.setCell ⟨w.heap.size, 3, none⟩ (.slice A2 L2.length c2)) := below_only hKi.below (only_setCell (only_refl _ _) 3 _) hKi.below.size (Nat.le_refl _)
            have hrows2 := hKi.rows.far (only_setCell (only_refl wr (some w.heap.size)) 3 (.slice A2 L2.length c2)) (by omega)
            go_wp2_with (first | refine ld_pkR hP2 rfl (.tmp 2) rfl rfl rfl ?_ | refine st_pkR hZ2 rfl (.tmp 4) (.tmp 94) rfl s1 s2 a A2 L2.length c2 rfl rfl rfl ?_)
            intro w5 hZ5 hG5 _
            have hE5 := below_only hE2 hG5 hE2.size (by omega)
            have hrows5 := hrows2.far hG5 (by omega)
            go_wp2_with fail
            refine bodyPost_ret (res_cell_tmp2 Try.results23 _ _ _ rfl hZ5 Try.underlying24 infoRef rfl rfl) rfl ?_
            refine ⟨hE5, .inr ⟨HTx.out, A1, c1, A2, c2, by rw [HL1.out, HL2.out]; rfl, ?_⟩⟩
            rw [HL1.out, HL2.out]
            exact ⟨own_mono hrows5.own1 (by omega), own_mono hrows5.own2 (by omega), hrows5.ne⟩
  · have HC := Sl.mk hC
    have HT := Sl.mk (show dropE s1 s2 a l ns = checkF s1 s2 a l by unfold dropE; rw [if_pos hC])
    have hne' : (((checkF s1 s2 a l : Nat) : Int) != 0) = true := by simpa using hC
    obtain ⟨E, hE⟩ : ∃ E, ((checkF s1 s2 a l : Nat) : Int) = E := ⟨_, rfl⟩
    have HEE := Sl.mk hE
    rw [hE] at hne' ⊢
    clear hC hE
    go_wp2_with (refine st_pkR hK1.Z rfl (.tmp 4) (.tmp 18) rfl ⟨#[]⟩ ⟨#[]⟩ 0 none 0 0 rfl rfl rfl ?_)
    intro w3 hZ3 hG3 _
    have hE3 := below_only hK1.below hG3 hK1.below.size (by omega)
    go_wp2_with fail
    refine bodyPost_ret (res_cell_tmp2 Try.results23 _ _ _ rfl hZ3 Try.underlying24 infoRef rfl rfl) rfl ?_
    exact ⟨hE3, .inl ⟨by rw [HT.out]; exact HC.out, by rw [HT.out, HEE.out]; rfl⟩⟩

end Go.Proofs.Ytkmdhmnjohlnaaa
