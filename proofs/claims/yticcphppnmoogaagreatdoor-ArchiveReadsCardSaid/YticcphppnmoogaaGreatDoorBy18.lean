/-
  What Decode finds, as a function; the contract of bytes.HasPrefix with four bytes.
  The contract of archive.Decode.
  What is read of an entry's bytes (plain).
  Entries there and back (plain).
  Bytes there and back (plain).
-/
import Derived.Test.YticcphppnmoogaaGreatDoorBy17
import Derived.Test.YticcphppnmoogaaGreatDoorBy4

namespace Go.Proofs.YticcphppnmoogaaGreatDoor
open Go.RowKit
attribute [local go_sem ↓] Go.wp_at_zero Go.wp_at_succ

def toEx (e : En) : Ex := ⟨e, none, 0, none, 0⟩
def bare (l : List Ex) : List Ex := l.map fun x => toEx x.e
theorem idxE_bare (q : List ByteArray) : ∀ l : List Ex, idxE q (bare l) = idxE q l
  | [] => rfl
  | x :: l => by
    show idxE q (toEx x.e :: bare l) = _
    unfold idxE
    rw [idxE_bare q l]; rfl
theorem bare_len (l : List Ex) : (bare l).length = l.length := by simp [bare]
theorem parK_bare (q : List ByteArray) (l : List Ex) : parK q (bare l) = parK q l := by
  unfold parK
  rw [idxE_bare]
  simp only [bare, List.getElem?_map]
  cases l[idxE q l]? <;> rfl
theorem placeE_bare (p : List ByteArray) (l : List Ex) : placeE p (bare l) = placeE p l := by
  unfold placeE
  rw [idxE_bare, bare_len, parK_bare]
theorem refusedE_bare (e : En) (l : List Ex) : refusedE e (bare l) = refusedE e l := by
  have h : ∀ i, chkE e (bare l) i = chkE e l i := fun i => by
    unfold chkE
    rw [placeE_bare]
  unfold refusedE
  simp only [h]
theorem nextE_bare (b : List Nat) (s : Bool) (l : List Ex) : nextE b s (bare l) = nextE b s l := by
  unfold nextE
  rw [refusedE_bare]

def decF : Nat → List Nat → List En → Option (List En × List Nat)
  | 0, b, l => some (l, b)
  | n + 1, b, l => if nextE b false (l.map toEx) = 0 then decF n (readF b false).b (l ++ [entF (readF b false)]) else none
def crel : List Nat := [67, 82, 69, 76]
def decodeF (b : List Nat) : Option (List En) :=
  if eqB (b.take 4) crel = true ∧ 5 ≤ b.length ∧ b.getD 4 0 ≤ 40 then (decF (b.getD 4 0) (b.drop 5) []).bind fun r => if r.2 = [] then some r.1 else none
  else none

theorem bhas_any (A A2 : Option Addr) (n c d : Nat) (p : List Nat) (w : World) (hp : ∀ b ∈ p, b < 256) (hn : n ≤ 1000000000) (hc : n ≤ c) (hR1 : Reads w w.heap.size 1 A n (u8s p)) (hR2 : Reads w w.heap.size 1 A2 4 (u8s crel)) :
    Calls Tryz.prog 19 #[.slice A n c, .slice A2 4 d] w fun e w' => e = .returned (.bool (eqB (p.take 4) crel)) ∧ w' = w := by
  have hl := bytes_n hR1
  by_cases h4 : 4 ≤ n
  · have hR3 : Reads w w.heap.size 1 A 4 (u8s (p.take 4)) := by
      have := reads_take hR1 (k := 4) h4
      simpa [u8s, List.map_take] using this
    have HE := Sl.mk (bequal_any A A2 4 c 4 d (p.take 4) crel w (fun b hb => hp b (List.mem_of_mem_take hb)) (by decide) hR3 hR2)
    have hge : (n : Int) ≥ 4 := by omega
    have hc4 : 4 ≤ c := by omega
    clear hp hR1 hR2 hR3 hl
    go_enter Tryz.func19, Tryz.ntmps19
    go_wp2_with fail
    refine HE.out.mono ?_
    rintro e w' ⟨rfl, rfl⟩
    go_wp2_with fail
    go_ret
    exact ⟨rfl, rfl⟩
  · have hge : ¬ (n : Int) ≥ 4 := by omega
    have HF := Sl.mk (show eqB (p.take 4) crel = false by
      unfold eqB
      simp only [decide_eq_false_iff_not]
      intro h
      have := congrArg List.length h
      rw [List.length_take] at this
      simp [crel] at this
      omega)
    clear hp hR1 hR2 hl
    go_enter Tryz.func19, Tryz.ntmps19
    go_wp2_with fail
    go_ret
    exact ⟨by rw [HF.out]; rfl, rfl⟩

end Go.Proofs.YticcphppnmoogaaGreatDoor

namespace Go.Proofs.YticcphppnmoogaaGreatDoor
open Go.RowKit
attribute [local go_sem ↓] Go.wp_at_zero Go.wp_at_succ

theorem reads_mark (w : World) (l : List Nat) (t : TypeId) (fr : Nat × Nat) : Reads (w.alloc (.cells (u8s l).toArray t fr)) (w.heap.size + 1) 1 (some ⟨w.heap.size, 0, none⟩) l.length (u8s l) :=
  ⟨by rw [u8s_len, Nat.mul_one], fun _ => ⟨_, rfl, Nat.lt_succ_self _, fun j u hj => by
    rw [addr_add0, World.cell?_alloc_mark]
    simpa using hj⟩⟩
theorem readF_byte {b : List Nat} {s : Bool} (h : ∀ x ∈ b, x < 256) : ∀ x ∈ (readF b s).b, x < 256 := by
  have h3 := restV_byte (n := 1) (restV_byte (n := 2) (restV_byte (n := 1) h))
  have h4 := restV_byte (n := numF (takeV 1 (restV 2 (restV 1 b)))) h3
  have h5 := restV_byte (n := 2) h4
  have h6 := restV_byte (n := numF (takeV 2 (restV (numF (takeV 1 (restV 2 (restV 1 b)))) (restV 1 (restV 2 (restV 1 b)))))) h5
  have h7 := restV_byte (n := 8) h6
  simp only [readF]
  exact h7
theorem nextE_s {b : List Nat} {s : Bool} {l : List Ex} (h : nextE b s l = 0) : (readF b s).s = false := by
  unfold nextE at h
  split at h
  · cases h
  · simpa using ‹¬ (readF b s).s = true›
theorem map_bare (l : List Ex) : (l.map (·.e)).map toEx = bare l := by simp [bare]
theorem decF_ok {k : Nat} {b : List Nat} {l : List Ex} (h : nextE b false l = 0) : decF (k + 1) b (l.map (·.e)) = decF k (readF b false).b (l.map (·.e) ++ [entF (readF b false)]) := by
  show (if nextE b false ((l.map (·.e)).map toEx) = 0 then _ else _) = _
  rw [map_bare, nextE_bare, if_pos h]
theorem decF_bad {k : Nat} {b : List Nat} {l : List Ex} (h : ¬ nextE b false l = 0) : decF (k + 1) b (l.map (·.e)) = none := by
  show (if nextE b false ((l.map (·.e)).map toEx) = 0 then _ else _) = _
  rw [map_bare, nextE_bare, if_neg h]

/-- Where something is wrong with bytes, and what. -/
def errK : Nat → Nat → List Nat → List En → Nat × Int
  | 0, i, b, _ => (i, if b = [] then 0 else 3)
  | n + 1, i, b, l => if nextE b false (l.map toEx) = 0 then errK n (i + 1) (readF b false).b (l ++ [entF (readF b false)]) else (i, nextE b false (l.map toEx))
def decodeN (b : List Nat) : Nat × Int :=
  if eqB (b.take 4) crel = false then (0, 3) else if b.length < 5 then (0, 4) else if 40 < b.getD 4 0 then (0, 2) else errK (b.getD 4 0) 0 (b.drop 5) []
theorem errK_ok {k i : Nat} {b : List Nat} {l : List Ex} (h : nextE b false l = 0) : errK (k + 1) i b (l.map (·.e)) = errK k (i + 1) (readF b false).b (l.map (·.e) ++ [entF (readF b false)]) := by
  show (if nextE b false ((l.map (·.e)).map toEx) = 0 then _ else _) = _
  rw [map_bare, nextE_bare, if_pos h]
theorem errK_bad {k i : Nat} {b : List Nat} {l : List Ex} (h : ¬ nextE b false l = 0) : errK (k + 1) i b (l.map (·.e)) = (i, nextE b false l) := by
  show (if nextE b false ((l.map (·.e)).map toEx) = 0 then _ else (i, nextE b false ((l.map (·.e)).map toEx))) = _
  rw [map_bare, nextE_bare, if_neg h]
def DecPost (w : World) (b : List Nat) (e : Ending) (w' : World) : Prop := Below w.heap.size w w' ∧
  ((decodeF b = none ∧ ∃ (N : Nat) (E : Int), E ≠ 0 ∧ decodeN b = (N, E) ∧ e = .returned (.tuple #[.slice none 0 0, .int .i64 N, .int .i64 E])) ∨
   (∃ (A : Option Addr) (m c : Nat) (l : List Ex), e = .returned (.tuple #[.slice A m c, .int .i64 m, .int .i64 0]) ∧ decodeN b = (m, 0) ∧ decodeF b = some (l.map (·.e)) ∧ Exs w' A m l ∧ m ≤ 40 ∧ m ≤ c ∧ c ≤ 9223372036854775807))

set_option maxRecDepth 100000 in
set_option maxHeartbeats 8000000 in
theorem decode_any (A : Option Addr) (n c : Nat) (b : List Nat) (w : World) (hn : n ≤ 1000000000) (hc : n ≤ c ∧ c ≤ 9223372036854775807) (hby : ∀ x ∈ b, x < 256) (hR : Reads w w.heap.size 1 A n (u8s b)) (hM : Mx w) (hT : Tabs w) :
    Calls Tryz.prog 5 #[.slice A n c] w (DecPost w b) := by
  have hl := bytes_n hR
  have kc := fun (w : World) (C : Array Value) (n c : Nat) => Lib.run_convert_bytes_const (P := Tryz.prog) w 22 5 C n c Tryz.underlying22 Tryz.underlying5
  have hs1 : (w.alloc (.cells #[.slice A n c, .bool false, .slice none 0 0] 60)).heap.size = w.heap.size + 1 := by simp
  have hb1 : Below w.heap.size w (w.alloc (.cells #[.slice A n c, .bool false, .slice none 0 0] 60)) := below_al (Below.refl _ _) _
  have hB1 := Blk.new w 60 #[.slice A n c, .bool false, .slice none 0 0]
  obtain ⟨w1, hw1⟩ : ∃ w1, w.alloc (.cells #[.slice A n c, .bool false, .slice none 0 0] 60) = w1 := ⟨_, rfl⟩
  rw [hw1] at hs1 hb1 hB1
  have hm := reads_mark w1 crel 5 (4, 5)
  have hb2 : Below w1.heap.size w1 (w1.alloc (.cells (u8s crel).toArray 5 (4, 5))) := (Below.refl _ _).alloc (Nat.le_refl _) _
  have hs2 : (w1.alloc (.cells (u8s crel).toArray 5 (4, 5))).heap.size = w1.heap.size + 1 := by simp
  have hcr : (u8s crel).toArray = #[.int .u8 67, .int .u8 82, .int .u8 69, .int .u8 76] := rfl
  rw [hcr] at hm hb2 hs2
  obtain ⟨w2, hw2⟩ : ∃ w2, w1.alloc (.cells #[.int .u8 67, .int .u8 82, .int .u8 69, .int .u8 76] 5 (4, 5)) = w2 := ⟨_, rfl⟩
  rw [hw2] at hm hb2 hs2
  have hE2 := below_tr hb1 hb2
  have hR2 := hR.below hE2
  have hRst : Rst w w2 w.heap.size b false none 0 0 [] := ⟨⟨⟨A, c, by rw [hl]; exact hB1.below hb2 hB1.lt, by rw [hl]; exact hR2, by omega, by omega⟩, Nat.le_refl _⟩, World.ownsRow_nil _ _ _ _, fun x hx => (by cases hx), hE2⟩
  have HHP := Sl.mk (bhas_any A (some ⟨w1.heap.size, 0, none⟩) n c 4 b w2 hby hn hc.1 (hR2.more hE2.size) (hm.more (by omega)))
  have HS2 := Sl.mk hRst
  have HY := Sl.mk hby
  have HL := Sl.mk hl
  have HM := Sl.mk hM
  have HT := Sl.mk hT
  clear hR hl hs1 hb1 hB1 hm hb2 hs2 hcr hE2 hR2 hRst hby hM hT
  go_enter Tryz.func5, Tryz.ntmps5
  go_wp2_with fail
  clear hw1 hw2
  refine HHP.out.mono ?_
  rintro e w3 ⟨rfl, rfl⟩
  cases hP : eqB (b.take 4) crel
  · have HD := Sl.mk (show decodeF b = none by unfold decodeF; rw [if_neg (by rw [hP]; simp)])
    have HDN := Sl.mk (show decodeN b = (0, 3) from if_pos hP)
    clear hP HHP kc
    go_wp2_with fail
    go_ret3
    exact ⟨HS2.out.be, .inl ⟨HD.out, 0, 3, by decide, HDN.out, rfl⟩⟩
  · have HP := Sl.mk hP
    have hl4 : 4 ≤ b.length := by
      have h := hP
      unfold eqB at h
      have h := congrArg List.length (of_decide_eq_true h)
      rw [List.length_take] at h
      simp [crel] at h
      omega
    have HT4 := Sl.mk (take_any w.heap.size w.heap.size 4 b false (.slice none 0 0) w3 (by omega) HS2.out.rd)
    have hr4 : restV 4 b = b.drop 4 := if_neg (by omega)
    have hh4 : shortV 4 b false = false := if_neg (by omega)
    unfold TakePost at HT4
    rw [hr4, hh4] at HT4
    have HL4 := Sl.mk hl4
    clear hP HHP kc hl4 hr4 hh4
    go_wp2_with fail
    refine HT4.out.mono ?_
    rintro e w4 ⟨A4, c4, rfl, -, hr, hG⟩
    have HS4 := Sl.mk (HS2.out.step hr hG)
    have HN5 := Sl.mk (number_any w.heap.size w.heap.size 1 (b.drop 4) false (.slice none 0 0) w4 (by omega) (fun x hx => HY.out x (List.mem_of_mem_drop hx)) hr)
    unfold NumPost at HN5
    clear hr hG HT4
    go_wp2_with fail
    refine HN5.out.mono ?_
    rintro e w5 ⟨rfl, hr, hG⟩
    have HS5 := Sl.mk (HS4.out.step hr hG)
    clear hr hG HN5 HS4 HS2
    obtain ⟨Ab5, cb5, hbk5, -⟩ := HS5.out.rd.blk
    have d1 := hbk5.cell 1
    clear hbk5
    by_cases hl5 : 5 ≤ b.length
    · have hsv : shortV 1 (b.drop 4) false = false := if_neg (by rw [List.length_drop]; omega)
      have hrv : restV 1 (b.drop 4) = b.drop 5 := by unfold restV; rw [if_neg (by rw [List.length_drop]; omega), List.drop_drop]
      have htv : numF (takeV 1 (b.drop 4)) = b.getD 4 0 := by
        unfold takeV
        rw [if_neg (by rw [List.length_drop]; omega)]
        obtain ⟨y, hy⟩ : ∃ y, b[4]? = some y := ⟨_, List.getElem?_eq_getElem (by omega)⟩
        have : (b.drop 4).take 1 = [y] := by
          rw [List.take_one, List.head?_drop, hy]; rfl
        rw [this, List.getD_eq_getElem?_getD, hy]
        show 0 * 256 + y = y
        omega
      rw [hsv, hrv] at HS5
      rw [hsv] at d1
      rw [htv]
      have hN256 : b.getD 4 0 ≤ 255 := by
        obtain ⟨y, hy⟩ : ∃ y, b[4]? = some y := ⟨_, List.getElem?_eq_getElem (by omega)⟩
        have := HY.out y (List.mem_of_getElem? hy)
        rw [List.getD_eq_getElem?_getD, hy]
        show y ≤ 255
        omega
      obtain ⟨N, hN⟩ : ∃ N, b.getD 4 0 = N := ⟨_, rfl⟩
      rw [hN] at hN256 ⊢
      have HN := Sl.mk (And.intro hN hl5)
      clear hsv hrv htv hN hl5
      by_cases h40 : N ≤ 40
      · have hD : decodeF b = (decF N (b.drop 5) []).bind fun r => if r.2 = [] then some r.1 else none := by
          unfold decodeF
          rw [if_pos ⟨HP.out, HN.out.2, by rw [HN.out.1]; exact h40⟩, HN.out.1]
        have HD := Sl.mk hD
        have HDN := Sl.mk (show decodeN b = errK N 0 (b.drop 5) [] by unfold decodeN; rw [if_neg (by rw [HP.out]; simp), if_neg (by have := HN.out.2; omega), HN.out.1, if_neg (by omega)])
        have h40' : ¬ (N : Int) > 40 := by omega
        clear hD
        have hyb : ∀ x ∈ b.drop 5, x < 256 := fun x hx => HY.out x (List.mem_of_mem_drop hx)
        obtain ⟨b5, hb5⟩ : ∃ b5, b.drop 5 = b5 := ⟨_, rfl⟩
        rw [hb5] at HS5 HD HDN hyb
        have HYB := Sl.mk hyb
        clear hb5 hyb
        go_wp2_with fail
        go_loopw [7, 8, 36] (fun _ _ v36 wr => ∃ (i : Nat) (bi : List Nat) (Ai : Option Addr) (ci : Nat) (li : List Ex), i ≤ N ∧ v36 = .int .i64 i ∧ Rst w wr w.heap.size bi false Ai i ci li ∧ (∀ x ∈ bi, x < 256) ∧ decF N b5 [] = decF (N - i) bi (li.map (·.e)) ∧ errK N 0 b5 [] = errK (N - i) i bi (li.map (·.e))) (fun _ _ v36 _ => N - (intOf v36).toNat)
        case atStart => exact ⟨0, b5, none, 0, [], Nat.zero_le _, rfl, HS5.out, HYB.out, rfl, rfl⟩
        case round =>
          obtain ⟨i, bi, Ai, ci, li, hi, rfl, hst, hyi, hdec, herr⟩ := hrel
          clear d1
          by_cases hil : i < N
          · have HNX := Sl.mk (next_any w wr w.heap.size bi false Ai i ci li hyi hst (by omega) HM.out HT.out)
            unfold NextPost at HNX
            have hNi : N - i = (N - i - 1) + 1 := by omega
            rw [hNi] at hdec herr
            have HDE := Sl.mk hdec
            have HER := Sl.mk herr
            have HYI := Sl.mk hyi
            clear hst hyi hdec herr hNi
            obtain ⟨E, hE⟩ : ∃ E, nextE bi false li = E := ⟨_, rfl⟩
            rw [hE] at HNX
            by_cases hE0 : E = 0
            · subst hE0
              have HOK := Sl.mk hE
              clear hE
              go_wp2_with fail
              refine HNX.out.mono ?_
              rintro e w6 ⟨rfl, hB6, hn6⟩
              obtain ⟨A6, c6, x, hxe, hst6⟩ := hn6 trivial
              rw [nextE_s HOK.out] at hst6
              have hd6 := HDE.out.trans (decF_ok HOK.out)
              have he6 := HER.out.trans (errK_ok HOK.out)
              have HG := Sl.mk (show Rst w w6 w.heap.size (readF bi false).b false A6 (i + 1) c6 (li ++ [x]) ∧ (∀ y ∈ (readF bi false).b, y < 256) ∧ decF N b5 [] = decF (N - (i + 1)) (readF bi false).b ((li ++ [x]).map (·.e)) ∧ errK N 0 b5 [] = errK (N - (i + 1)) (i + 1) (readF bi false).b ((li ++ [x]).map (·.e)) from
                ⟨hst6, readF_byte HYI.out, by rw [hd6, List.map_append, List.map_cons, List.map_nil, hxe, Nat.sub_sub], by rw [he6, List.map_append, List.map_cons, List.map_nil, hxe, Nat.sub_sub]⟩)
              clear hxe hst6 hd6 he6 hn6 HNX
              go_wp2_with fail
              go_roundw
              case rel => exact ⟨i + 1, _, A6, c6, li ++ [x], by omega, by go_num, HG.out⟩
              case measure => simp [intOf]; omega
            · have HD2 := Sl.mk (show decodeF b = none by
                rw [HD.out, HDE.out, decF_bad (by rw [hE]; exact hE0)]; rfl)
              have HDN2 := Sl.mk (show decodeN b = (i, E) by rw [HDN.out, HER.out, errK_bad (by rw [hE]; exact hE0), hE])
              have HNE := Sl.mk hE0
              have hne : (E != 0) = true := by simpa using hE0
              clear hE hE0
              go_wp2_with fail
              refine HNX.out.mono ?_
              rintro e w6 ⟨rfl, hB6, -⟩
              clear HNX
              go_wp2_with fail
              go_ret3
              exact ⟨hB6, .inl ⟨HD2.out, i, E, HNE.out, HDN2.out, rfl⟩⟩
          · obtain rfl : i = N := by omega
            rw [Nat.sub_self] at hdec herr
            have HDE := Sl.mk (show decF i b5 [] = some (li.map (·.e), bi) from hdec)
            have HER := Sl.mk (show errK i 0 b5 [] = (i, if bi = [] then 0 else 3) from herr)
            have HST := Sl.mk hst
            obtain ⟨Ab, cb, hbk, -⟩ := hst.rd.blk
            have d0 := hbk.cell 0
            have d2 := hbk.cell 2
            obtain ⟨q, hq⟩ : ∃ q, bi.length = q := ⟨_, rfl⟩
            rw [hq] at d0
            have HQ := Sl.mk hq
            clear hdec herr hst hbk hyi hq
            by_cases hq0 : q = 0
            · subst hq0
              have hbi : bi = [] := List.eq_nil_of_length_eq_zero HQ.out
              have HD2 := Sl.mk (show decodeF b = some (li.map (·.e)) by rw [HD.out, HDE.out, hbi]; rfl)
              have HDN2 := Sl.mk (show decodeN b = (i, 0) by rw [HDN.out, HER.out, if_pos hbi])
              clear hbi
              go_wp2_with fail
              go_ret3
              have hcap := ownCapS HST.out.own
              exact ⟨HST.out.be, .inr ⟨Ai, i, ci, li, rfl, HDN2.out, HD2.out, ⟨Reads.of_own HST.out.own, fun x hx => (HST.out.ex x hx).ok⟩, h40, hcap⟩⟩
            · have hbi : ¬ bi = [] := fun e => hq0 (by rw [← HQ.out, e]; rfl)
              have HD2 := Sl.mk (show decodeF b = none by rw [HD.out, HDE.out]; show (if bi = [] then _ else _) = _; rw [if_neg hbi])
              have HDN2 := Sl.mk (show decodeN b = (i, 3) by rw [HDN.out, HER.out, if_neg hbi])
              have hgt : (q : Int) > 0 := by omega
              clear hbi hq0
              go_wp2_with fail
              go_ret3
              exact ⟨HST.out.be, .inl ⟨HD2.out, i, 3, by decide, HDN2.out, rfl⟩⟩
      · have HD := Sl.mk (show decodeF b = none by unfold decodeF; rw [if_neg (fun h => h40 (by rw [← HN.out.1]; exact h.2.2))])
        have HDN := Sl.mk (show decodeN b = (0, 2) by unfold decodeN; rw [if_neg (by rw [HP.out]; simp), if_neg (by have := HN.out.2; omega), HN.out.1, if_pos (by omega)])
        have h40' : (N : Int) > 40 := by omega
        have hbe := HS5.out.be
        clear h40
        go_wp2_with fail
        go_ret3
        exact ⟨hbe, .inl ⟨HD.out, 0, 2, by decide, HDN.out, rfl⟩⟩
    · have hsv : shortV 1 (b.drop 4) false = true := if_pos (by rw [List.length_drop]; omega)
      have HD := Sl.mk (show decodeF b = none by unfold decodeF; rw [if_neg (fun h => hl5 h.2.1)])
      have HDN := Sl.mk (show decodeN b = (0, 4) by unfold decodeN; rw [if_neg (by rw [HP.out]; simp), if_pos (by omega)])
      rw [hsv] at d1
      have hbe := HS5.out.be
      obtain ⟨NN, hNN⟩ : ∃ NN, numF (takeV 1 (b.drop 4)) = NN := ⟨_, rfl⟩
      rw [hNN]
      clear hsv hl5 hNN
      go_wp2_with fail
      go_ret3
      exact ⟨hbe, .inl ⟨HD.out, 0, 4, by decide, HDN.out, rfl⟩⟩

end Go.Proofs.YticcphppnmoogaaGreatDoor

namespace Go.Proofs.YticcphppnmoogaaGreatDoor
open Go.RowKit

theorem takeV_app {n : Nat} {x r : List Nat} (h : x.length = n) : takeV n (x ++ r) = x := by
  unfold takeV
  rw [if_neg (by rw [List.length_append]; omega), ← h, List.take_left']
  rfl
theorem restV_app {n : Nat} {x r : List Nat} (h : x.length = n) : restV n (x ++ r) = r := by
  unfold restV
  rw [if_neg (by rw [List.length_append]; omega), ← h, List.drop_left']
  rfl
theorem shortV_app {n : Nat} {x r : List Nat} {s : Bool} (h : x.length = n) : shortV n (x ++ r) s = s := by
  unfold shortV
  rw [if_neg (by rw [List.length_append]; omega)]
theorem num1 {k : Int} (h0 : 0 ≤ k) (h1 : k < 256) : numF [b8 k] = k.toNat := by
  show 0 * 256 + b8 k = _
  unfold b8; omega
theorem num2 {m : Int} (h0 : 0 ≤ m) (h1 : m < 65536) : numF [b8 (m / 256), b8 m] = m.toNat := by
  show (0 * 256 + b8 (m / 256)) * 256 + b8 m = _
  unfold b8; omega

theorem readF_eb (e : En) (r : List Nat) (s : Bool) (hk : 0 ≤ e.kind) (hk2 : e.kind < 256) (hm : 0 ≤ e.mode) (hm2 : e.mode < 65536) (ht : (txtF e.path).size < 256) (hd : e.data.length < 65536) :
    readF (ebF e ++ r) s = ⟨e.kind.toNat, e.mode.toNat, bys (txtF e.path), e.data, sealF e, r, s⟩ := by
  have hb : ebF e ++ r = [b8 e.kind] ++ ([b8 (e.mode / 256), b8 e.mode] ++ ([b8 ((txtF e.path).size : Nat)] ++ (bys (txtF e.path) ++ ([b8 (e.data.length / 256 : Nat), b8 (e.data.length : Nat)] ++ (e.data ++ (sealF e ++ r)))))) := by
    simp [ebF, headF, sizeF]
  rw [hb]
  have n1 := num1 hk hk2
  have n2 := num2 hm hm2
  have n3 : numF [b8 ((txtF e.path).size : Nat)] = (txtF e.path).size := by rw [num1 (by omega) (by omega)]; omega
  have n4 : numF [b8 (e.data.length / 256 : Nat), b8 (e.data.length : Nat)] = e.data.length := by
    have h := num2 (m := (e.data.length : Int)) (by omega) (by omega)
    have h2 : ((e.data.length / 256 : Nat) : Int) = (e.data.length : Int) / 256 := by omega
    rw [h2, h]; omega
  unfold readF
  simp only [takeV_app (n := 1) (x := [b8 e.kind]) rfl, restV_app (n := 1) (x := [b8 e.kind]) rfl, shortV_app (n := 1) (x := [b8 e.kind]) rfl,
    takeV_app (n := 2) (x := [b8 (e.mode / 256), b8 e.mode]) rfl, restV_app (n := 2) (x := [b8 (e.mode / 256), b8 e.mode]) rfl, shortV_app (n := 2) (x := [b8 (e.mode / 256), b8 e.mode]) rfl,
    takeV_app (n := 1) (x := [b8 ((txtF e.path).size : Nat)]) rfl, restV_app (n := 1) (x := [b8 ((txtF e.path).size : Nat)]) rfl, shortV_app (n := 1) (x := [b8 ((txtF e.path).size : Nat)]) rfl, n1, n2, n3,
    takeV_app (n := (txtF e.path).size) (bys_len _), restV_app (n := (txtF e.path).size) (bys_len _), shortV_app (n := (txtF e.path).size) (bys_len _),
    takeV_app (n := 2) (x := [b8 (e.data.length / 256 : Nat), b8 (e.data.length : Nat)]) rfl, restV_app (n := 2) (x := [b8 (e.data.length / 256 : Nat), b8 (e.data.length : Nat)]) rfl, shortV_app (n := 2) (x := [b8 (e.data.length / 256 : Nat), b8 (e.data.length : Nat)]) rfl, n4,
    takeV_app (n := e.data.length) (x := e.data) rfl, restV_app (n := e.data.length) (x := e.data) rfl, shortV_app (n := e.data.length) (x := e.data) rfl,
    takeV_app (n := 8) (sealF_len e), restV_app (n := 8) (sealF_len e), shortV_app (n := 8) (sealF_len e)]

/-- A byte string and its numbers. -/
theorem strN_bys (s : ByteArray) : strN (bys s) = s := by
  unfold strN bys
  apply ByteArray.ext
  apply Array.ext'
  simp [Function.comp_def]
theorem bys_strN {d : List Nat} (h : ∀ b ∈ d, b < 256) : bys (strN d) = d := by
  unfold strN bys
  simp only [List.map_map]
  conv => rhs; rw [← List.map_id d]
  refine List.map_congr_left fun x hx => ?_
  have := h x hx
  simp [Nat.mod_eq_of_lt this]

end Go.Proofs.YticcphppnmoogaaGreatDoor

namespace Go.Proofs.YticcphppnmoogaaGreatDoor
open Go.RowKit

theorem refused_zero {e : En} {l : List Ex} (h : refusedE e l = 0) : chkE e l 0 = 0 ∧ chkE e l 1 = 0 ∧ chkE e l 2 = 0 ∧ chkE e l 3 = 0 := by
  unfold refusedE at h
  split at h
  · contradiction
  split at h
  · contradiction
  split at h
  · contradiction
  split at h
  · contradiction
  refine ⟨?_, ?_, ?_, ?_⟩ <;> (first | assumption | (rename_i h1 h2 h3 h4; first | exact Decidable.not_not.1 h1 | exact Decidable.not_not.1 h2 | exact Decidable.not_not.1 h3 | exact Decidable.not_not.1 h4))
theorem paths_zero {p : List ByteArray} (h : pathsE p = 0) : rightB p = true ∧ p ≠ [] ∧ (txtF p).size ≤ 160 := by
  unfold pathsE at h
  split at h
  · cases h
  split at h
  · cases h
  split at h
  · cases h
  · rename_i h1 h2 h3
    exact ⟨by simpa using h1, h2, by omega⟩
theorem kind_zero {k : Int} (h : kindE k = 0) : 0 ≤ k ∧ k ≤ 2 := by
  unfold kindE at h
  split at h
  · omega
  split at h
  · omega
  split at h
  · omega
  · cases h
theorem size_zero {k : Int} {d : Nat} (h : sizeE k d = 0) : d ≤ 512 := by
  unfold sizeE at h
  split at h
  · cases h
  split at h
  · cases h
  · omega

theorem modes_zero {k m : Int} (h : modesE k m = 0) : 0 ≤ m ∧ m < 65536 := by
  have hc : chk k m 0 0 = 0 := by
    unfold modesE refu at h
    split at h
    · assumption
    · exact h
  cases hm : bel m 4096 with
  | false =>
    unfold chk at hc
    rw [hm] at hc
    split at hc
    · cases hc
    · simp at hc
  | true =>
    unfold bel at hm
    have := of_decide_eq_true hm
    omega

/-- What one entry's bytes read as, where the entry is right. -/
theorem next_eb {e : En} {l : List Ex} (r : List Nat) (h : refusedE e l = 0) : nextE (ebF e ++ r) false l = 0 ∧ entF (readF (ebF e ++ r) false) = e ∧ (readF (ebF e ++ r) false).b = r := by
  obtain ⟨h0, h1, h2, h3⟩ := refused_zero h
  obtain ⟨p1, p2, p3⟩ := paths_zero (show pathsE e.path = 0 from h0)
  obtain ⟨k1, k2⟩ := kind_zero (show kindE e.kind = 0 from h1)
  obtain ⟨m1, m2⟩ := modes_zero (show modesE e.kind e.mode = 0 from h2)
  have d1 := size_zero (show sizeE e.kind e.data.length = 0 from h3)
  have hr := readF_eb e r false k1 (by omega) m1 m2 (by omega) (by omega)
  obtain ⟨q1, q2⟩ := parse_txt p1 p2 p3
  have he : entF (readF (ebF e ++ r) false) = e := by
    rw [hr]
    unfold entF
    simp only [strN_bys, q1]
    have e1 : ((e.kind.toNat : Nat) : Int) = e.kind := by omega
    have e2 : ((e.mode.toNat : Nat) : Int) = e.mode := by omega
    rw [e1, e2]
  refine ⟨?_, he, by rw [hr]⟩
  unfold nextE
  rw [he, hr]
  simp only [strN_bys, q2, h, Bool.false_eq_true, if_false, ne_eq, not_true_eq_false]
  rw [if_pos]
  unfold eqB; simp

theorem decF_ebs : ∀ (l : List En) (done : List En) (r : List Nat), (∀ j e, l[j]? = some e → refusedE e ((done ++ l.take j).map toEx) = 0) → decF l.length (l.flatMap ebF ++ r) done = some (done ++ l, r)
  | [], done, r, _ => by simp [decF]
  | e :: l, done, r, h => by
    have h0 : refusedE e (done.map toEx) = 0 := by simpa using h 0 e rfl
    have e1 : (e :: l).flatMap ebF ++ r = ebF e ++ (l.flatMap ebF ++ r) := by simp
    obtain ⟨n1, n2, n3⟩ := next_eb (l.flatMap ebF ++ r) h0
    rw [e1]
    show (if nextE _ false (done.map toEx) = 0 then _ else _) = _
    rw [if_pos n1, n2, n3, decF_ebs l (done ++ [e]) r (fun j x hx => by
      have := h (j + 1) x (by simpa using hx)
      simpa using this)]
    simp

/-- The entries of what a right archive's bytes are. -/
theorem encF_map (l : List Ex) : encF l = crel ++ (b8 (l.length : Nat) :: (l.map (·.e)).flatMap ebF) := by
  unfold encF crel
  rw [List.flatMap_map]; rfl
theorem decode_enc {l : List Ex} (hl : l.length ≤ 40) (h : ∀ j x, l[j]? = some x → refusedE x.e (l.take j) = 0) : decodeF (encF l) = some (l.map (·.e)) := by
  rw [encF_map]
  have h8 : b8 (l.length : Nat) = l.length := by unfold b8; omega
  have hd := decF_ebs (l.map (·.e)) [] [] (fun j e he => by
    rw [List.getElem?_map] at he
    cases hx : l[j]? with
    | none => rw [hx] at he; simp at he
    | some x =>
      rw [hx] at he
      simp at he
      subst he
      have := h j x hx
      rw [← refusedE_bare] at this
      simpa [bare, List.map_take, Function.comp_def] using this)
  rw [List.length_map, List.append_nil] at hd
  unfold decodeF
  rw [if_pos ⟨by simp [crel, eqB], by simp [crel], by simp [crel, h8]; exact hl⟩]
  have e1 : (crel ++ (b8 (l.length : Nat) :: (l.map (·.e)).flatMap ebF)).getD 4 0 = l.length := by simp [crel, h8]
  have e2 : (crel ++ (b8 (l.length : Nat) :: (l.map (·.e)).flatMap ebF)).drop 5 = (l.map (·.e)).flatMap ebF := by simp [crel]
  rw [e1, e2, hd]
  rfl

end Go.Proofs.YticcphppnmoogaaGreatDoor

namespace Go.Proofs.YticcphppnmoogaaGreatDoor
open Go.RowKit

theorem short_no {n : Nat} {b : List Nat} {s : Bool} (h : shortV n b s = false) : s = false ∧ takeV n b ++ restV n b = b := by
  unfold shortV at h
  split at h
  · cases h
  · rename_i h1
    refine ⟨h, ?_⟩
    unfold takeV restV
    rw [if_neg h1, if_neg h1, List.take_append_drop]
theorem one_of {n : Nat} {b : List Nat} (hb : ∀ x ∈ b, x < 256) (hn : n = 1) : takeV n b = [b8 (numF (takeV n b) : Nat)] ∧ numF (takeV n b) < 256 := by
  subst hn
  have hl := takeV_len 1 b
  have hx := takeV_byte (n := 1) hb
  match h : takeV 1 b, hl with
  | [x], _ =>
    have h1 : x < 256 := hx x (by rw [h]; simp)
    have h2 : numF [x] = x := by show 0 * 256 + x = x; omega
    rw [h2]
    refine ⟨?_, h1⟩
    have : b8 (x : Int) = x := by unfold b8; omega
    rw [this]
theorem two_of {b : List Nat} (hb : ∀ x ∈ b, x < 256) : takeV 2 b = [b8 ((numF (takeV 2 b) / 256 : Nat) : Int), b8 (numF (takeV 2 b) : Nat)] := by
  have hl := takeV_len 2 b
  have hx := takeV_byte (n := 2) hb
  match h : takeV 2 b, hl with
  | [x, y], _ =>
    have h1 : x < 256 := hx x (by rw [h]; simp)
    have h3 : y < 256 := hx y (by rw [h]; simp)
    have h2 : numF [x, y] = x * 256 + y := by show (0 * 256 + x) * 256 + y = _; omega
    rw [h2]
    have e1 : b8 (((x * 256 + y) / 256 : Nat) : Int) = x := by unfold b8; omega
    have e2 : b8 ((x * 256 + y : Nat) : Int) = y := by unfold b8; omega
    rw [e1, e2]

theorem nextE_parts {b : List Nat} {prev : List Ex} {r : Read} (hr : readF b false = r) (h : nextE b false prev = 0) : r.s = false ∧ parseE (strN r.p) = 0 ∧ refusedE (entF r) prev = 0 ∧ r.sl = sealF (entF r) := by
  unfold nextE at h
  rw [hr] at h
  clear hr
  split at h
  · cases h
  · rename_i h1
    split at h
    · cases h
    · rename_i h2
      split at h
      · rename_i h3; exact absurd h h3
      · rename_i h3
        split at h
        · rename_i h4
          unfold eqB at h4
          exact ⟨by simpa using h1, Decidable.not_not.1 h2, Decidable.not_not.1 h3, of_decide_eq_true h4⟩
        · cases h

/-- What is read, piece by piece. -/
theorem read_parts {b : List Nat} {r : Read} (hb : ∀ x ∈ b, x < 256) (hr : readF b false = r) (h : r.s = false) :
    b = [b8 (r.k : Nat)] ++ ([b8 ((r.m / 256 : Nat) : Int), b8 (r.m : Nat)] ++ ([b8 (r.p.length : Nat)] ++ (r.p ++ ([b8 ((r.d.length / 256 : Nat) : Int), b8 (r.d.length : Nat)] ++ (r.d ++ (r.sl ++ r.b)))))) ∧ ∀ x ∈ r.p, x < 256 := by
  unfold readF at hr
  obtain ⟨b1, e1⟩ : ∃ b1, restV 1 b = b1 := ⟨_, rfl⟩
  obtain ⟨s1, f1⟩ : ∃ s1, shortV 1 b false = s1 := ⟨_, rfl⟩
  simp only [e1, f1] at hr
  obtain ⟨b2, e2⟩ : ∃ b2, restV 2 b1 = b2 := ⟨_, rfl⟩
  obtain ⟨s2, f2⟩ : ∃ s2, shortV 2 b1 s1 = s2 := ⟨_, rfl⟩
  simp only [e2, f2] at hr
  obtain ⟨n, en⟩ : ∃ n, numF (takeV 1 b2) = n := ⟨_, rfl⟩
  obtain ⟨b3, e3⟩ : ∃ b3, restV 1 b2 = b3 := ⟨_, rfl⟩
  obtain ⟨s3, f3⟩ : ∃ s3, shortV 1 b2 s2 = s3 := ⟨_, rfl⟩
  simp only [en, e3, f3] at hr
  obtain ⟨b4, e4⟩ : ∃ b4, restV n b3 = b4 := ⟨_, rfl⟩
  obtain ⟨s4, f4⟩ : ∃ s4, shortV n b3 s3 = s4 := ⟨_, rfl⟩
  simp only [e4, f4] at hr
  obtain ⟨q, eq⟩ : ∃ q, numF (takeV 2 b4) = q := ⟨_, rfl⟩
  obtain ⟨b5, e5⟩ : ∃ b5, restV 2 b4 = b5 := ⟨_, rfl⟩
  obtain ⟨s5, f5⟩ : ∃ s5, shortV 2 b4 s4 = s5 := ⟨_, rfl⟩
  simp only [eq, e5, f5] at hr
  obtain ⟨b6, e6⟩ : ∃ b6, restV q b5 = b6 := ⟨_, rfl⟩
  obtain ⟨s6, f6⟩ : ∃ s6, shortV q b5 s5 = s6 := ⟨_, rfl⟩
  simp only [e6, f6] at hr
  subst hr
  obtain ⟨g6, t7⟩ := short_no h
  rw [← f6] at g6
  obtain ⟨g5, t6⟩ := short_no g6
  rw [← f5] at g5
  obtain ⟨g4, t5⟩ := short_no g5
  rw [← f4] at g4
  obtain ⟨g3, t4⟩ := short_no g4
  rw [← f3] at g3
  obtain ⟨g2, t3⟩ := short_no g3
  rw [← f2] at g2
  obtain ⟨g1, t2⟩ := short_no g2
  rw [← f1] at g1
  obtain ⟨-, t1⟩ := short_no g1
  have y1 : ∀ x ∈ b1, x < 256 := by rw [← e1]; exact restV_byte hb
  have y2 : ∀ x ∈ b2, x < 256 := by rw [← e2]; exact restV_byte y1
  have y3 : ∀ x ∈ b3, x < 256 := by rw [← e3]; exact restV_byte y2
  have y4 : ∀ x ∈ b4, x < 256 := by rw [← e4]; exact restV_byte y3
  have o1 := (one_of hb rfl).1
  have o2 := two_of y1
  have o3 := (one_of y2 rfl).1
  have o5 := two_of y4
  rw [en] at o3
  rw [eq] at o5
  refine ⟨?_, takeV_byte y3⟩
  show b = [b8 (numF (takeV 1 b) : Nat)] ++ ([b8 ((numF (takeV 2 b1) / 256 : Nat) : Int), b8 (numF (takeV 2 b1) : Nat)] ++ ([b8 ((takeV n b3).length : Nat)] ++ (takeV n b3 ++ ([b8 (((takeV q b5).length / 256 : Nat) : Int), b8 ((takeV q b5).length : Nat)] ++ (takeV q b5 ++ (takeV 8 b6 ++ restV 8 b6))))))
  rw [takeV_len n b3, takeV_len q b5, ← o1, ← o2, ← o3, ← o5, t7, ← e6, t6, ← e5, t5, ← e4, t4, ← e3, t3, ← e2, t2, ← e1, t1]

theorem next_back {b : List Nat} {prev : List Ex} (hb : ∀ x ∈ b, x < 256) (h : nextE b false prev = 0) : refusedE (entF (readF b false)) prev = 0 ∧ ebF (entF (readF b false)) ++ (readF b false).b = b := by
  obtain ⟨r, hr⟩ : ∃ r, readF b false = r := ⟨_, rfl⟩
  obtain ⟨hs, hp, href, hq⟩ := nextE_parts hr h
  obtain ⟨hbb, hyp⟩ := read_parts hb hr hs
  rw [hr]
  clear hr h
  refine ⟨href, ?_⟩
  obtain ⟨p1, p2, p3⟩ := paths_zero (show pathsE (entF r).path = 0 from (refused_zero href).1)
  have ht : txtF (entF r).path = strN r.p := txt_parse hp p2
  have e1 : ebF (entF r) = [b8 (r.k : Nat)] ++ ([b8 ((r.m / 256 : Nat) : Int), b8 (r.m : Nat)] ++ ([b8 (r.p.length : Nat)] ++ (r.p ++ ([b8 ((r.d.length / 256 : Nat) : Int), b8 (r.d.length : Nat)] ++ (r.d ++ r.sl))))) := by
    rw [hq]
    unfold ebF headF sizeF
    rw [ht, strN_size, bys_strN hyp]
    have e2 : (entF r).mode / 256 = ((r.m / 256 : Nat) : Int) := by show ((r.m : Nat) : Int) / 256 = _; omega
    rw [e2]
    simp [entF]
  rw [e1]
  conv => rhs; rw [hbb]
  simp

theorem decF_some {n : Nat} {b : List Nat} {l : List En} {o : List En × List Nat} (h : decF (n + 1) b l = some o) : nextE b false (l.map toEx) = 0 ∧ decF n (readF b false).b (l ++ [entF (readF b false)]) = some o := by
  rw [decF] at h
  by_cases h0 : nextE b false (l.map toEx) = 0
  · rw [if_pos h0] at h; exact ⟨h0, h⟩
  · rw [if_neg h0] at h; cases h
theorem decF_back (n : Nat) : ∀ (b : List Nat) (done l : List En) (r : List Nat), (∀ x ∈ b, x < 256) → decF n b done = some (l, r) →
    ∃ l1, l = done ++ l1 ∧ l1.length = n ∧ l1.flatMap ebF ++ r = b ∧ ∀ j e, l1[j]? = some e → refusedE e ((done ++ l1.take j).map toEx) = 0 := by
  induction n with
  | zero =>
    intro b done l r _ h
    have h : some (done, b) = some (l, r) := h
    simp only [Option.some.injEq, Prod.mk.injEq] at h
    exact ⟨[], by simp [h.1], rfl, by simp [h.2], fun j e he => by simp at he⟩
  | succ n ih =>
    intro b done l r hb h
    obtain ⟨h0, h⟩ := decF_some h
    obtain ⟨h1, h2⟩ := next_back hb h0
    have hby := readF_byte (s := false) hb
    obtain ⟨rd, hrd⟩ : ∃ rd, readF b false = rd := ⟨_, rfl⟩
    rw [hrd] at h h1 h2 hby
    clear hrd h0
    obtain ⟨l1, q1, q2, q3, q4⟩ := ih _ _ l r hby h
    refine ⟨entF rd :: l1, by rw [q1]; simp, by simp [q2], ?_, fun j e he => ?_⟩
    · rw [List.flatMap_cons, List.append_assoc, q3, h2]
    · cases j with
      | zero => simp at he; subst he; simpa using h1
      | succ j =>
        have := q4 j e (by simpa using he)
        simpa using this

theorem decode_back {b : List Nat} {y : List Ex} (hb : ∀ x ∈ b, x < 256) (h : decodeF b = some (y.map (·.e))) : encF y = b ∧ y.length ≤ 40 ∧ ∀ j x, y[j]? = some x → refusedE x.e (y.take j) = 0 := by
  unfold decodeF at h
  split at h
  · rename_i hc
    obtain ⟨c1, c2, c3⟩ := hc
    cases hd : decF (b.getD 4 0) (b.drop 5) [] with
    | none => rw [hd] at h; cases h
    | some lr =>
      obtain ⟨l, r⟩ := lr
      rw [hd] at h
      have h : (if r = [] then some l else none) = some (y.map (·.e)) := h
      split at h
      · rename_i hr
        subst hr
        injection h with h
        subst h
        obtain ⟨l1, q1, q2, q3, q4⟩ := decF_back _ _ _ _ _ (fun x hx => hb x (List.mem_of_mem_drop hx)) hd
        simp only [List.nil_append] at q1 q4
        subst q1
        rw [List.length_map] at q2
        refine ⟨?_, by omega, fun j x hx => ?_⟩
        · rw [encF_map]
          rw [List.append_nil] at q3
          rw [q3, q2]
          unfold eqB at c1
          have e1 := of_decide_eq_true c1
          rw [← e1]
          obtain ⟨z, hz⟩ : ∃ z, b[4]? = some z := ⟨_, List.getElem?_eq_getElem (by omega)⟩
          have hz2 : z < 256 := hb z (List.mem_of_getElem? hz)
          have e2 : b.getD 4 0 = z := by rw [List.getD_eq_getElem?_getD, hz]; rfl
          have e3 : b8 ((z : Nat) : Int) = z := by unfold b8; omega
          rw [e2, e3]
          have e4 : b.drop 4 = z :: b.drop 5 := by rw [List.drop_eq_getElem_cons (by omega)]; congr 1; exact Option.some.inj ((List.getElem?_eq_getElem (by omega)).symm.trans hz)
          rw [← e4, List.take_append_drop]
        · have := q4 j x.e (by simp [hx])
          rw [← refusedE_bare]
          simpa [bare, List.map_take, Function.comp_def] using this
      · cases h
  · cases h

end Go.Proofs.YticcphppnmoogaaGreatDoor
