/-
  The contract of code's verify.
-/
import Derived.Test.YtliealcdiogilaaDoorCoP
namespace Go.Proofs.YtliealcdiogilaaDoor
open Go.RowKit
attribute [local go_sem ↓] Go.wp_at_zero Go.wp_at_succ

def VyPost (w : World) (n : Nat) (r : List (List UInt8) × Nat × Int) (e : Ending) (w' : World) : Prop :=
  Below w.heap.size w w' ∧ if r.2.2 = 0 then ∃ sb, e = .returned (.tuple #[.slice (some ⟨sb, 0, none⟩) (n + 1) (n + 1), .int .i64 (r.2.1 : Nat), .int .i64 0]) ∧ w.heap.size ≤ sb ∧ sb < w'.heap.size ∧ Blk w' sb 9 (strsC r.1).toArray ∧ r.1.length = n + 1 ∧ ∀ s ∈ r.1, s.length ≤ 16
    else e = .returned (.tuple #[.slice none 0 0, .int .i64 (r.2.1 : Nat), .int .i64 r.2.2])
theorem Vr.step {w w' : World} {base vb sb mb n c k : Nat} {A : Option Addr} {v : Vs} {nn : Nat} {D : DataW Unit} (h : Vr w base vb sb mb A n c v) (hm : w.ownsMap Tryd.prog 3 boolR mb nn D) (hc : nn + v.1.countP (· == [45]) ≤ n + 1) (hk : KeysIn D v.2)
    (ho : w'.ownsMap Tryd.prog 3 boolR mb nn (D.del (.int .i64 (k : Int)))) (hg : w.grownBy w' (some mb)) : Vr w' base vb sb mb A n c (v.1, v.2.set k false) :=
  ⟨h.blk.grown hg (by simpa using blk_map_ne h.blk hm), h.sts.grown hg (by simpa using blk_map_ne h.sts hm), ⟨nn, _, ho, hc, keysIn_del hk k⟩, h.l1, by rw [List.length_set]; exact h.l2, h.bb, Nat.lt_of_lt_of_le h.mlt hg.size, h.slen⟩
theorem own_ints {w : World} {base c : Nat} {A : Option Addr} {ss : List Int} (h : w.ownsRow base 3 1 (.slice A ss.length c) ss.length (ss.map Go.encZ)) (hne : ss ≠ []) : ∃ g, A = some ⟨g, 0, none⟩ ∧ ∀ j, j < ss.length → w.cell? ⟨g, 0 + j, none⟩ = some (.int .i64 (ss.getD j 0)) := by
  obtain ⟨g, c', hv, _, _, hc⟩ := ownCells h (List.length_pos_iff.2 hne)
  injection hv with e1
  refine ⟨g, e1, fun j hj => ?_⟩
  rw [Nat.zero_add]
  exact hc j _ (by rw [List.getElem?_map, List.getElem?_eq_getElem hj, List.getD_eq_getElem?_getD, List.getElem?_eq_getElem hj]; rfl)
theorem vr_new {w : World} {n c : Nat} {A : Option Addr} {g : Nat} {w2 : World} (hg : w.heap.size ≤ g) (hE : Below w.heap.size w w2) (hB : Blk w2 g 9 (List.replicate (n + 1) (Value.string ⟨#[45]⟩)).toArray) :
    Vr ((w2.alloc (.map #[] 0)).alloc (.cells #[.slice A n c, .slice (some ⟨g, 0, none⟩) (n + 1) (n + 1), .map (some w2.heap.size)] 90)) w.heap.size (w2.heap.size + 1) g w2.heap.size A n c (List.replicate (n + 1) [45], List.replicate (n + 1) false) ∧
    Below w.heap.size w ((w2.alloc (.map #[] 0)).alloc (.cells #[.slice A n c, .slice (some ⟨g, 0, none⟩) (n + 1) (n + 1), .map (some w2.heap.size)] 90)) := by
  have h1 : (w2.alloc (.map #[] 0)).heap.size = w2.heap.size + 1 := by simp
  have hm := World.ownsMap_made (H := Unit) w2 Tryd.prog 3 boolR
  have hE1 := below_al hE (.map #[] 0)
  refine ⟨⟨?_, ?_, ⟨0, .map [], map_below hm ((Below.refl (w2.alloc (.map #[] 0)).heap.size _).alloc (Nat.le_refl _) _) (by rw [h1]; omega), ?_, ?_⟩, by simp, by simp, ⟨by have := hE.size; omega, hg, hE.size⟩, by simp; omega, ?_⟩, below_al hE1 _⟩
  · rw [← h1]; exact Blk.new _ _ _
  · have e : (strsC (List.replicate (n + 1) [45])) = List.replicate (n + 1) (Value.string ⟨#[45]⟩) := by simp [strsC, bsS]
    show Blk _ g 9 (strsC (List.replicate (n + 1) [45])).toArray
    rw [e]
    exact (hB.alloc _).alloc _
  · have := List.countP_le_length (p := fun x : List UInt8 => x == [45]) (l := List.replicate (n + 1) [45])
    rw [List.length_replicate] at this
    simpa using this
  · intro x
    constructor
    · intro h; cases h
    · rintro ⟨k, _, h⟩
      rw [List.getD_eq_getElem?_getD, List.getElem?_replicate] at h
      split at h <;> cases h
  · intro s hs
    rw [List.eq_of_mem_replicate hs]
    decide
set_option maxRecDepth 100000 in
set_option maxHeartbeats 16000000 in
theorem verify_any (A : Option Addr) (n c : Nat) (l : List Ci) (w : World) (hI : Is w A n l) (hP : Spw w w.heap.size) (hr : ∀ (j : Nat) (y : Ci), l[j]? = some y → rightI y (n : Nat) = true) (hn : n ≤ 200) :
    Calls Tryd.prog 29 #[.slice A n c] w (VyPost w n (verF l)) := by
  have hmm := @run_makeMap Tryd.prog
  have HL := Sl.mk hI.n_
  have HI : Sl (Ib w w.heap.size A n l) := Sl.mk ⟨hI.row, hI.len⟩
  have HP := Sl.mk hP
  have HRR := Sl.mk hr
  have hB1 := Blk.new w 9 #[.string ⟨#[45]⟩]
  have HE1 := Sl.mk (below_al (Below.refl w.heap.size w) (.cells #[.string ⟨#[45]⟩] 9))
  have HRP : Sl (Calls Tryd.prog 43 #[.slice (some ⟨w.heap.size, 0, none⟩) 1 1, .int .i64 ((n : Int) + 1)] (w.alloc (.cells #[.string ⟨#[45]⟩] 9)) (RepPost (w.alloc (.cells #[.string ⟨#[45]⟩] 9)) (.string ⟨#[45]⟩) (n + 1))) := Sl.mk (repeat_any w.heap.size 1 (n + 1) ⟨#[45]⟩ _ (by simp) (hB1.cell 0) (by omega) (by omega))
  unfold RepPost at HRP
  clear hB1 hI hP hr
  go_enter Tryd.func29, Tryd.ntmps29
  go_wp2_with fail
  go_step3
  go_wp2_with fail
  refine HRP.out.mono ?_
  rintro e w2 ⟨g, rfl, hg, hB2, hb2⟩
  obtain ⟨hV, hE4⟩ := vr_new (A := A) (c := c) (Nat.le_trans (by simp) hg) (below_tr HE1.out hb2) hB2
  obtain ⟨w4, hw4⟩ : ∃ w4, (w2.alloc (.map #[] 0)).alloc (.cells #[.slice A n c, .slice (some ⟨g, 0, none⟩) (n + 1) (n + 1), .map (some w2.heap.size)] 90) = w4 := ⟨_, rfl⟩
  rw [hw4] at hV hE4
  have HW4 := Sl.mk hw4
  obtain ⟨mb, hmb⟩ : ∃ mb, w2.heap.size = mb := ⟨_, rfl⟩
  obtain ⟨vb, hvb⟩ : ∃ vb, mb + 1 = vb := ⟨_, rfl⟩
  have HVB := Sl.mk hvb
  have HMB := Sl.mk hmb
  rw [hmb, hvb] at hV
  have HV := Sl.mk hV
  have HE4 := Sl.mk hE4
  clear hV hE4 hw4 hB2 hb2 hg HRP hvb hmb
  have HRC : Sl (Calls Tryd.prog 44 #[.pointer (some ⟨vb, 0, none⟩), .int .i64 0, .string ⟨#[]⟩] w4 (RcPost w4 w.heap.size vb g mb A n c (v0 n) (decide ((v0 n).1.getD 0 [] = [])))) := Sl.mk (reach_any w.heap.size vb g mb A n c 0 (List.replicate (n + 1) [45], List.replicate (n + 1) false) [] w4 HV.out (by omega) (by omega) (by decide) (by decide) HE4.out.size)
  unfold RcPost at HRC
  go_wp2_with fail
  rw [HW4.out, HMB.out, HVB.out]
  refine HRC.out.mono ?_
  rintro e w5 ⟨rfl, hv5, hb5, -⟩
  have HV5 := Sl.mk hv5
  have HE5 := Sl.mk (HE4.out.trans hb5)
  clear HV HE4 hv5 hb5 HRC HW4 HMB HVB HE1
  go_wp2_with fail
  go_step3
  go_wp2_with fail
  go_loopg [6] (3 * n + 3) (fun f v6 wr => ∃ v : Vs, leftV v ≤ f ∧ Sl (verF l = verV l f v) ∧ Vr wr w.heap.size vb g mb A n c v ∧ Below w.heap.size w wr)
  case atStart => exact ⟨v0 n, left_v0 n, ⟨by unfold verF; rw [HL.out]⟩, HV5.out, HE5.out⟩
  case round =>
    obtain ⟨v, hlv, HF, hV, hE⟩ := hrel
    obtain ⟨nn, D, hm, hcn, hkey⟩ := hV.map
    have c1 := hV.blk.cell 1
    have c2 := hV.blk.cell 2
    by_cases hs : Maps.size D = 0
    · have hs0 := congrArg (fun k : Nat => (k : Int)) hs
      have HVN := Sl.mk (show verF l = (v.1, n, 0) by rw [HF.out, ver_none (todo_none hm hkey hs), HL.out])
      have HV := Sl.mk hV
      have HE := Sl.mk hE
      have HM := Sl.mk hm
      clear hm hcn hkey hs hV hE
      go_wp2_with (refine wpList_len_own _ rfl (.tmp 23) 88 rfl 3 4 Tryd.underlying88 boolR mb nn D rfl HM.out ?_)
      rw [Exit.noGoto_ret]
      go_ret3
      refine ⟨HE.out, ?_⟩
      rw [HVN.out, if_pos rfl]
      exact ⟨g, rfl, HV.out.bb.2.1, HV.out.sts.lt, HV.out.sts, HV.out.l1, HV.out.slen⟩
    · obtain ⟨Z, hZ⟩ : ∃ Z, Maps.size D = Z := ⟨_, rfl⟩
      have hZ0 : 0 < Z := by omega
      have HZ := Sl.mk hZ
      have hZn : Z ≤ 1000000 := by rw [← hZ]; have := hm.size_le; omega
      have HCL := Sl.mk (collect_any wr.heap.size mb nn D (wr.alloc (.cells #[.map (some mb)] 88)) (by simp) ((Blk.new wr 88 #[.map (some mb)]).cell 0) (map_below hm ((Below.refl wr.heap.size wr).alloc (Nat.le_refl _) _) hV.mlt) (by rw [hZ]; exact hZn))
      have HV := Sl.mk hV
      have HE := Sl.mk hE
      have HM := Sl.mk hm
      have HCN := Sl.mk hcn
      have HKEY := Sl.mk hkey
      clear hm hcn hkey hs hV hE hZ
      go_wp2_with (first
        | (refine wpList_len_own _ rfl (.tmp 23) 88 rfl 3 4 Tryd.underlying88 boolR mb nn D rfl HM.out ?_; rw [HZ.out])
        | (go_at_call 47; refine (keys_any mb _).mono ?_; rintro e w6 ⟨rfl, rfl⟩))
      refine HCL.out.mono ?_
      rintro e w7 ⟨vl, ss, rfl, hperm, hown, -, hb7⟩
      obtain ⟨hne, at_, hmin, hlt, hfi, hat⟩ := todo_min HM.out HKEY.out (by rw [HZ.out]; exact hZ0) hperm
      obtain ⟨A7, c7, rfl⟩ := ownForm hown
      obtain ⟨g7, rfl, hc7⟩ := own_ints hown hne
      have hsl : ss.length ≤ 1000000 := by rw [hperm.length_eq, keys_size HM.out, HZ.out]; exact hZn
      have HMN := Sl.mk (slices_Min_int g7 0 ss.length c7 ss w7 (List.length_pos_iff.2 hne) (Nat.le_refl _) (by omega) hc7)
      rw [List.take_length, hmin] at HMN
      have hb07 := below_tr (below_al (Below.refl wr.heap.size wr) (.cells #[.map (some mb)] 88)) hb7
      have HV7 := Sl.mk (HV.out.be hb07)
      have HE7 := Sl.mk (below_tr HE.out hb07)
      have HM7 := Sl.mk (map_below HM.out hb07 HV.out.mlt)
      have HFI := Sl.mk hfi
      have HAT := Sl.mk hat
      have hatn : at_ ≤ n := by have := HV.out.l2; omega
      have d2 := HV7.out.blk.cell 2
      have HNE := Sl.mk hne
      clear hperm hown hb7 hne hmin hlt hfi hat hc7 hsl hb07 c1 c2 HCL
      have hdl := left_del HAT.out
      obtain ⟨f, hf⟩ : ∃ f, gk = f + 1 := ⟨gk - 1, by omega⟩
      have HF2 := Sl.mk (show verF l = verV l (f + 1) v by rw [← hf]; exact HF.out)
      have HFG := Sl.mk (show f < gk by omega)
      have HLV := Sl.mk (show leftV (v.1, v.2.set at_ false) ≤ f by omega)
      clear hdl hf hlv HF
      by_cases hk : at_ = n
      · have hkb : ((at_ : Int) == n) = true := by simp; omega
        have HS := Sl.mk (show verF l = verV l f (v.1, v.2.set at_ false) by
          rw [HF2.out]
          have e : at_ = l.length := by rw [HL.out]; exact hk
          rw [e]
          exact ver_end (by rw [HFI.out, e]))
        clear hk
        go_wp2_with (first
          | (go_at_call 45; refine HMN.out.mono ?_; rintro e w8 ⟨rfl, rfl⟩)
          | (refine wpList_delete_own _ rfl (.tmp 36) (.tmp 37) 88 3 rfl 4 (Go.Maps.int_keyed Tryd.underlying3) Tryd.underlying88 boolR mb nn D rfl HM7.out _ _ rfl (Go.Maps.keyOf_int_mk Tryd.underlying3 (intWf (by omega))) ?_; intro w9 ho9 hg9; have HV9 := Sl.mk (HV7.out.step HM7.out HCN.out HKEY.out ho9 hg9.grown); have HE9 := Sl.mk (below_only HE7.out hg9.grown HE7.out.size HV7.out.bb.2.2); clear ho9 hg9))
        go_roundg f
        case measure => exact HFG.out
        case rel => exact ⟨_, HLV.out, HS, HV9.out, HE9.out⟩
      · have hkb : ((at_ : Int) == n) = false := by simp; omega
        have hkn : at_ < n := by omega
        have hkl : at_ ≠ l.length := by rw [HL.out]; exact hk
        obtain ⟨x, hx⟩ : ∃ x, l[at_]? = some x := ⟨_, List.getElem?_eq_getElem (by rw [HL.out]; exact hkn)⟩
        have HXX := Sl.mk hx
        have HKL := Sl.mk hkl
        clear hk hkl hx
        go_wp2_with (first
          | (go_at_call 45; refine HMN.out.mono ?_; rintro e w8 ⟨rfl, rfl⟩)
          | (refine wpList_delete_own _ rfl (.tmp 36) (.tmp 37) 88 3 rfl 4 (Go.Maps.int_keyed Tryd.underlying3) Tryd.underlying88 boolR mb nn D rfl HM7.out _ _ rfl (Go.Maps.keyOf_int_mk Tryd.underlying3 (intWf (by omega))) ?_; intro w9 ho9 hg9; have HV9 := Sl.mk (HV7.out.step HM7.out HCN.out HKEY.out ho9 hg9.grown); have HE9 := Sl.mk (below_only HE7.out hg9.grown HE7.out.size HV7.out.bb.2.2); clear ho9 hg9))
        have HLK := Sl.mk (look_any w.heap.size vb g mb A n c at_ _ l w9 HV9.out (HI.out.be HE9.out) (HP.out.be HE9.out) HRR.out hkn hn HE9.out.size)
        obtain ⟨r, hrr⟩ : ∃ r, lookV l (v.1, v.2.set at_ false) at_ = r := ⟨_, rfl⟩
        rw [hrr] at HLK
        obtain ⟨v2, o⟩ := r
        unfold LkPost at HLK
        cases o with
        | none =>
          have HS := Sl.mk (show verF l = verV l f v2 by rw [HF2.out]; exact ver_go HFI.out HKL.out hrr)
          have HL2 := Sl.mk (Nat.le_trans (left_look HXX.out hrr) HLV.out)
          clear hrr
          refine HLK.out.mono ?_
          rintro e w10 ⟨hb10, rfl, hv10⟩
          have HV10 := Sl.mk hv10
          have HE10 := Sl.mk (HE9.out.trans hb10)
          clear hb10 hv10 HLK
          go_wp2_with fail
          go_roundg f
          case measure => exact HFG.out
          case rel => exact ⟨_, HL2.out, HS, HV10.out, HE10.out⟩
        | some p =>
          obtain ⟨i, er⟩ := p
          have her := look_ne HXX.out hrr
          have HS := Sl.mk (show verF l = ([], i, er) by rw [HF2.out]; exact ver_bad HFI.out HKL.out hrr)
          have hen : (er != 0) = true := by simpa using her
          have HER := Sl.mk her
          clear hrr her
          refine HLK.out.mono ?_
          rintro e w10 ⟨hb10, rfl⟩
          have HE10 := Sl.mk (HE9.out.trans hb10)
          clear hb10 HLK
          go_wp2_with fail
          rw [Exit.noGoto_ret]
          go_ret3
          refine ⟨HE10.out, ?_⟩
          rw [HS.out, if_neg HER.out]
          rfl
end Go.Proofs.YtliealcdiogilaaDoor
