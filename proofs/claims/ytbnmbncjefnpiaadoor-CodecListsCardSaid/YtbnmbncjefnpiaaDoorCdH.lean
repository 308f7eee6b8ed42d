/-
  The contracts of bytes.Equal, codec.Same, slices.EqualFunc of it.
-/
import Derived.Test.YtbnmbncjefnpiaaDoorCdC
import Derived.Laws.IdiomStrings
import Derived.Laws.BytesArg
namespace Go.Proofs.YtbnmbncjefnpiaaDoor
open Go.RowKit
attribute [local go_sem ↓] Go.wp_at_zero Go.wp_at_succ

def strN (d : List Nat) : ByteArray := ⟨(d.map UInt8.ofNat).toArray⟩
theorem strN_size (d : List Nat) : (strN d).size = d.length := by simp [strN, ByteArray.size]
theorem conv_str {w : World} {B n c : Nat} {A : Option Addr} {d : List Nat} (h : Reads w B 1 A n (u8s d)) (hb : ∀ b ∈ d, b < 256) :
    (convert 23 9 (.slice A n c)).run Tryd.prog w = .ok (.string (strN d)) w := by
  have hl := bytes_n h
  cases A with
  | none =>
    have h0 : n = 0 := by
      rcases Nat.eq_zero_or_pos n with h0 | h0
      · exact h0
      · obtain ⟨ad, e, _⟩ := h.2 h0; cases e
    subst h0
    obtain rfl : d = [] := List.eq_nil_of_length_eq_zero hl
    exact run_convert_bytes_nil (P := Tryd.prog) w 23 5 Tryd.underlying23 Tryd.underlying5 0 c 9 Tryd.underlying9
  | some ad =>
    have hm : (d.map UInt8.ofNat).length = n := by simpa using hl
    have := run_convert_bytes_back (P := Tryd.prog) w 23 9 5 ad c (d.map UInt8.ofNat) Tryd.underlying23 Tryd.underlying5 Tryd.underlying9 (fun j hj => by
      have hj' : j < d.length := by simpa using hj
      have hn : 0 < n := by omega
      obtain ⟨ad', e, _, hc⟩ := h.2 hn
      have e' := Option.some.inj e
      subst e'
      have h1 := hc j (.int .u8 ((d[j] : Nat) : Int)) (by simp [u8s, hj'])
      rw [h1]
      have h2 := hb d[j] (List.getElem_mem hj')
      simp only [List.getElem_map, UInt8.toNat_ofNat']
      rw [Nat.mod_eq_of_lt (by omega)])
    rw [hm] at this
    exact this
def eqB (p q : List Nat) : Bool := decide (p = q)
theorem strN_inj : ∀ {p q : List Nat}, (∀ b ∈ p, b < 256) → (∀ b ∈ q, b < 256) → p.map UInt8.ofNat = q.map UInt8.ofNat → p = q
  | [], [], _, _, _ => rfl
  | [], _ :: _, _, _, h => by simp at h
  | _ :: _, [], _, _, h => by simp at h
  | a :: p, b :: q, hp, hq, h => by
    simp only [List.map_cons, List.cons.injEq] at h
    have h1 := congrArg UInt8.toNat h.1
    rw [UInt8.toNat_ofNat', UInt8.toNat_ofNat', Nat.mod_eq_of_lt (hp a (List.mem_cons_self ..)), Nat.mod_eq_of_lt (hq b (List.mem_cons_self ..))] at h1
    rw [h1, strN_inj (fun x hx => hp x (List.mem_cons_of_mem _ hx)) (fun x hx => hq x (List.mem_cons_of_mem _ hx)) h.2]
theorem strN_eq {p q : List Nat} (hp : ∀ b ∈ p, b < 256) (hq : ∀ b ∈ q, b < 256) : ((strN p).toList == (strN q).toList) = eqB p q := by
  have e : ∀ l : List Nat, (strN l).toList = l.map UInt8.ofNat := fun l => by rw [ByteArray.toList_eq]; rfl
  rw [e, e]
  by_cases h : p = q
  · subst h
    simp [eqB]
  · have : ¬ p.map UInt8.ofNat = q.map UInt8.ofNat := fun h2 => h (strN_inj hp hq h2)
    rw [show eqB p q = false from decide_eq_false h]
    simpa using this

theorem bequal_any (A1 A2 : Option Addr) (n c m d : Nat) (p q : List Nat) (w : World) (hp : ∀ b ∈ p, b < 256) (hq : ∀ b ∈ q, b < 256) (hR1 : Reads w w.heap.size 1 A1 n (u8s p)) (hR2 : Reads w w.heap.size 1 A2 m (u8s q)) :
    Calls Tryd.prog 25 #[.slice A1 n c, .slice A2 m d] w fun e w' => e = .returned (.bool (eqB p q)) ∧ w = w' := by
  have h1 := conv_str (c := c) hR1 hp
  have h2 := conv_str (c := d) hR2 hq
  have h3 := strN_eq hp hq
  obtain ⟨s, hs⟩ : ∃ s, strN p = s := ⟨_, rfl⟩
  obtain ⟨t, ht⟩ : ∃ t, strN q = t := ⟨_, rfl⟩
  rw [hs] at h1 h3
  rw [ht] at h2 h3
  have H3 := Sl.mk h3
  clear hs ht hR1 hR2 hp hq h3
  go_enter Tryd.func25, Tryd.ntmps25
  go_wp2_with fail
  go_ret
  exact ⟨ret_bool H3.out, rfl⟩


theorem eqV_mk (k n k' n' : Int) (b b' : List Nat) (l l' : List Vc) : eqV (.mk k n b l) (.mk k' n' b' l') = ((k == k') && ((n == n') && (eqB b b' && eqVs l l'))) := by
  rw [eqV]
  congr 3
  unfold eqB
  by_cases h : b = b' <;> simp [h]
theorem eqVs_len : ∀ {l m : List Vc}, l.length ≠ m.length → eqVs l m = false
  | [], [], h => absurd rfl h
  | [], _ :: _, _ => rfl
  | _ :: _, [], _ => rfl
  | x :: r, y :: s, h => by rw [eqVs, eqVs_len (l := r) (m := s) (by simpa using h), Bool.and_false]

set_option maxRecDepth 100000 in
set_option maxHeartbeats 1000000 in
theorem equalf_of (l m : List Vx) (A A2 : Option Addr) (n c q d : Nat) (w : World) (hn : n ≤ 1000000) (hq : q ≤ 1000000)
    (hS : ∀ x ∈ l, ∀ (y : Vx) (W : World), VxIn W x → VxIn W y → Calls Tryd.prog 11 #[.agg (vxC x).toArray, .agg (vxC y).toArray] W fun e w' => e = .returned (.bool (eqV x.v y.v)) ∧ Below W.heap.size W w')
    (hL : Vxs w A n l) (hM : Vxs w A2 q m) :
    Calls Tryd.prog 26 #[.slice A n c, .slice A2 q d, .func (.func 11) #[] #[]] w fun e w' => e = .returned (.bool (eqVs (vsOf l) (vsOf m))) ∧ Below w.heap.size w w' := by
  have HN := Sl.mk hL.n_
  have HQ := Sl.mk hM.n_
  have HL := Sl.mk hL
  have HM := Sl.mk hM
  have HS := Sl.mk hS
  clear hL hM hS
  by_cases hnq : n = q
  · subst hnq
    go_enter Tryd.func26, Tryd.ntmps26
    go_wp2_with fail
    go_loopw [7, 8, 9, 17] (fun _ _ _ v17 wr => ∃ i : Nat, i ≤ n ∧ v17 = .int .i64 i ∧ Sl (eqVs (vsOf l) (vsOf m) = eqVs (vsOf (l.drop i)) (vsOf (m.drop i))) ∧ Below w.heap.size w wr) (fun _ _ _ v17 _ => n - (intOf v17).toNat)
    case atStart => exact ⟨0, Nat.zero_le _, rfl, ⟨rfl⟩, Below.refl _ _⟩
    case round =>
      obtain ⟨i, hi, rfl, HZ, hB⟩ := hrel
      by_cases hil : i < n
      · obtain ⟨x, hx⟩ : ∃ x, l[i]? = some x := ⟨_, List.getElem?_eq_getElem (by rw [HN.out]; exact hil)⟩
        obtain ⟨y, hy⟩ : ∃ y, m[i]? = some y := ⟨_, List.getElem?_eq_getElem (by rw [HQ.out]; exact hil)⟩
        obtain ⟨ad, hpl, hbl, hld, hok⟩ := (HL.out.be hB).at_ hx
        obtain ⟨ad2, hpl2, hbl2, hld2, hok2⟩ := (HM.out.be hB).at_ hy
        have hz := HZ.out
        rw [drop_one hx, drop_one hy, vsOf, vsOf, eqVs] at hz
        have hm := List.mem_of_getElem? hx
        have HR := Sl.mk (show ∀ W, Below wr.heap.size wr W → Calls Tryd.prog 11 #[.agg (vxC x).toArray, .agg (vxC y).toArray] W fun e w' => e = .returned (.bool (eqV x.v y.v)) ∧ Below W.heap.size W w' from fun W hW => HS.out x hm y W (hok.be hW) (hok2.be hW))
        have hwa := below_al (Below.refl wr.heap.size wr) (.cells (vxC x).toArray 26)
        have hwb := below_tr hwa (below_al (Below.refl _ (wr.alloc (.cells (vxC x).toArray 26))) (.cells (vxC y).toArray 26))
        have hld2 : ∀ j v, (vxC y)[j]? = some v → (wr.alloc (.cells (vxC x).toArray 26)).cell? ((ad2.add (i * 4)).add j) = some v := fun j v hv => (hwa.cell (by rw [block_of_add, block_of_add]; exact hbl2)).trans (hld2 j v hv)
        subst hpl hpl2
        obtain ⟨b, hb⟩ : ∃ b, eqV x.v y.v = b := ⟨_, rfl⟩
        rw [hb] at HR hz
        obtain ⟨k1, n1, pb1, b1, cb1, pl1, l1, cl1⟩ := x
        obtain ⟨k2, n2, pb2, b2, cb2, pl2, l2, cl2⟩ := y
        rw [vxC_mk] at *
        clear hx hy hok hok2 hb hm HZ
        go_wp2_with (first | refine ld_vxl hld rfl (.tmp 20) rfl rfl ?_ | refine ld_vxl hld2 rfl (.tmp 24) rfl rfl ?_)
        refine (HR.out _ hwb).mono ?_
        rintro e w2 ⟨rfl, hB2⟩
        have hE2 := below_tr hB (below_tr hwb hB2)
        clear hB hwa hwb hB2 HR hld hld2
        cases b
        · have HF := Sl.mk (show eqVs (vsOf l) (vsOf m) = false by rw [hz]; rfl)
          clear hz
          go_wp2_with fail
          go_ret
          exact ⟨by rw [HF.out]; rfl, hE2⟩
        · have HF := Sl.mk (show eqVs (vsOf l) (vsOf m) = eqVs (vsOf (l.drop (i + 1))) (vsOf (m.drop (i + 1))) by rw [hz, Bool.true_and])
          clear hz
          go_wp2_with fail
          go_roundw
          case rel => exact ⟨i + 1, by omega, by go_num, HF, hE2⟩
          case measure => simp [intOf]; omega
      · obtain rfl : i = n := by omega
        have HF := Sl.mk (show eqVs (vsOf l) (vsOf m) = true by
          rw [HZ.out, List.drop_of_length_le (by rw [HN.out]; omega), List.drop_of_length_le (by rw [HQ.out]; omega)]; rfl)
        go_wp2_with fail
        go_ret
        exact ⟨by rw [HF.out]; rfl, hB⟩
  · have HF := Sl.mk (show eqVs (vsOf l) (vsOf m) = false from eqVs_len (by rw [vsOf_len, vsOf_len, HN.out, HQ.out]; exact hnq))
    have hne : ((n : Int) != (q : Int)) = true := bne_iff_ne.2 (by omega)
    go_enter Tryd.func26, Tryd.ntmps26
    go_wp2_with fail
    go_ret
    exact ⟨by rw [HF.out]; rfl, Below.refl _ _⟩

set_option maxRecDepth 100000 in
set_option maxHeartbeats 1000000 in
theorem same_any (x : Vx) : ∀ (y : Vx) (w : World), VxIn w x → VxIn w y →
    Calls Tryd.prog 11 #[.agg (vxC x).toArray, .agg (vxC y).toArray] w fun e w' => e = .returned (.bool (eqV x.v y.v)) ∧ Below w.heap.size w w' := by
  induction x using Vx.ind_ with
  | h k n pb b cb pl l cl ih =>
    rintro ⟨k', n', pb', b', cb', pl', l', cl'⟩ w hx hy
    have hv : eqV (Vx.mk k n pb b cb pl l cl).v (Vx.mk k' n' pb' b' cb' pl' l' cl').v = ((k == k') && ((n == n') && (eqB b b' && eqVs (vsOf l) (vsOf l')))) := by rw [Vx.v, Vx.v, eqV_mk]
    rw [hv, vxC_mk, vxC_mk]
    obtain ⟨hb1, hl1, hN1⟩ := hx.parts
    obtain ⟨hb2, hl2, hN2⟩ := hy.parts
    have hll1 := hN1.ll
    have hll2 := hN2.ll
    have hby1 := hN1.by_
    have hby2 := hN2.by_
    clear hx hy hv
    obtain ⟨bl, hbl⟩ : ∃ bl, b.length = bl := ⟨_, rfl⟩
    obtain ⟨ll, hlle⟩ : ∃ ll, l.length = ll := ⟨_, rfl⟩
    obtain ⟨bl', hbl'⟩ : ∃ bl, b'.length = bl := ⟨_, rfl⟩
    obtain ⟨ll', hlle'⟩ : ∃ ll, l'.length = ll := ⟨_, rfl⟩
    rw [hbl] at hb1
    rw [hbl'] at hb2
    rw [hlle] at hl1 hll1
    rw [hlle'] at hl2 hll2
    rw [hbl, hbl', hlle, hlle']
    clear hN1 hN2 hbl hbl' hlle hlle'
    have hwa := below_al (Below.refl w.heap.size w) (.cells #[.int .i64 k, .int .i64 n, .slice pb bl cb, .slice pl ll cl] 26)
    have hwb := below_tr hwa (below_al (Below.refl _ (w.alloc (.cells #[.int .i64 k, .int .i64 n, .slice pb bl cb, .slice pl ll cl] 26))) (.cells #[.int .i64 k', .int .i64 n', .slice pb' bl' cb', .slice pl' ll' cl'] 26))
    have hX := (Blk.new w 26 #[.int .i64 k, .int .i64 n, .slice pb bl cb, .slice pl ll cl]).alloc (.cells #[.int .i64 k', .int .i64 n', .slice pb' bl' cb', .slice pl' ll' cl'] 26)
    have hY : Blk ((w.alloc (.cells #[.int .i64 k, .int .i64 n, .slice pb bl cb, .slice pl ll cl] 26)).alloc (.cells #[.int .i64 k', .int .i64 n', .slice pb' bl' cb', .slice pl' ll' cl'] 26)) (w.heap.size + 1) 26 #[.int .i64 k', .int .i64 n', .slice pb' bl' cb', .slice pl' ll' cl'] := Blk.new' (by simp)
    obtain ⟨wb, hwe⟩ : ∃ wb, (w.alloc (.cells #[.int .i64 k, .int .i64 n, .slice pb bl cb, .slice pl ll cl] 26)).alloc (.cells #[.int .i64 k', .int .i64 n', .slice pb' bl' cb', .slice pl' ll' cl'] 26) = wb := ⟨_, rfl⟩
    have hws : (w.alloc (.cells #[.int .i64 k, .int .i64 n, .slice pb bl cb, .slice pl ll cl] 26)).heap.size = w.heap.size + 1 := by simp
    rw [hwe] at hwb hX hY
    have c0 := hX.cell 0
    have c1 := hX.cell 1
    have c2 := hX.cell 2
    have c3 := hX.cell 3
    have d0 := hY.cell 0
    have d1 := hY.cell 1
    have d2 := hY.cell 2
    have d3 := hY.cell 3
    have HB := Sl.mk (bequal_any pb pb' bl cb bl' cb' b b' wb hby1 hby2 ((hb1.below hwb).more hwb.size) ((hb2.below hwb).more hwb.size))
    have HQ := Sl.mk (show ∀ W, Below wb.heap.size wb W → Calls Tryd.prog 26 #[.slice pl ll cl, .slice pl' ll' cl', .func (.func 11) #[] #[]] W fun e w' => e = .returned (.bool (eqVs (vsOf l) (vsOf l'))) ∧ Below W.heap.size W w' from
      fun W hW => equalf_of l l' pl pl' ll cl ll' cl' W hll1 hll2 (fun z hz y' W' h1 h2 => ih z hz y' W' h1 h2) ((hl1.be hwb).be hW) ((hl2.be hwb).be hW))
    clear hb1 hb2 hby1 hby2 hl1 hl2 hX hY hwa ih
    cases hk : (k == k')
    · go_enter Tryd.func11, Tryd.ntmps11
      go_wp2_with fail
      go_ret
      exact ⟨by simp, hwb⟩
    · cases hn : (n == n')
      · go_enter Tryd.func11, Tryd.ntmps11
        go_wp2_with fail
        go_ret
        exact ⟨by simp, hwb⟩
      · cases hbb : eqB b b'
        · rw [hbb] at HB
          go_enter Tryd.func11, Tryd.ntmps11
          go_wp2_with fail
          refine HB.out.mono ?_
          rintro e w1 ⟨rfl, rfl⟩
          go_wp2_with fail
          go_ret
          exact ⟨by simp, hwb⟩
        · rw [hbb] at HB
          go_enter Tryd.func11, Tryd.ntmps11
          go_wp2_with fail
          refine HB.out.mono ?_
          rintro e w1 ⟨rfl, rfl⟩
          go_wp2_with fail
          refine (HQ.out _ (Below.refl _ _)).mono ?_
          rintro e w2 ⟨rfl, hB2⟩
          have hE2 := below_tr hwb hB2
          clear hwb hB2 HQ HB c0 c1 c2 c3 d0 d1 d2 d3
          go_wp2_with fail
          go_ret
          exact ⟨by simp, hE2⟩

end Go.Proofs.YtbnmbncjefnpiaaDoor
