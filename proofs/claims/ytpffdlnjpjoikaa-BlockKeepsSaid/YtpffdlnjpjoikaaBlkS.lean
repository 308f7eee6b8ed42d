/-
  The walk of the law BlockLast.
-/
import Derived.Test.YtpffdlnjpjoikaaBlkR
import Derived.Deep.DeepCutAuto
import Derived.Deep.Cut
import Derived.Deep.DeepMust
import Derived.Deep.CutBlock
namespace Go.Proofs.Ytpffdlnjpjoikaa
open Go.RowKit
attribute [local go_sem ↓] Go.wp_at_zero Go.wp_at_succ

theorem add_lit (a : Addr) (k : Nat) (h : k ≠ 0) : (⟨a.block, a.off + k, none⟩ : Addr) = a.add k := by simp [Addr.add, h]
theorem no_of (x : Int) : ∃ no : Nat, wrap64 ((IntKind.u64.wrap x).tmod 8) = (no : Int) ∧ no < 8 := by
  have h1 : IntKind.u64.wrap x = x % 18446744073709551616 := by simp [IntKind.wrap_u64]
  have h2 : (x % 18446744073709551616).tmod 8 = (x % 18446744073709551616) % 8 := Int.tmod_eq_emod_of_nonneg (by omega)
  refine ⟨((x % 18446744073709551616) % 8).toNat, ?_, by omega⟩
  rw [h1, h2]
  unfold wrap64
  omega
theorem infoInt : (Try.prog.info? 3).map (fun i => (i.zero, i.size, i.bytes)) = some (some (.int .i64 0), 1, 8) := by kernel_rfl
theorem LS.reads {w W : World} {g gl k : Nat} {s : DSt} {LV : List (Option (Nat × List Int))} {kv : Value} (h : LS w W g gl s LV kv k) (j : Nat) : ∃ A n c, lvV (LV.getD j none) = .slice A n c ∧ Reads W W.heap.size 1 A n (bsC (lvB (LV.getD j none))) := by
  cases hy : LV.getD j none with
  | none => exact ⟨none, 0, 0, rfl, Reads.none_⟩
  | some y =>
    obtain ⟨b, x⟩ := y
    have hm : some (b, x) ∈ LV := by
      rw [List.getD, Option.getD_eq_iff] at hy
      rcases hy with h | ⟨-, h⟩
      · exact List.mem_of_getElem? h
      · cases h
    obtain ⟨h1, h2⟩ := h.el b x hm
    exact ⟨some ⟨b, 0, none⟩, 64, 64, rfl, reads_blk h1 h2.symm⟩
theorem Sem.crash {s : DSt} {LV : List (Option (Nat × List Int))} {k i : Nat} (h : Sem s LV k i) (hl : s.laid.length = s.n * 64) (K : List Int) (hK : ∀ j, j < s.line.length → hasI K j = true) :
    Sem { s with off := false, laid := layF (fun i => hasI K i) s.laid s.line s.line.length, line := [] } LV 0 i :=
  ⟨rfl, h.n, fun x hx => (List.not_mem_nil hx).elim, rfl, Nat.zero_le _, h.wr, h.fl, h.lv, fun j hj => by
    rw [← h.sem j hj, readF_rd, readF_rd]
    have := sec_lay (p := fun i => hasI K i) (no := j) hl h.ok s.line.length (Nat.le_refl _) (fun i hi => hK i hi)
    rw [List.take_length] at this
    exact this⟩
theorem Ks.len {w W : World} {g : Nat} {s : DSt} {O : Nat → Prop} (h : Ks w W g s O) : s.laid.length = s.n * 64 := by
  obtain ⟨⟨vl, vq, hD, -⟩, -⟩ := h
  have := hD.laid.1
  rw [bsC_len] at this
  exact this
theorem Sem.more {s : DSt} {LV : List (Option (Nat × List Int))} {k i j : Nat} (h : Sem s LV k i) (hj : i ≤ j) : Sem s LV k j :=
  ⟨h.off, h.n, h.ok, h.len, Nat.le_trans h.ki hj, ⟨h.wr.1, by have := h.wr.2; omega⟩, ⟨h.fl.1, by have := h.fl.2; omega⟩, h.lv, h.sem⟩

set_option maxRecDepth 100000 in
set_option maxHeartbeats 8000000 in
theorem last_walk (A : Option Addr) (n c : Nat) (D : Nat → ActI) (w : World) (hA : ∀ i, i < n → ActAt w A i (D i)) :
    Calls Try.prog 3 #[.slice A n c] w fun e w' => e = .returned (.bool true) ∧ Below w.heap.size w w' := by
  have HA := Sl.mk hA
  have hm8 := mk8
  clear hA
  go_enter Try.func3, Try.ntmps3
  go_wp2_with fail
  refine (knew 8 w (w0 := w) (by omega) (by omega) (Below.refl _ _)).mono ?_
  rintro e w1 ⟨g, rfl, hK1, hB1⟩
  go_upto_block 0 with fail
  have hLS : LS w (w1.alloc (.cells (lvC (lv0)).toArray 30)) g w1.heap.size (new0 8) (lv0) (.slice none 0 0) 0 := by
    have hb := (Below.refl w1.heap.size w1).alloc (Nat.le_refl _) (.cells (lvC (lv0)).toArray 30)
    refine ⟨(hK1.add hb (b := w1.heap.size) (Nat.le_refl _) (by simp)).sub (fun k hk => ?_), Blk.new _ _ _, fun b x hx => ?_, by simpa [upK, isC] using World.ownsRow_nil _ _ _ _, hB1.size⟩
    · rcases hk with h | h | ⟨y, h⟩
      · exact .inr h
      · simp [Value.ownBlock] at h
      · have := List.eq_of_mem_replicate h; cases this
    · have := List.eq_of_mem_replicate hx; cases this
  obtain ⟨gl, hgl⟩ : ∃ gl, w1.heap.size = gl := ⟨_, rfl⟩
  obtain ⟨w2, hw2⟩ : ∃ w2, w1.alloc (.cells (lvC (lv0)).toArray 30) = w2 := ⟨_, rfl⟩
  rw [hw2, hgl] at hLS
  rw [hw2]
  have HG := Sl.mk hgl
  clear hw2 hK1 hB1 hm8
  try rw [hgl]
  clear hgl HG
  go_cut [6] (fun v6 wx => ∃ (k : Nat) (s : DSt) (LV : List (Option (Nat × List Int))) (Ak : Option Addr) (ck : Nat), v6 = .slice Ak k ck ∧ LS w wx g gl s LV (.slice Ak k ck) k ∧ Sem s LV k 60)
  case first =>
    go_wp2_with fail
    go_loopw [6, 7, 8] (fun s6 s7 _ wr => ∃ (i k : Nat) (s : DSt) (LV : List (Option (Nat × List Int))) (Ak : Option Addr) (ck : Nat), i ≤ n ∧ i ≤ 30 ∧ s7 = .int .i64 i ∧ s6 = .slice Ak k ck ∧ LS w wr g gl s LV (.slice Ak k ck) k ∧ Sem s LV k (2 * i)) (fun _ s7 _ _ => 30 - (intOf s7).toNat)
    case atStart => exact ⟨0, 0, new0 8, lv0, none, 0, Nat.zero_le _, Nat.zero_le _, rfl, rfl, hLS, Sem.start⟩
    case round =>
      obtain ⟨i, k, s, LV, Ak, ck, hi, hi30, rfl, rfl, hL, hS⟩ := hrel
      clear hLS
      by_cases h1 : i < n
      · by_cases h2 : i < 30
        · have h1' : decide ((i : Int) < (n : Int)) = true := by simpa using h1
          have h2' : decide ((i : Int) < 30) = true := by simp; omega
          obtain ⟨ad, rfl, hab, ca0, ca1, ca2, hRb⟩ := HA.out i h1
          have cb0 := (hL.ks.below.cell (p := ad.add (i * 4)) (by rw [block_of_add]; exact hab)).trans ca0
          have cb1 := (hL.ks.below.cell (p := ad.add (i * 4 + 1)) (by rw [block_of_add]; exact hab)).trans ca1
          have cb2 := (hL.ks.below.cell (p := ad.add (i * 4 + 2)) (by rw [block_of_add]; exact hab)).trans ca2
          have i0 : (0 : Int) ≤ (i : Int) := by omega
          have i1 : (i : Int) < (n : Int) := by omega
          have cc1 : wr.cell? ⟨(ad.add (i * 4)).block, (ad.add (i * 4)).off + 1, none⟩ = some (.int .i64 (D i).no) := by rw [add_lit _ 1 (by omega), add_of_add]; exact cb1
          have cc2 : wr.cell? ⟨(ad.add (i * 4)).block, (ad.add (i * 4)).off + 2, none⟩ = some (.slice (D i).A (D i).n (D i).c) := by rw [add_lit _ 2 (by omega), add_of_add]; exact cb2
          have HAi := Sl.mk (And.intro hab (And.intro ca2 hRb))
          clear ca0 ca1 ca2 cb1 cb2 hRb
          go_upto_if 48 with fail
          obtain ⟨no, hno, hno8⟩ := no_of (D i).no
          rw [hno]
          clear hno
          go_cut [6] (fun v6 wx => ∃ (k' : Nat) (s' : DSt) (Ak' : Option Addr) (ck' : Nat), v6 = .slice Ak' k' ck' ∧ LS w wx g gl s' LV (.slice Ak' k' ck') k' ∧ Sem s' LV k' (2 * i + 1))
          case first =>
            go_wp2_with fail
            · refine (kflush hL.ks hS.off hS.ok (by have := hS.len; have := hS.ki; omega) (by rw [hS.n]; omega) (by have := hS.fl; omega)).mono ?_
              rintro e w5 ⟨rfl, hK5, hk5⟩
              have hL5 := (hL.disk hK5 hk5).nokeep
              have hS5 := hS.flush hL.ks.len
              clear hL hS hK5 hk5
              go_wp2_with fail
              go_meet
              exact ⟨0, _, none, 0, rfl, hL5, hS5⟩
            · go_meet
              exact ⟨k, s, Ak, ck, rfl, hL, hS.more (by omega)⟩
          case rest =>
            obtain ⟨k', s', Ak', ck', rfl, hL2, hS2⟩ := hcut
            clear hL hS cb0 cc1 cc2
            obtain ⟨hab, ca2, hRb⟩ := HAi.out
            have hbw := hL2.ks.below
            have cc2 : wc.cell? ⟨(ad.add (i * 4)).block, (ad.add (i * 4)).off + 2, none⟩ = some (.slice (D i).A (D i).n (D i).c) := by rw [add_lit _ 2 (by omega), add_of_add]; exact (hbw.cell (p := ad.add (i * 4 + 2)) (by rw [block_of_add]; exact hab)).trans ca2
            clear ca2 hRb hab
            go_wp2_with fail
            refine (full_any (D i).A (D i).n (D i).c (D i).b wc ((HAi.out.2.2.below hbw).more hbw.size)).mono ?_
            rintro e w5 ⟨rfl, hX5, hB5⟩
            have hL5 := hL2.be hB5
            have hn2 := hS2.n
            have hno2 : no < s'.n := by rw [hn2]; exact hno8
            have hs2 := hS2.len
            have hk2 := hS2.ki
            have hw2 := hS2.wr
            clear hL2 hbw hB5 cc2
            go_wp2_with fail
            refine (kwrite hL5.ks (some ⟨wc.heap.size, 0, none⟩) 64 no (fullF (D i).b) (fullF_len _) hS2.off hno2 (by omega) (by omega) (reads_blk hX5 (fullF_len _).symm)).mono ?_
            rintro e w6 ⟨rfl, hK6, hk6⟩
            have hL6 := hL5.disk hK6 hk6
            clear hL5 hX5 hK6 hk6
            obtain ⟨hab, ca2, hRb⟩ := HAi.out
            have hbw := hL6.ks.below
            have cc2 : w6.cell? ⟨(ad.add (i * 4)).block, (ad.add (i * 4)).off + 2, none⟩ = some (.slice (D i).A (D i).n (D i).c) := by rw [add_lit _ 2 (by omega), add_of_add]; exact (hbw.cell (p := ad.add (i * 4 + 2)) (by rw [block_of_add]; exact hab)).trans ca2
            clear ca2 hRb hab
            go_wp2_with fail
            refine (full_any (D i).A (D i).n (D i).c (D i).b w6 ((HAi.out.2.2.below hbw).more hbw.size)).mono ?_
            rintro e w7 ⟨rfl, hX7, hB7⟩
            have hL7 := hL6.be hB7
            have hlv := hS2.lv
            have hu : ∃ u, w7.cell? ⟨gl, no, none⟩ = some u := by
              rw [hL7.last.cell, List.getElem?_toArray]; exact ⟨_, List.getElem?_eq_getElem (by unfold lvC; rw [List.length_map, hlv]; exact hno8)⟩
            obtain ⟨u, hu⟩ := hu
            have hf := hL7.last.frozen no
            have hS8 := hS2.write (b := w6.heap.size) (fullF_len (D i).b) hno8 hk2
            have hL8 := hL6.put (no := no) hB7 hX7 (Nat.le_refl _) (fullF_len _)
            have j0 : (0 : Int) ≤ (no : Int) := by omega
            have j1 : (no : Int) < 8 := by omega
            have HL8 := Sl.mk hL8
            have HS8 := Sl.mk hS8
            clear hL6 hL7 hX7 hB7 hbw cc2 hS2 hL8 hS8 hn2 hno2 hs2 hw2 hlv
            have hk30 : k' ≤ 1000 := by omega
            have hge8 : w.heap.size ≤ (w7.setCell ⟨gl, no, none⟩ (.slice (some ⟨w6.heap.size, 0, none⟩) 64 64)).heap.size := HL8.out.ks.below.size
            obtain ⟨ii, hi0, hz0, hz1, hz2⟩ := info_parts infoInt
            have hsz8 : (w7.setCell ⟨gl, no, none⟩ (.slice (some ⟨w6.heap.size, 0, none⟩) 64 64)).heap.size = w7.heap.size := by simp [World.setCell]
            have hRk := reads_newL (w7.setCell ⟨gl, no, none⟩ (.slice (some ⟨w6.heap.size, 0, none⟩) 64 64)) [.int .i64 k'] 3 (Nat.lt_succ_self _)
            rw [hsz8] at hRk hge8
            have HRk := Sl.mk hRk
            have HS8z := Sl.mk hsz8
            clear hRk hsz8
            go_wp2_with (at_builtin; (refine wpList_append_anyG _ (by rfl) (.tmp 71) (.tmp 74) 28 rfl w.heap.size 3 ii (.int .i64 0) 1 8 Try.underlying28 hi0 hz0 hz1 hz2 (by rfl) (by decide) (.slice Ak' k' ck') k' (isC (upK k')) rfl (HL8.out.keep.alloc _) _ _ 1 1 [.int .i64 k'] rfl HRk.out (by simp [Value.oneCell']) (by unfold maxLen; omega) (by omega) (by simp only [World.size_alloc]; rw [HS8z.out]; omega) ?_))
            intro v1 w9 hown hG hb
            have hup : isC (upK k') ++ [Value.int .i64 k'] = isC (upK (k' + 1)) := by rw [upK_succ]; simp [isC]
            rw [hup] at hown
            have hL9 := HL8.out.more ((Below.refl _ _).alloc (Nat.le_refl _) _) hG hown (hb.imp id (fun e => e.trans (by simp [World.setCell])))
            obtain ⟨A9, c9, rfl⟩ := ownForm hown
            have HL9 := Sl.mk hL9
            clear hown hG hb hL9 hup HL8 hu hf HRk HS8z
            go_wp2_with fail
            go_roundw
            case rel => exact ⟨i + 1, k' + 1, _, _, A9, c9, by omega, by omega, by go_num, rfl, HL9.out, HS8.out.more (by omega)⟩
            case measure => simp [intOf]; omega
        · have h1' : decide ((i : Int) < (n : Int)) = true := by simpa using h1
          have h2' : decide ((i : Int) < 30) = false := by simp; omega
          go_wp2_with fail
          go_meet
          exact ⟨k, s, LV, Ak, ck, rfl, hL, hS.more (by omega)⟩
      · have h1' : decide ((i : Int) < (n : Int)) = false := by simp; omega
        go_wp2_with fail
        go_meet
        exact ⟨k, s, LV, Ak, ck, rfl, hL, hS.more (by omega)⟩
  case rest =>
    obtain ⟨k, s, LV, Ak, ck, rfl, hL, hS⟩ := hcut
    clear hLS HA
    go_wp2_with fail
    go_loopw [9, 10, 11, 12] (fun s9 _ _ _ wr => ∃ (t ks : Nat) (s : DSt), t ≤ 2 ∧ s9 = .int .i64 t ∧ LS w wr g gl s LV (.slice Ak k ck) k ∧ (t < 2 → Sem s LV ks 60 ∧ (t = 0 → ks = k))) (fun s9 _ _ _ _ => 2 - (intOf s9).toNat)
    case atStart => exact ⟨0, k, s, by omega, rfl, hL, fun _ => ⟨hS, fun _ => rfl⟩⟩
    case round =>
      obtain ⟨t, ks, s, ht, rfl, hL, hSt⟩ := hrel
      clear hS
      by_cases ht2 : t < 2
      · obtain ⟨hS, hks⟩ := hSt ht2
        clear hSt
        have ht2' : (t : Int) < 2 := by omega
        obtain ⟨wo, hwo⟩ : ∃ wo, wo = wr := ⟨_, rfl⟩
        subst hwo
        go_wp2_with fail
        go_loopw [10, 11, 12] (fun s10 _ _ wi => ∃ j : Nat, j ≤ 8 ∧ s10 = .int .i64 j ∧ LS w wi g gl s LV (.slice Ak k ck) k) (fun s10 _ _ _ => 8 - (intOf s10).toNat)
        case atStart => exact ⟨0, by omega, rfl, hL⟩
        case round =>
          obtain ⟨j, hj, rfl, hLj⟩ := hrel
          clear hL
          by_cases hj8 : j < 8
          · have hj8' : (j : Int) < 8 := by omega
            have j0 : (0 : Int) ≤ (j : Int) := by omega
            have hn2 := hS.n
            have hs2 := hS.len
            have hk2 := hS.ki
            have hsem := Sl.mk (hS.sem j hj8)
            go_wp2_with fail
            refine (kread hLj.ks j hS.off (by rw [hn2]; exact hj8) (by omega) (by omega)).mono ?_
            rintro e w5 ⟨A5, c5, rfl, hR5, hB5, -⟩
            have hL5 := hLj.be hB5
            obtain ⟨Av, nv, cv, hv, hRv⟩ := hL5.reads j
            have hc5 : w5.cell? ⟨gl, j, none⟩ = some (.slice Av nv cv) := by
              rw [hL5.last.cell, List.getElem?_toArray, ← hv]
              unfold lvC
              rw [List.getElem?_map, List.getElem?_eq_getElem (by rw [hS.lv]; exact hj8)]
              simp [List.getD, hS.lv, hj8]
            clear hLj hB5 hv hn2 hs2 hk2
            go_wp2_with fail
            refine (full_any Av nv cv _ _ hRv).mono ?_
            rintro e w6 ⟨rfl, hX6, hB6⟩
            have hL6 := hL5.be hB6
            have hR6 := (hR5.below hB6).more hB6.size
            clear hL5 hR5 hRv hB6 hc5
            go_wp2_with fail
            refine (same_any _ _ 64 64 _ _ _ _ _ (by omega) hR6 (reads_blk hX6 (fullF_len _).symm)).mono ?_
            rintro e w7 ⟨rfl, hB7⟩
            rw [hsem.out, show ∀ l, sameB l l = true from fun l => by simp [sameB]]
            have hL7 := hL6.be hB7
            clear hL6 hR6 hX6 hB7 hsem
            go_wp2_with fail
            go_roundw
            case rel => exact ⟨j + 1, by omega, by go_num, hL7⟩
            case measure => simp [intOf]; omega
          · obtain rfl : j = 8 := by omega
            have hn2 := hS.n
            have hs2 := hS.len
            have hk2 := hS.ki
            rcases Nat.eq_zero_or_pos t with h0 | h0
            · subst h0
              obtain rfl := hks rfl
              go_wp2_with fail
              refine (kcrash hLj.ks Ak ks ck (upK ks) hS.ok (by omega) (by omega) (by omega) (Reads.of_own hLj.keep) (fun _ ad e => .inl (.inr (.inl (by rw [e]; rfl))))).mono ?_
              rintro e w5 ⟨rfl, hK5, hk5⟩
              have hL5 := hLj.disk hK5 hk5
              have hS5 := hS.crash hLj.ks.len (upK ks) (fun i hi => upK_has (by omega))
              have hcnt : cntF (fun i => hasI (upK ks) i) s.line.length = ks := by rw [hs2]; exact cntF_all ks (fun i hi => upK_has hi)
              rw [hcnt]
              clear hLj hK5 hk5 hS hn2 hs2 hk2 hcnt
              go_wp2_with fail
              refine (kpower hL5.ks).mono ?_
              rintro e w6 ⟨rfl, hK6, hk6⟩
              have hL6 := hL5.disk hK6 hk6
              clear hL5 hK6 hk6
              go_wp2_with fail
              exact ⟨⟨1, 0, _, by omega, by go_num, hL6, fun _ => ⟨hS5, fun h => by omega⟩⟩, by simp [intOf]⟩
            · obtain rfl : t = 1 := by omega
              go_wp2_with fail
              refine (kpower hLj.ks).mono ?_
              rintro e w6 ⟨rfl, hK6, hk6⟩
              have hL6 := hLj.disk hK6 hk6
              clear hLj hK6 hk6
              go_wp2_with fail
              exact ⟨⟨2, 0, _, by omega, by go_num, hL6, fun h => by omega⟩, by simp [intOf]⟩
      · obtain rfl : t = 2 := by omega
        go_wp2_with fail
        refine (known_any _).mono ?_
        rintro e w5 ⟨rfl, hB5⟩
        have hf := hL.ks.below.trans (hB5.mono hL.ks.below.size)
        clear hL
        go_wp2_with fail
        go_ret
        exact ⟨rfl, hf⟩

end Go.Proofs.Ytpffdlnjpjoikaa
