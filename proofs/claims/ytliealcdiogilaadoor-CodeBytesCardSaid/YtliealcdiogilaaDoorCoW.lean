/-
  The contract of code's Encode.
-/
import Derived.Test.YtliealcdiogilaaDoorCoT
import Derived.Test.YtliealcdiogilaaDoorCoU
import Derived.Lib.SlBytesConst
import Derived.Lib.SmallJoins
import Derived.ArgAppend
import Derived.Lib.SlBytesConst
import Derived.Lib.SmallJoins
namespace Go.Proofs.YtliealcdiogilaaDoor
open Go.RowKit
attribute [local go_sem ↓] Go.wp_at_zero Go.wp_at_succ

theorem own_to {w : World} {base N c : Nat} {A : Option Addr} {xs : List Value} (h : w.ownsRow base 5 1 (.slice A N c) N xs) (L : List Nat) (hN : N = L.length) (hx : xs = u8s L) : w.ownsRow base 5 1 (.slice A L.length c) L.length (u8s L) := by
  subst hN hx
  exact h
def encP (l : List Ci) (i : Nat) : List Nat := [72, 79, 79, 75, l.length] ++ (l.take i).flatMap encI
theorem encP_len {l : List Ci} {n : Int} (h : ∀ x ∈ l, rightI x n = true) (i : Nat) : (encP l i).length ≤ 62 * i + 5 := by
  have := encB_take h i
  unfold encP
  rw [List.length_append]
  simp only [List.length_cons, List.length_nil]
  omega
theorem encP_step {l : List Ci} {i : Nat} {x : Ci} (h : l[i]? = some x) : encP l (i + 1) = encP l i ++ encI x := by
  unfold encP
  rw [take_snoc h, List.flatMap_append, List.append_assoc]
  simp
theorem mark_cells (w : World) (l : List Value) (t : TypeId) (fr : Nat × Nat) (o : Obj) : ∀ b, some (⟨w.heap.size, 0, none⟩ : Addr) = some b → ∀ j u, l[j]? = some u → ((w.alloc (.cells l.toArray t fr)).alloc o).cell? (b.add j) = some u := fun b hb j u hj => by
  rw [← Option.some.inj hb]
  have hadd : (⟨w.heap.size, 0, none⟩ : Addr).add j = ⟨w.heap.size, j, none⟩ := by unfold Addr.add; split <;> simp_all
  rw [hadd, World.cell?_alloc_lt _ _ _ (by simp), World.cell?_alloc_mark]
  simpa using hj
theorem new_cells (w : World) (v : Value) (t : TypeId) : ∀ j u, [v][j]? = some u → (w.alloc (.cells #[v] t)).cell? ((⟨w.heap.size, 0, none⟩ : Addr).add j) = some u := fun j u hj => by
  obtain ⟨ad, e, _, h⟩ := (reads_new1 w v t (Nat.lt_succ_self _)).2 (by omega)
  rw [Option.some.inj e]
  exact h j u hj

set_option maxRecDepth 100000 in
set_option maxHeartbeats 8000000 in
theorem encode_any (A : Option Addr) (n c : Nat) (l : List Ci) (w : World) (hn : n ≤ 1000000) (hI : Is w A n l) (hP : Spw w w.heap.size) :
    Calls Tryd.prog 16 #[.slice A n c] w (EnPost w l) := by
  obtain ⟨i0, hi0, hz0, hz1, hz2⟩ := info_parts u8Info
  have HCK := Sl.mk (check_any A n c l w hn hI hP)
  unfold CkPost at HCK
  have HN := Sl.mk hI.n_
  obtain ⟨ci, ce, hce⟩ : ∃ ci ce, chkF l = (ci, ce) := ⟨_, _, rfl⟩
  have HCE := Sl.mk hce
  rw [hce] at HCK
  by_cases h0 : ce = 0
  · subst h0
    obtain ⟨hc1, hc2, hc3⟩ := chk_zero (l := l) (by rw [hce])
    have HI := Sl.mk hI
    have HRR := Sl.mk (show ∀ x ∈ l, rightI x (n : Nat) = true from fun x hx => by
      obtain ⟨j, hj, rfl⟩ := List.mem_iff_getElem.1 hx
      rw [← HN.out]
      exact hc2 j _ (List.getElem?_eq_getElem hj))
    have hn2 : n ≤ 200 := by rw [← HN.out]; exact hc1
    have kc := fun (w : World) (C : Array Value) (n c : Nat) => Lib.run_convert_bytes_const (P := Tryd.prog) w 47 5 C n c Tryd.underlying47 Tryd.underlying5
    have hwn : IntKind.u8.wrap (n : Int) = n := IntWalk.u8_in _ (by omega)
    clear hI hP hce hc1 hc2 hc3 hn
    go_enter Tryd.func16, Tryd.ntmps16
    go_wp2_with fail
    refine HCK.out.mono ?_
    rintro e w1 ⟨rfl, hb1⟩
    have HB1 := Sl.mk hb1
    have HMC := Sl.mk (mark_cells w1 [.int .u8 72, .int .u8 79, .int .u8 79, .int .u8 75] 5 (4, 5) (.cells #[.int .u8 (n : Nat)] 5))
    have HNC := Sl.mk (new_cells (w1.alloc (.cells #[.int .u8 72, .int .u8 79, .int .u8 79, .int .u8 75] 5 (4, 5))) (.int .u8 (n : Nat)) 5)
    clear hb1 HCK
    go_wp2_with (at_builtin; refine wpList_append_grows _ rfl (.tmp 18) (.tmp 22) 47 rfl 5 i0 (.int .u8 0) 1 1 Tryd.underlying47 hi0 hz0 hz1 hz2 rfl (by decide) (some ⟨w1.heap.size, 0, none⟩) 4 4 [.int .u8 72, .int .u8 79, .int .u8 79, .int .u8 75] rfl (fun e => by cases e) rfl HMC.out ⟨w1.heap.size + 1, 0, none⟩ 1 1 [.int .u8 (n : Nat)] rfl rfl (by simpa using HNC.out) (by intro u hu; simp at hu; subst hu; rfl) (by omega) (by unfold maxLen; omega) (by omega) ?_)
    intro v2 w2 ho2 hg2
    have hE2 : Below w.heap.size w w2 := (below_al (below_al HB1.out _) _).grown hg2 (by have := HB1.out.size; simp; omega) (fun g hg => by cases hg)
    have hge := HB1.out.size
    have ho5 : w2.ownsRow w.heap.size 5 1 v2 5 (u8s (encP l 0)) := by
      have := Go.Joins.ownsRow_le ho2 (base' := w.heap.size) (by first | omega | (simp; omega))
      unfold encP
      rw [HN.out]
      simpa [u8s] using this
    have HO5 := Sl.mk ho5
    have HE2 := Sl.mk hE2
    clear ho2 hg2 HMC HNC hE2 hge ho5 kc HB1
    obtain ⟨A2, c2, rfl⟩ := ownForm HO5.out
    go_wp2_with fail
    go_loopg [6, 26] n (fun q v6 v26 wr => ∃ (i : Nat) (A6 : Option Addr) (c6 : Nat), q = n - i ∧ i ≤ n ∧ v26 = .int .i64 i ∧ v6 = .slice A6 (encP l i).length c6 ∧ wr.ownsRow w.heap.size 5 1 (.slice A6 (encP l i).length c6) (encP l i).length (u8s (encP l i)) ∧ Below w.heap.size w wr)
    case atStart => exact ⟨0, A2, c2, rfl, Nat.zero_le _, rfl, rfl, HO5.out, HE2.out⟩
    case round =>
      clear HO5 HE2
      obtain ⟨i, A6, c6, hq, hi, rfl, rfl, hO, hE⟩ := hrel
      by_cases hlt : i < n
      · obtain ⟨x, hx⟩ : ∃ x, l[i]? = some x := ⟨_, List.getElem?_eq_getElem (by rw [HN.out]; exact hlt)⟩
        obtain ⟨ab, ao, rfl, hbl, hld, hsl⟩ := (HI.out.be hE).lit hx
        have hPL := encP_len HRR.out i
        obtain ⟨P, hP⟩ : ∃ P, encP l i = P := ⟨_, rfl⟩
        have HP2 := Sl.mk (show encP l (i + 1) = P ++ encI x by rw [encP_step hx, hP])
        rw [hP] at hO hPL
        rw [hP]
        have hR := HRR.out x (List.mem_of_getElem? hx)
        obtain ⟨op, m, s⟩ := x
        obtain ⟨ho1, ho2⟩ := right_word hR
        obtain ⟨k, rfl⟩ : ∃ k : Nat, op = k := ⟨op.toNat, by omega⟩
        obtain ⟨hm1, hm2⟩ := right_num hR (by omega)
        obtain ⟨j, rfl⟩ : ∃ j : Nat, m = j := ⟨m.toNat, by omega⟩
        have hs60 := right_text hR
        have hwk : IntKind.u8.wrap (k : Int) = k := IntWalk.u8_in _ (by omega)
        have HQ := Sl.mk (show n - (i + 1) < gk ∧ i + 1 ≤ n by omega)
        have hw1 := below_al (Below.refl wr.heap.size wr) (.cells #[.int .i64 k, .int .i64 j, .string (bsS s)] 45)
        have HB0 := Sl.mk (Blk.new wr 45 #[.int .i64 k, .int .i64 j, .string (bsS s)])
        have HO := Sl.mk (own_below hO hw1)
        have HE := Sl.mk (below_tr hE hw1)
        have HSZ := Sl.mk (show w.heap.size ≤ wr.heap.size from hE.size)
        have hPl2 : P.length ≤ 20000 := by omega
        obtain ⟨wx, hwx⟩ : ∃ wx, wr.alloc (.cells #[.int .i64 k, .int .i64 j, .string (bsS s)] 45) = wx := ⟨_, rfl⟩
        have HWX := Sl.mk hwx
        rw [hwx] at HB0 HO HE
        clear hx hR hP hO hE hw1 hq hsl hwx hPL
        go_upto_region 8 with (refine ld_i hld rfl (.tmp 28) rfl rfl ?_)
        rw [HWX.out]
        have g0 := HB0.out.cell 0
        have HNU := Sl.mk (fun W => number_any (k : Int) W)
        have hsz := HSZ.out
        go_wp2_with (refine wpList_append_any _ rfl (.tmp 30) (.tmp 34) 47 rfl w.heap.size 5 i0 (.int .u8 0) 1 1 Tryd.underlying47 hi0 hz0 hz1 hz2 rfl (by decide) (.slice A6 P.length c6) P.length (u8s P) rfl (HO.out.alloc _) (wx.heap.size + 1) _ 1 1 [.int .u8 k] rfl (reads_new1 wx _ _ (Nat.lt_succ_self _)) (by intro u hu; simp at hu; subst hu; rfl) (by unfold maxLen; omega) (by omega) ?_ ?_; exact Nat.le_trans HE.out.size (below_al (Below.refl wx.heap.size wx) _).size; (intro v7 w7 ho7 hg7 _; have HE7 := Sl.mk ((HE.out.alloc HE.out.size (.cells #[.int .u8 k] 5)).grown hg7 (Nat.le_trans HE.out.size (below_al (Below.refl wx.heap.size wx) _).size) (fun q hq => ownGe HO.out hq)); have HB7 := Sl.mk ((HB0.out.alloc (.cells #[.int .u8 k] 5)).grown hg7 (fun e => own_blk_ne HO.out HB0.out (by decide) e.symm)); have HO7 := Sl.mk ho7; obtain ⟨A7, c7, hv7⟩ := ownForm ho7; subst hv7; have q0 := HB7.out.cell 0; have q1 := HB7.out.cell 1; have q2 := HB7.out.cell 2; clear ho7 hg7))
        refine (HNU.out _).mono ?_
        rintro e w8 ⟨rfl, rfl⟩
        clear HNU g0 HB0 HO HE HWX hld
        cases hnb : numB (k : Int)
        · by_cases hk2 : k = 2
          · subst hk2
            have HX := Sl.mk (show encI ⟨((2 : Nat) : Int), (j : Int), s⟩ = 2 :: s.length :: s.map UInt8.toNat by
              unfold encI; simp only; rw [if_neg (by decide), if_pos (by decide)]; rfl)
            have HP3 := Sl.mk (show encP l (i + 1) = P ++ [2] ++ [s.length] ++ s.map UInt8.toNat by rw [HP2.out, HX.out]; simp)
            have hz := bs_size s
            have hws : IntKind.u8.wrap (s.length : Int) = s.length := IntWalk.u8_in _ (by omega)
            clear hnb
            go_upto_region 12 with fail
            obtain ⟨wd, hwd⟩ : ∃ wd, w8.drew = wd := ⟨_, rfl⟩
            have HBd : Sl (Blk wd wr.heap.size 45 #[.int .i64 (2 : Nat), .int .i64 (j : Nat), .string (bsS s)]) := Sl.mk (by rw [← hwd]; exact HB7.out.drew)
            have HOd := Sl.mk (show wd.ownsRow w.heap.size 5 1 (.slice A7 (P.length + 1) c7) (P.length + 1) (u8s P ++ [.int .u8 (2 : Nat)]) by rw [← hwd]; exact HO7.out)
            have HEd := Sl.mk (show Below w.heap.size w wd by rw [← hwd]; exact HE7.out.drew)
            have HSF : Sl (∀ W, Blk W wr.heap.size 45 #[.int .i64 (2 : Nat), .int .i64 (j : Nat), .string (bsS s)] → W.cell? ⟨wr.heap.size, 2, none⟩ = some (.string (bsS s))) := Sl.mk (fun W hW => hW.cell 2)
            refine wp_region_X (fun W => Blk W wr.heap.size 45 #[.int .i64 (2 : Nat), .int .i64 (j : Nat), .string (bsS s)]) [9, 10] (by kernel_rfl) (by rw [hwd]; exact HBd.out) (fun hS => ?_)
            rw [hwd] at hS ⊢
            clear hwd HB7 HO7 HE7 q0 q1 q2
            refine wpAnyX_S (i := 0) (v := ?_) rfl (by kernel_rfl) (by kernel_rfl) (by kernel_rfl) (by kernel_rfl) (fun _ _ _ h => h) (Or.inl ⟨by rfl, ?_⟩) hS ?_
            rotate_left 1
            · (intro w' hw'; (first | rw [hw'] | (have hw2 := HSF.out w' hw') | skip); go_simp; (try with_reducible rfl))
            simp only [Act.put, List.setIfInBounds_toArray, List.set_cons_zero, List.set_cons_succ]
            refine wpAnyX_S (i := 1) (v := ?_) rfl (by kernel_rfl) (by kernel_rfl) (by kernel_rfl) (by kernel_rfl) (fun _ _ _ h => h) (Or.inl ⟨by rfl, ?_⟩) hS ?_
            rotate_left 1
            · (intro w' hw'; (first | rw [hw'] | (have hw2 := HSF.out w' hw') | skip); go_simp; (try with_reducible rfl))
            simp only [Act.put, List.setIfInBounds_toArray, List.set_cons_zero, List.set_cons_succ]
            refine wpAnyX_S (i := 2) (v := ?_) rfl (by kernel_rfl) (by kernel_rfl) (by kernel_rfl) (by kernel_rfl) (fun _ _ _ h => h) (Or.inl ⟨by rfl, ?_⟩) hS ?_
            rotate_left 1
            · (intro w' hw'; (first | rw [hw'] | (have hw2 := HSF.out w' hw') | skip); go_simp; (try with_reducible rfl))
            simp only [Act.put, List.setIfInBounds_toArray, List.set_cons_zero, List.set_cons_succ]
            refine wpAnyX_S (i := 3) (v := ?_) rfl (by kernel_rfl) (by kernel_rfl) (by kernel_rfl) (by kernel_rfl) (fun _ _ _ h => h) (Or.inl ⟨by rfl, ?_⟩) hS ?_
            rotate_left 1
            · (intro w' hw'; (first | rw [hw'] | (have hw2 := HSF.out w' hw') | skip); go_simp; (try with_reducible rfl))
            simp only [Act.put, List.setIfInBounds_toArray, List.set_cons_zero, List.set_cons_succ]
            refine wpAnyX_S (i := 4) (v := ?_) rfl (by kernel_rfl) (by kernel_rfl) (by kernel_rfl) (by kernel_rfl) (fun _ _ _ h => h) (Or.inl ⟨by rfl, ?_⟩) hS ?_
            rotate_left 1
            · (intro w' hw'; (first | rw [hw'] | (have hw2 := HSF.out w' hw') | skip); go_simp; (try with_reducible rfl))
            simp only [Act.put, List.setIfInBounds_toArray, List.set_cons_zero, List.set_cons_succ]
            refine wpAnyX_S (i := 7) (v := ?_) rfl (by kernel_rfl) (by kernel_rfl) (by kernel_rfl) (by kernel_rfl) (fun _ _ _ h => h) (Or.inl ⟨by rfl, ?_⟩) hS ?_
            rotate_left 1
            · (intro w' hw'; (first | rw [hw'] | (have hw2 := HSF.out w' hw') | skip); go_simp; (try with_reducible rfl))
            simp only [Act.put, List.setIfInBounds_toArray, List.set_cons_zero, List.set_cons_succ]
            refine wpAnyX_S (i := 8) (v := ?_) rfl (by kernel_rfl) (by kernel_rfl) (by kernel_rfl) (by kernel_rfl) (fun _ _ _ h => h) (Or.inl ⟨by rfl, ?_⟩) hS ?_
            rotate_left 1
            · (intro w' hw'; (first | rw [hw'] | (have hw2 := HSF.out w' hw') | skip); go_simp; (try with_reducible rfl))
            simp only [Act.put, List.setIfInBounds_toArray, List.set_cons_zero, List.set_cons_succ]
            refine wpAnyX_oneL (k := 5) rfl (by kernel_rfl) rfl ?_
            refine wp_of_run (v := .slice (some ⟨wd.heap.size, 0, none⟩) 1 1) (w' := wd.alloc (.cells #[.int .u8 (s.length : Nat)] 5)) (by go_simp) ⟨fun _ => hS.alloc _, ?_⟩
            simp only [Act.put, List.setIfInBounds_toArray, List.set_cons_zero, List.set_cons_succ]
            have hE1 := HEd.out.alloc HEd.out.size (.cells #[.int .u8 (s.length : Nat)] 5)
            have hS1 : Blk (wd.alloc (.cells #[.int .u8 (s.length : Nat)] 5)) wr.heap.size 45 #[.int .i64 (2 : Nat), .int .i64 (j : Nat), .string (bsS s)] := hS.alloc _
            refine wpAnyX_oneL (k := 6) rfl (by kernel_rfl) rfl ?_
            refine wp_append_any _ (.tmp 54) (.tmp 59) 47 rfl w.heap.size 5 i0 (.int .u8 0) 1 1 Tryd.underlying47 hi0 hz0 hz1 hz2 rfl (by decide) (.slice A7 (P.length + 1) c7) (P.length + 1) _ rfl (HOd.out.alloc _) (wd.heap.size + 1) _ 1 1 [.int .u8 (s.length : Nat)] rfl (reads_new1 wd _ _ (Nat.lt_succ_self _)) (by intro u hu; simp at hu; subst hu; rfl) (by unfold maxLen; omega) (by omega) hE1.size ?_
            intro v9 w9 ho9 hg9 _
            have hE9 := hE1.grown hg9 hE1.size (fun q hq => ownGe HOd.out hq)
            have hS9 := hS1.grown hg9 (fun e => own_blk_ne HOd.out hS (by decide) e.symm)
            obtain ⟨A9, c9, hv9⟩ := ownForm ho9
            subst hv9
            refine ⟨fun _ => hS9, ?_⟩
            simp only [Act.put, List.setIfInBounds_toArray, List.set_cons_zero, List.set_cons_succ]
            have HO9 := Sl.mk ho9
            have HE9 := Sl.mk hE9
            clear hE1 hS1 ho9 hg9 hE9 hS9 hS HBd HOd HEd HSF
            refine wpAnyX_tailF [9, 10] (by kernel_rfl) (by rfl) (by rfl) (by rfl) ?_
            simp only [List.filterMap_cons, List.filterMap_nil, List.getElem?_cons_succ, List.getElem?_cons_zero]
            refine Lib.wpList_append_own_string _ rfl (.tmp 60) (.tmp 62) 47 9 rfl w.heap.size 5 i0 Tryd.underlying47 Tryd.underlying9 hi0 hz0 hz1 hz2 (.slice A9 (P.length + 1 + 1) c9) (P.length + 1 + 1) _ rfl HO9.out (bsS s) rfl (by unfold maxLen; omega) (by omega) HE9.out.size ?_
            intro v10 w10 ho10 hg10 _
            have HE10 := Sl.mk (HE9.out.grown hg10 HE9.out.size (fun q hq => ownGe HO9.out hq))
            obtain ⟨A10, c10, hv10⟩ := ownForm ho10
            subst hv10
            rw [hz] at ho10 ⊢
            have HO10 := Sl.mk ho10
            clear ho10 hg10 HO9 HE9
            go_wp2_with fail
            refine NoPanic.normal ?_
            go_wp2_with fail
            go_roundg (n - (i + 1))
            case measure => exact HQ.out.1
            case rel => exact ⟨i + 1, A10, c10, rfl, HQ.out.2, by go_num, by rw [HP3.out]; simp; omega, by rw [HP3.out]; exact own_to HO10.out _ (by simp; omega) (by simp [u8s, Lib.strCells, bsS]), HE10.out⟩
          · have HX := Sl.mk (show encI ⟨(k : Int), (j : Int), s⟩ = [k] by
              unfold encI; simp only; rw [if_neg (by rw [hnb]; simp), if_neg (by omega), Int.toNat_natCast])
            have hkb : ((k : Int) == 2) = false := by simp; omega
            have HP3 := Sl.mk (show encP l (i + 1) = P ++ [k] by rw [HP2.out, HX.out])
            clear hnb hk2
            go_wp2_with fail
            go_roundg (n - (i + 1))
            case measure => exact HQ.out.1
            case rel => exact ⟨i + 1, A7, c7, rfl, HQ.out.2, by go_num, by rw [HP3.out]; simp, by rw [HP3.out]; exact own_to HO7.out _ (by simp) (by simp [u8s]), HE7.out⟩
        · have HX := Sl.mk (show encI ⟨(k : Int), (j : Int), s⟩ = [k, j / 256, j % 256] by
            unfold encI; simp only; rw [if_pos hnb, Int.toNat_natCast, Int.toNat_natCast])
          have hw1 : IntKind.u8.wrap ((j : Int) / 256) = ((j / 256 : Nat) : Int) := IntWalk.u8_in _ (by omega)
          have hw2 : IntKind.u8.wrap (j : Int) = ((j % 256 : Nat) : Int) := by rw [IntKind.wrap_u8]; omega
          have HP3 := Sl.mk (show encP l (i + 1) = P ++ [k] ++ [j / 256, j % 256] by rw [HP2.out, HX.out]; simp)
          clear hnb
          go_wp2_with (refine wpList_append_any _ rfl (.tmp 40) (.tmp 48) 47 rfl w.heap.size 5 i0 (.int .u8 0) 1 1 Tryd.underlying47 hi0 hz0 hz1 hz2 rfl (by decide) (.slice A7 (P.length + 1) c7) (P.length + 1) _ rfl (HO7.out.alloc _) (w8.heap.size + 1) _ 2 2 [.int .u8 ((j : Int) / 256), .int .u8 ((j : Int) % 256)] rfl (reads_new2 w8 _ _ _ (Nat.lt_succ_self _)) (by intro u hu; simp at hu; rcases hu with rfl | rfl <;> rfl) (by unfold maxLen; omega) (by omega) ?_ ?_; exact Nat.le_trans HE7.out.size (below_al (Below.refl w8.heap.size w8) _).size; (intro v9 w9 ho9 hg9 _; have HE9 := Sl.mk ((HE7.out.alloc HE7.out.size (.cells #[.int .u8 ((j : Int) / 256), .int .u8 ((j : Int) % 256)] 5)).grown hg9 (Nat.le_trans HE7.out.size (below_al (Below.refl w8.heap.size w8) _).size) (fun q hq => ownGe HO7.out hq)); have HO9 := Sl.mk ho9; obtain ⟨A9, c9, hv9⟩ := ownForm ho9; subst hv9; clear ho9 hg9))
          go_roundg (n - (i + 1))
          case measure => exact HQ.out.1
          case rel => exact ⟨i + 1, A9, c9, rfl, HQ.out.2, by go_num, by rw [HP3.out]; simp, by rw [HP3.out]; exact own_to HO9.out _ (by simp) (by simp [u8s]), HE9.out⟩
      · obtain rfl : i = n := by omega
        have hfin : encP l i = encB l := by unfold encP encB; rw [← HN.out, List.take_length]
        rw [hfin] at hO ⊢
        have HO := Sl.mk hO
        have HE := Sl.mk hE
        clear hO hE hfin hq hi hlt
        go_wp2_with fail
        go_ret2
        refine ⟨HE.out, ?_⟩
        rw [HCE.out, if_neg (by simp)]
        exact ⟨A6, c6, rfl, HO.out⟩
  · have hb : (ce != 0) = true := by simpa using h0
    have H0 := Sl.mk h0
    clear hI hP hce h0
    go_enter Tryd.func16, Tryd.ntmps16
    go_wp2_with (go_at_call 28; refine HCK.out.mono ?_; rintro e w1 ⟨rfl, hb1⟩; have HB1 := Sl.mk hb1; clear hb1)
    go_ret2
    refine ⟨HB1.out, ?_⟩
    rw [HCE.out, if_pos H0.out]
    rfl
end Go.Proofs.YtliealcdiogilaaDoor
