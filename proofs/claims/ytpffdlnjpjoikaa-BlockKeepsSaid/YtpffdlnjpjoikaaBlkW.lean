/-
  The walk of the law BlockKeeps.
-/
import Derived.Test.YtpffdlnjpjoikaaBlkU
import Derived.Deep.DeepCutAuto
import Derived.Deep.Cut
import Derived.Deep.CutBlock
import Derived.Deep.RegionHeld3
namespace Go.Proofs.Ytpffdlnjpjoikaa
open Go.RowKit
attribute [local go_sem ↓] Go.wp_at_zero Go.wp_at_succ

/-- Between the rounds of the first loop. -/
structure Old (s : DSt) (i : Nat) : Prop where
  off : s.off = false
  n : s.n = 8
  ok : ∀ x ∈ s.line, x.no < s.n
  len : s.line.length ≤ i
  wr : 0 ≤ s.wr ∧ s.wr ≤ i
  fl : s.fl = 0

theorem own_cap {W : World} {base n c g size : Nat} {e : TypeId} {xs : List Value} (h : W.ownsRow base e size (.slice (some ⟨g, 0, none⟩) n c) n xs) : n ≤ c ∧ c ≤ 9223372036854775807 := by
  rcases h.2 with ⟨h1, -⟩ | ⟨g', cap, cur, hv, -, -, h3, h4, -⟩
  · cases h1
  · injection hv with _ _ hc
    subst hc
    exact ⟨h3, h4⟩

set_option maxRecDepth 100000 in
set_option maxHeartbeats 16000000 in
theorem keeps_walk (Ao Aw Ak : Option Addr) (no nw nk co cw ck : Nat) (Do : Nat → RowI) (D : Nat → ActI) (ks : List Int) (w : World) (hO : ∀ i, i < no → RowAt w Ao i (Do i)) (hW : ∀ i, i < nw → ActAt w Aw i (D i)) (m1 : Nat) (hk : nk ≤ ck) (hkc : ck ≤ 9223372036854775807) (hm1 : (nk ≤ 30 ∧ m1 = nk) ∨ (30 < nk ∧ m1 = 30)) (hR : Reads w w.heap.size 1 Ak m1 (isC ks)) :
    Calls Try.prog 4 #[.slice Ao no co, .slice Aw nw cw, .slice Ak nk ck] w fun e w' => e = .returned (.bool true) ∧ Below w.heap.size w w' := by
  have HO := Sl.mk hO
  have HW := Sl.mk hW
  have HR := Sl.mk hR
  clear hO hW hR
  go_enter Try.func4, Try.ntmps4
  go_wp2_with fail
  refine (knew 8 w (w0 := w) (by omega) (by omega) (Below.refl _ _)).mono ?_
  rintro e w1 ⟨g, rfl, hK1, hB1⟩
  clear hB1
  go_upto_block 0 with fail
  go_cut [9] (fun _ wx => ∃ s : DSt, Ks w wx g s (fun _ => False) ∧ Old s 8)
  case first =>
    go_wp2_with fail
    go_loopw [9] (fun s9 wr => ∃ (i : Nat) (s : DSt), i ≤ no ∧ i ≤ 8 ∧ s9 = .int .i64 i ∧ Ks w wr g s (fun _ => False) ∧ Old s i) (fun s9 _ => 8 - (intOf s9).toNat)
    case atStart => exact ⟨0, new0 8, Nat.zero_le _, Nat.zero_le _, rfl, hK1, ⟨rfl, rfl, fun x hx => (List.not_mem_nil hx).elim, Nat.zero_le _, ⟨Int.le_refl 0, Int.le_refl 0⟩, rfl⟩⟩
    case round =>
      obtain ⟨i, s, hi, hi8, rfl, hK, hS⟩ := hrel
      clear hK1
      by_cases h1 : i < no
      · have h1' : decide ((i : Int) < (no : Int)) = true := by simpa using h1
        by_cases h2 : i < 8
        · have h2' : decide ((i : Int) < 8) = true := by simp; omega
          obtain ⟨ad, rfl, hab, ca, hRb⟩ := HO.out i h1
          have cb := (hK.below.cell (p := ad.add i) (by rw [block_of_add]; exact hab)).trans ca
          have i0 : (0 : Int) ≤ (i : Int) := by omega
          have i1 : (i : Int) < (no : Int) := by omega
          have hRw := Sl.mk ((hRb.below hK.below).more hK.below.size)
          clear ca hRb hab
          go_wp2_with fail
          refine (full_any (Do i).A (Do i).n (Do i).c (Do i).b _ hRw.out).mono ?_
          rintro e w5 ⟨rfl, hX5, hB5⟩
          have hK5 := hK.be hB5
          have hn2 := hS.n
          have hl2 := hS.len
          have hw2 := hS.wr
          clear hK hB5 cb hRw
          go_wp2_with fail
          refine (kwrite hK5 _ 64 i (fullF (Do i).b) (fullF_len _) hS.off (by rw [hn2]; exact h2) (by omega) (by omega) (reads_blk hX5 (fullF_len _).symm)).mono ?_
          rintro e w6 ⟨rfl, hK6, -⟩
          clear hK5 hX5
          have hS6 : Old { s with line := s.line ++ [⟨i, fullF (Do i).b, fullF_len _⟩], wr := s.wr + 1 } (i + 1) := ⟨hS.off, hS.n, fun y hy => by
            rcases List.mem_append.1 hy with h | h
            · exact hS.ok y h
            · simp at h; subst h; simp only; rw [hn2]; exact h2, by simp; omega, ⟨by simp only; omega, by simp only; omega⟩, hS.fl⟩
          have HS6 := Sl.mk hS6
          clear hS hS6 hn2 hl2 hw2
          go_wp2_with fail
          go_roundw
          case rel => exact ⟨i + 1, _, by omega, by omega, by go_num, hK6, HS6.out⟩
          case measure => simp [intOf]; omega
        · have h2' : decide ((i : Int) < 8) = false := by simp; omega
          obtain rfl : i = 8 := by omega
          go_wp2_with fail
          go_meet
          exact ⟨s, hK, hS⟩
      · have h1' : decide ((i : Int) < (no : Int)) = false := by simp; omega
        have hS' : Old s 8 := ⟨hS.off, hS.n, hS.ok, Nat.le_trans hS.len hi8, ⟨hS.wr.1, by have := hS.wr.2; omega⟩, hS.fl⟩
        clear hS
        go_wp2_with fail
        go_meet
        exact ⟨s, hK, hS'⟩
  case rest =>
    obtain ⟨s, hK, hS⟩ := hcut
    have hn2 := hS.n
    have hl2 := hS.len
    clear hK1
    go_wp2_with fail
    refine (kflush hK hS.off hS.ok (by omega) (by omega) (by rw [hS.fl]; decide)).mono ?_
    rintro e w2 ⟨rfl, hK2, -⟩
    obtain ⟨L0, hL0⟩ : ∃ L0, layF (fun _ => true) s.laid s.line s.line.length = L0 := ⟨_, rfl⟩
    obtain ⟨s2, hs2⟩ : ∃ s2 : DSt, s2 = { s with laid := layF (fun _ => true) s.laid s.line s.line.length, line := [], fl := s.fl + 1 } := ⟨_, rfl⟩
    rw [← hs2] at hK2
    have e1 : s2.off = false := by rw [hs2]; exact hS.off
    have e2 : s2.n = 8 := by rw [hs2]; exact hn2
    have e3 : s2.line = [] := by rw [hs2]
    have e4 : s2.laid = L0 := by rw [hs2]; exact hL0
    have e5 : 0 ≤ s2.wr ∧ s2.wr ≤ 8 := by rw [hs2]; exact hS.wr
    have HE := Sl.mk (And.intro e1 (And.intro e2 (And.intro e3 (And.intro e4 e5))))
    clear hS hn2 hl2 hK hL0 hs2 e1 e2 e3 e4 e5
    go_wp2_with fail
    refine (kcopy hK2 (by rw [HE.out.2.2.1]; decide) (by rw [HE.out.2.1]; decide)).mono ?_
    rintro e w3 ⟨gc, vl, vq, rfl, hC3, hB3⟩
    have hK3 := hK2.addset hB3 (M := mine gc vl vq) (fun k hm => ⟨hC3.ge k hm, hC3.lt k hm⟩)
    have hws2 := hK2.below.size
    clear hK2 hB3
    go_wp2_with fail
    refine (klaid hK3 (by rw [HE.out.2.1]; decide)).mono ?_
    rintro e w4 ⟨A4, c4, rfl, hO4, hB4⟩
    rw [HE.out.2.1, HE.out.2.2.2.1] at hO4
    rw [HE.out.2.1]
    have hO4' : w4.ownsRow w3.heap.size 5 1 (.slice A4 512 c4) 512 (bsC L0) := hO4
    obtain ⟨bw, cbw, hv, hbw1, hbw2, -⟩ := ownCells hO4' (by omega)
    injection hv with hA _ hc
    subst hA hc
    have hK4 := hK3.add hB4 hbw1 hbw2
    have hC4 := hC3.be hB4
    have hclt := hC3.lt
    have hcge := hC3.ge
    have hw2 := hK3.below.size
    clear hO4 hB4 hC3
    have hmin : (if (30 : Int) < (nk : Int) then (30 : Int) else (nk : Int)) = (m1 : Int) := by split <;> omega
    have hmin2 : min (nk : Int) 30 = (m1 : Int) := by omega
    have hz0 : (0 : Int) ≤ (m1 : Int) := by omega
    have hz1 : (m1 : Int) ≤ (ck : Int) := by omega
    have hm1' : m1 ≤ 30 := by omega
    go_upto_region 15 with fail
    go_cut [2] (fun v2 wx => v2 = .slice Ak m1 ck ∧ wx = w4)
    case first =>
      rcases hm1 with ⟨h10, rfl⟩ | ⟨h10, rfl⟩
      all_goals
        go_wp2_with fail
        go_meet
        exact ⟨by first | rfl | simp, rfl⟩
    case rest =>
      obtain ⟨rfl, rfl⟩ := hcut
      clear hmin hmin2 hz0 hz1 hm1 hk hkc
      obtain ⟨Al, cl, Aq, cq, rfl, rfl⟩ := hC4.forms
      have hkr := (HR.out.below hK4.below).more hK4.below.size
      have hge2 := hC4.ge
      have hka : 0 < m1 → ∀ ad, Ak = some ad → ¬ mine gc (.slice Al s2.n cl) (.slice Aq s2.line.length cq) ad.block := fun h0 ad e hm => by
        obtain ⟨ad', e', hb, -⟩ := HR.out.2 h0
        rw [e] at e'; injection e' with e'; subst e'
        have := hge2 _ hm
        omega
      go_wp2_with fail
      refine (crash_any gc s2 Al Aq Ak cl cq m1 ck ks w2.heap.size _ hC4 (fun x hx => by rw [HE.out.2.2.1] at hx; exact (List.not_mem_nil hx).elim) (by rw [HE.out.2.2.1]; decide) (by rw [HE.out.2.1]; decide) (by omega) hkr hka).mono ?_
      rintro e w5 ⟨rfl, vl', vq', hD5, ht5, -⟩
      have e0 : s2.line.length = 0 := by rw [HE.out.2.2.1]; rfl
      rw [e0]
      have hcnt : cntF (fun i => hasI ks i) 0 = 0 := rfl
      rw [hcnt]
      have hL5 : layF (fun i => hasI ks i) s2.laid s2.line s2.line.length = L0 := by rw [e0]; exact HE.out.2.2.2.1
      rw [hL5] at hD5
      have hK5 := hK4.touch ht5 (fun k hm => ⟨.inl (.inr hm), by have := hcge k hm; omega⟩)
      have hO5 := ht5.row hO4' (fun k hk hm => by
        have h1 := hclt k hm
        have h2 := ownGe hO4' hk
        omega)
      obtain ⟨Al5, cl5, Aq5, cq5, rfl, rfl⟩ := hD5.forms
      clear hK4 hO4' hC4 hclt hcge ht5 hkr hka hge2 hL5 hcnt e0
      go_wp2_with fail
      refine (laid_any gc _ Al5 cl5 _ w2.heap.size _ hD5 (by simp only; rw [HE.out.2.1]; decide)).mono ?_
      rintro e w6 ⟨A6, c6, rfl, hO6, hB6⟩
      have hK6 := hK5.be hB6
      have hW6 := own_below hO5 hB6
      have hO6' : w6.ownsRow w5.heap.size 5 1 (.slice A6 512 c6) 512 (bsC L0) := by
        have := hO6
        simp only at this
        rw [HE.out.2.1] at this
        exact this
      simp only [HE.out.2.1]
      clear hK5 hO5 hD5 hO6 hB6
      go_wp2_with fail
      refine (same_any _ _ 512 512 _ _ _ _ _ (by omega) (Reads.of_own hO6') (Reads.of_own hW6)).mono ?_
      rintro e w7 ⟨rfl, hB7⟩
      rw [show sameB L0 L0 = true by simp [sameB]]
      have hK7 := (hK6.be hB7).sub (O' := fun k => k = bw) (fun k hk => .inr hk)
      have hW7 := own_below hW6 hB7
      clear hK6 hW6 hO6' hB7
      have hS7 : s2.off = false ∧ s2.n = 8 ∧ s2.line = wl D 0 ∧ s2.laid = L0 ∧ 0 ≤ s2.wr ∧ s2.wr ≤ 8 + (0 : Nat) := ⟨HE.out.1, HE.out.2.1, by rw [HE.out.2.2.1]; rfl, HE.out.2.2.2.1, HE.out.2.2.2.2.1, by have := HE.out.2.2.2.2.2; omega⟩
      obtain ⟨n2, hn2a, hn2b, hn2c⟩ : ∃ n2, n2 ≤ nw ∧ n2 ≤ 30 ∧ (n2 = nw ∨ n2 = 30) := by
        rcases Nat.lt_or_ge nw 30 with h | h
        · exact ⟨nw, Nat.le_refl _, by omega, .inl rfl⟩
        · exact ⟨30, h, Nat.le_refl _, .inr rfl⟩
      go_upto_block 2 with fail
      go_cut [12] (fun _ wx => ∃ s : DSt, Ks w wx g s (fun k => k = bw) ∧ wx.ownsRow w3.heap.size 5 1 (.slice (some ⟨bw, 0, none⟩) 512 c4) 512 (bsC L0) ∧ s.off = false ∧ s.n = 8 ∧ s.line = wl D n2 ∧ s.laid = L0)
      case first =>
        go_wp2_with fail
        go_loopw [12] (fun s12 wr => ∃ (i : Nat) (s : DSt), i ≤ nw ∧ i ≤ 30 ∧ s12 = .int .i64 i ∧ Ks w wr g s (fun k => k = bw) ∧ wr.ownsRow w3.heap.size 5 1 (.slice (some ⟨bw, 0, none⟩) 512 c4) 512 (bsC L0) ∧ s.off = false ∧ s.n = 8 ∧ s.line = wl D i ∧ s.laid = L0 ∧ 0 ≤ s.wr ∧ s.wr ≤ 8 + i) (fun s12 _ => 30 - (intOf s12).toNat)
        case atStart => exact ⟨0, s2, Nat.zero_le _, Nat.zero_le _, rfl, hK7, hW7, hS7⟩
        case round =>
          obtain ⟨i, s, hi, hi30, rfl, hK, hOw, hoff, hsn, hsl, hsL, hwr⟩ := hrel
          clear hK7 hW7 hS7
          have HSI := Sl.mk (And.intro hoff (And.intro hsn (And.intro hsl (And.intro hsL hwr))))
          clear hoff hsn hsl hsL hwr
          by_cases h1 : i < nw
          · have h1' : decide ((i : Int) < (nw : Int)) = true := by simpa using h1
            by_cases h2 : i < 30
            · have h2' : decide ((i : Int) < 30) = true := by simp; omega
              obtain ⟨ad, rfl, hab, ca0, ca1, ca2, hRb⟩ := HW.out i h1
              have HAi := Sl.mk (And.intro hab (And.intro ca1 (And.intro ca2 hRb)))
              clear hab ca0 ca1 ca2 hRb
              have i0 : (0 : Int) ≤ (i : Int) := by omega
              have i1 : (i : Int) < (nw : Int) := by omega
              have hw1 : wrap64 ((IntKind.u64.wrap (D i).no).tmod 8) = (noN (D i).no : Int) := noN_of _
              have hw2 : IntKind.i64.wrap ((IntKind.u64.wrap (D i).no).tmod 8) = (noN (D i).no : Int) := (IntKind.wrap_i64 _).trans (by have := noN_of (D i).no; unfold wrap64 at this; exact this)
              have hcs : Sl (∀ W, Below w.heap.size w W → W.cell? ⟨(ad.add (i * 4)).block, (ad.add (i * 4)).off + 1, none⟩ = some (.int .i64 (D i).no) ∧ W.cell? ⟨(ad.add (i * 4)).block, (ad.add (i * 4)).off + 2, none⟩ = some (.slice (D i).A (D i).n (D i).c)) := Sl.mk (fun W hb => by
                obtain ⟨hab, ca1, ca2, -⟩ := HAi.out
                exact ⟨by rw [add_lit _ 1 (by omega), add_of_add]; exact (hb.cell (p := ad.add (i * 4 + 1)) (by rw [block_of_add]; exact hab)).trans ca1, by rw [add_lit _ 2 (by omega), add_of_add]; exact (hb.cell (p := ad.add (i * 4 + 2)) (by rw [block_of_add]; exact hab)).trans ca2⟩)
              have hKd := hK.be (Below.refl wr.heap.size wr).drew
              have hOd := own_below hOw (Below.refl wr.heap.size wr).drew
              have hSd := hcs.out _ hKd.below
              have hRd := (HAi.out.2.2.2.below hKd.below).more hKd.below.size
              have hlen := HSI.out.2.2.1
              have hle : s.line.length ≤ 1000000 := by rw [hlen, wl_len]; omega
              have hwr : 0 ≤ s.wr ∧ s.wr ≤ 1000000 := by have := HSI.out.2.2.2.2; omega
              have hnl : noN (D i).no < s.n := by rw [HSI.out.2.1]; exact noN_lt _
              clear hlen hK hOw
              go_wp2_with fail
              go_region_held3 (fun W => W.cell? ⟨(ad.add (i * 4)).block, (ad.add (i * 4)).off + 1, none⟩ = some (.int .i64 (D i).no) ∧ W.cell? ⟨(ad.add (i * 4)).block, (ad.add (i * 4)).off + 2, none⟩ = some (.slice (D i).A (D i).n (D i).c)) (first | assumption | exact hSd)
                (first
                  | (go_at_call 10; refine (full_any (D i).A (D i).n (D i).c (D i).b _ hRd).mono ?_; rintro e w8 ⟨rfl, hX8, hB8⟩; have hK8 := hKd.be hB8; have hO8 := own_below hOd hB8; have hS8 := hcs.out _ hK8.below)
                  | (go_at_call 9; refine (kwrite hK8 _ 64 (noN (D i).no) (fullF (D i).b) (fullF_len _) HSI.out.1 hnl hle hwr (reads_blk hX8 (fullF_len _).symm)).mono ?_; rintro e w9 ⟨rfl, hK9, hk9⟩; have hS9 := hcs.out _ hK9.below))
              all_goals
                have hO9 := row_keep hO8 hk9 (fun k e => by simp [Value.ownBlock] at e; exact e.symm)
                have hS9' : s.line ++ [⟨noN (D i).no, fullF (D i).b, fullF_len _⟩] = wl D (i + 1) := by rw [HSI.out.2.2.1, wl_succ]
                have hwr9 : 0 ≤ s.wr + 1 ∧ s.wr + 1 ≤ 8 + (i + 1 : Nat) := by have := HSI.out.2.2.2.2; omega
                have HS9 := Sl.mk (And.intro hS9' hwr9)
                clear hS9' hwr9 hKd hOd hSd hRd hX8 hB8 hK8 hO8 hS8 hk9 hS9
                go_wp2_with fail
                go_roundw
                case rel => exact ⟨i + 1, _, by omega, by omega, by go_num, hK9, hO9, HSI.out.1, HSI.out.2.1, HS9.out.1, HSI.out.2.2.2.1, HS9.out.2⟩
                case measure => simp [intOf]; omega
            · have h2' : decide ((i : Int) < 30) = false := by simp; omega
              obtain rfl : i = n2 := by omega
              go_wp2_with fail
              go_meet
              exact ⟨s, hK, hOw, HSI.out.1, HSI.out.2.1, HSI.out.2.2.1, HSI.out.2.2.2.1⟩
          · have h1' : decide ((i : Int) < (nw : Int)) = false := by simp; omega
            obtain rfl : i = n2 := by omega
            go_wp2_with fail
            go_meet
            exact ⟨s, hK, hOw, HSI.out.1, HSI.out.2.1, HSI.out.2.2.1, HSI.out.2.2.2.1⟩
      case rest =>
        obtain ⟨s, hK, hOw, hoff, hsn, hsl, hsL⟩ := hcut
        clear hK7 hW7 hS7
        have HSI := Sl.mk (And.intro hoff (And.intro hsn (And.intro hsl hsL)))
        clear hoff hsn hsl hsL
        have hkr := (HR.out.below hK.below).more hK.below.size
        go_wp2_with fail
        refine (kcrash hK Ak m1 ck ks (fun x hx => by rw [HSI.out.2.2.1] at hx; rw [HSI.out.2.1]; exact wl_ok D n2 x hx) (by rw [HSI.out.2.2.1, wl_len]; omega) (by rw [HSI.out.2.1]; decide) (by omega) hkr (fun h0 ad e => by
          obtain ⟨ad', e', hb, -⟩ := HR.out.2 h0
          rw [e] at e'; injection e' with e'; subst e'
          exact .inr hb)).mono ?_
        rintro e w8 ⟨rfl, hK8, hk8⟩
        have hO8 := row_keep hOw hk8 (fun k e => by simp [Value.ownBlock] at e; exact e.symm)
        rw [HSI.out.2.2.1, HSI.out.2.2.2] at hK8
        obtain ⟨s8, hs8⟩ : ∃ s8 : DSt, s8 = { s with off := true, laid := layF (fun i => hasI ks i) L0 (wl D n2) (wl D n2).length, line := [] } := ⟨_, rfl⟩
        rw [← hs8] at hK8
        have hf8 : s8.off = true ∧ s8.n = 8 ∧ s8.line = [] ∧ s8.laid = layF (fun i => hasI ks i) L0 (wl D n2) (wl D n2).length := by rw [hs8]; exact ⟨rfl, HSI.out.2.1, rfl, rfl⟩
        have HF := Sl.mk hf8
        clear hs8 hK hOw hk8 hkr hf8
        go_wp2_with fail
        refine (klaid hK8 (by rw [HF.out.2.1]; decide)).mono ?_
        rintro e w9 ⟨A9, c9, rfl, hO9, hB9⟩
        obtain ⟨L1, hL1⟩ : ∃ L1, L1 = layF (fun i => hasI ks i) L0 (wl D n2) (wl D n2).length := ⟨_, rfl⟩
        rw [HF.out.2.1, HF.out.2.2.2, ← hL1] at hO9
        rw [HF.out.2.1]
        have hO9' : w9.ownsRow w8.heap.size 5 1 (.slice A9 512 c9) 512 (bsC L1) := hO9
        obtain ⟨bn, cbn, hv, -, -, -⟩ := ownCells hO9' (by omega)
        injection hv with hA _ hc
        subst hA hc
        have hO8' := own_below hO8 hB9
        have hK9 := hK8.be hB9
        have hcw := own_cap hO8'
        have hcn := own_cap hO9'
        clear hO9 hO8 hK8 hB9
        have hll : L0.length = 8 * 64 := by have := hO8'.1; rw [bsC_len] at this; omega
        have HN := Sl.mk (And.intro hO9' (And.intro hO8' (And.intro hK9 (And.intro hL1 hll))))
        clear hO9' hO8' hK9 hL1 hll
        go_upto_block 4 with fail
        go_cut [14, 15, 16, 17] (fun _ _ _ _ wx => Below w9.heap.size w9 wx)
        case first =>
          go_wp2_with fail
          go_loopw [14, 15, 16, 17] (fun s14 _ _ _ wr => ∃ i : Nat, i ≤ 8 ∧ s14 = .int .i64 i ∧ Below w9.heap.size w9 wr) (fun s14 _ _ _ _ => 8 - (intOf s14).toNat)
          case atStart => exact ⟨0, by omega, rfl, Below.refl _ _⟩
          case round =>
            obtain ⟨i, hi8, rfl, hB⟩ := hrel
            by_cases h2 : i < 8
            · have h2' : decide ((i : Int) < 8) = true := by simp; omega
              have hOn := own_below HN.out.1 hB
              have hOw := own_below HN.out.2.1 hB
              have q1 : IntKind.i64.wrap (64 * (i : Int)) = ((64 * i : Nat) : Int) := by rw [IntKind.wrap_i64]; omega
              have q2 : IntKind.i64.wrap (((64 * i : Nat) : Int) + 64) = ((64 * i + 64 : Nat) : Int) := by rw [IntKind.wrap_i64]; omega
              have e64 : 64 * i + 64 - 64 * i = 64 := by omega
              go_wp2_with fail
              simp only [e64]
              refine (same_any (some ⟨bn, 64 * i, none⟩) (some ⟨bw, 64 * i, none⟩) 64 64 _ _ _ _ _ (by omega) (reads_part hOn (by omega) (by omega)) (reads_part hOw (by omega) (by omega))).mono ?_
              rintro e wa ⟨rfl, hBa⟩
              have hBw := hB.trans (hBa.mono hB.size)
              rw [show sameB ((L1.drop (64 * i)).take 64) ((L0.drop (64 * i)).take 64) = okF D (secF L1 i) (secF L0 i) i 0 by rw [okF_zero, secF, secF, Nat.mul_comm]]
              clear hBa hOn hOw hB
              go_upto_block 6 with fail
              go_cut [16, 17] (fun s16 _ wx => s16 = .bool true ∧ Below w9.heap.size w9 wx)
              case first =>
                go_wp2_with fail
                go_loopw [16, 17] (fun s16 s17 wr => ∃ t : Nat, t ≤ nw ∧ t ≤ 30 ∧ s17 = .int .i64 t ∧ s16 = .bool (okF D (secF L1 i) (secF L0 i) i t) ∧ Below w9.heap.size w9 wr) (fun _ s17 _ => 30 - (intOf s17).toNat)
                case atStart => exact ⟨0, by omega, by omega, rfl, rfl, hBw⟩
                case round =>
                  obtain ⟨t, ht, ht30, rfl, rfl, hB⟩ := hrel
                  clear hBw
                  by_cases h1 : t < nw
                  · have h1' : decide ((t : Int) < (nw : Int)) = true := by simpa using h1
                    by_cases h2t : t < 30
                    · have h2t' : decide ((t : Int) < 30) = true := by simp; omega
                      obtain ⟨ad, rfl, hab, ca0, ca1, ca2, hRb⟩ := HW.out t h1
                      have HAi := Sl.mk (And.intro hab (And.intro ca1 (And.intro ca2 hRb)))
                      clear hab ca0 ca1 ca2 hRb
                      have i0 : (0 : Int) ≤ (t : Int) := by omega
                      have i1 : (t : Int) < (nw : Int) := by omega
                      have hok := okF_succ D (secF L1 i) (secF L0 i) i t
                      by_cases hacc : okF D (secF L1 i) (secF L0 i) i t = true
                      · rw [hacc]
                        rw [hacc, Bool.true_or] at hok
                        go_wp2_with fail
                        go_roundw
                        case rel => exact ⟨t + 1, by omega, by omega, by go_num, by rw [hok], hB⟩
                        case measure => simp [intOf]; omega
                      · have hacc : okF D (secF L1 i) (secF L0 i) i t = false := by simpa using hacc
                        rw [hacc]
                        rw [hacc, Bool.false_or] at hok
                        have hw1 : wrap64 ((IntKind.u64.wrap (D t).no).tmod 8) = (noN (D t).no : Int) := noN_of _
                        have hw2 : IntKind.i64.wrap ((IntKind.u64.wrap (D t).no).tmod 8) = (noN (D t).no : Int) := (IntKind.wrap_i64 _).trans (by have := noN_of (D t).no; unfold wrap64 at this; exact this)
                        have hcs : Sl (∀ W, Below w.heap.size w W → W.cell? ⟨(ad.add (t * 4)).block, (ad.add (t * 4)).off + 1, none⟩ = some (.int .i64 (D t).no) ∧ W.cell? ⟨(ad.add (t * 4)).block, (ad.add (t * 4)).off + 2, none⟩ = some (.slice (D t).A (D t).n (D t).c)) := Sl.mk (fun W hb => by
                          obtain ⟨hab, ca1, ca2, -⟩ := HAi.out
                          exact ⟨by rw [add_lit _ 1 (by omega), add_of_add]; exact (hb.cell (p := ad.add (t * 4 + 1)) (by rw [block_of_add]; exact hab)).trans ca1, by rw [add_lit _ 2 (by omega), add_of_add]; exact (hb.cell (p := ad.add (t * 4 + 2)) (by rw [block_of_add]; exact hab)).trans ca2⟩)
                        by_cases hns : noN (D t).no = i
                        · have hns' : decide ((noN (D t).no : Int) = (i : Int)) = true := by simp; omega
                          have hKd := HN.out.2.2.1.be hB
                          have hSd := hcs.out _ hKd.below
                          have hRd := (HAi.out.2.2.2.below hKd.below).more hKd.below.size
                          have hOn := own_below HN.out.1 hB
                          have hok' : okF D (secF L1 i) (secF L0 i) i (t + 1) = sameB ((L1.drop (64 * i)).take 64) (fullF (D t).b) := by
                            rw [hok, hns, secF, Nat.mul_comm]; simp
                          obtain ⟨hs1, hs2⟩ := hSd
                          clear hKd hok
                          go_wp2_with fail
                          refine (full_any (D t).A (D t).n (D t).c (D t).b _ hRd).mono ?_
                          rintro e wb ⟨rfl, hXb, hBb⟩
                          have hOb := own_below hOn hBb
                          have hBb' := hB.trans (hBb.mono hB.size)
                          clear hRd hOn hBb hs1 hs2
                          go_wp2_with fail
                          refine (same_any (some ⟨bn, 64 * i, none⟩) _ 64 64 _ _ _ _ _ (by omega) (reads_part hOb (by omega) (by omega)) (reads_blk hXb (fullF_len _).symm)).mono ?_
                          rintro e wd ⟨rfl, hBd⟩
                          have hBe := hBb'.trans (hBd.mono hBb'.size)
                          clear hBd hBb' hXb hOb
                          go_wp2_with fail
                          go_roundw
                          case rel => exact ⟨t + 1, by omega, by omega, by go_num, by rw [hok'], hBe⟩
                          case measure => simp [intOf]; omega
                        · have hns' : decide ((noN (D t).no : Int) = (i : Int)) = false := by simp; omega
                          have hKd := HN.out.2.2.1.be hB
                          have hSd := hcs.out _ hKd.below
                          have hok' : okF D (secF L1 i) (secF L0 i) i (t + 1) = false := by
                            rw [hok, Bool.and_eq_false_iff]; exact .inl (by simpa using hns)
                          obtain ⟨hs1, hs2⟩ := hSd
                          go_wp2_with fail
                          exact ⟨⟨t + 1, by omega, by omega, by go_num, by rw [hok'], hB⟩, by simp [intOf]; omega⟩
                    · have h2t' : decide ((t : Int) < 30) = false := by simp; omega
                      obtain rfl : t = n2 := by omega
                      have hfin : okF D (secF L1 i) (secF L0 i) i t = true := by rw [HN.out.2.2.2.1]; exact okF_true HN.out.2.2.2.2
                      rw [hfin]
                      go_wp2_with fail
                      go_meet
                      exact ⟨rfl, hB⟩
                  · have h1' : decide ((t : Int) < (nw : Int)) = false := by simp; omega
                    obtain rfl : t = n2 := by omega
                    have hfin : okF D (secF L1 i) (secF L0 i) i t = true := by rw [HN.out.2.2.2.1]; exact okF_true HN.out.2.2.2.2
                    rw [hfin]
                    go_wp2_with fail
                    go_meet
                    exact ⟨rfl, hB⟩
              case rest =>
                obtain ⟨rfl, hB⟩ := hcut
                clear hBw
                go_wp2_with fail
                go_roundw
                case rel => exact ⟨i + 1, by omega, by go_num, hB⟩
                case measure => simp [intOf]; omega
            · have h2' : decide ((i : Int) < 8) = false := by simp; omega
              go_wp2_with fail
              go_meet
              exact hB
        case rest =>
          have hB := hcut
          clear hcut
          have hKz := HN.out.2.2.1.be hB
          go_wp2_with fail
          refine (known_any _).mono ?_
          rintro e wa ⟨rfl, hBa⟩
          have hKa := hKz.be hBa
          clear hKz hBa
          go_wp2_with fail
          refine (kwaiting hKa).mono ?_
          rintro e _ ⟨rfl, rfl⟩
          rw [HF.out.2.2.1]
          go_wp2_with fail
          refine (kon hKa).mono ?_
          rintro e _ ⟨rfl, rfl⟩
          rw [HF.out.1]
          have hf := hKa.below
          clear hKa
          go_wp2_with fail
          go_ret
          exact ⟨rfl, hf⟩

end Go.Proofs.Ytpffdlnjpjoikaa
