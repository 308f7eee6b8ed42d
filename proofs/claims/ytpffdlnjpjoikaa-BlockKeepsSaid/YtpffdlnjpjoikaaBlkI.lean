/-
  Laid; Full, all, Same.
-/
import Derived.Test.YtpffdlnjpjoikaaBlkH
namespace Go.Proofs.Ytpffdlnjpjoikaa
open Go.RowKit
attribute [local go_sem ↓] Go.wp_at_zero Go.wp_at_succ

theorem own_mono {w : World} {b b' : Nat} {e : TypeId} {size n : Nat} {v : Value} {xs : List Value} (h : w.ownsRow b e size v n xs) (hb : b' ≤ b) : w.ownsRow b' e size v n xs := by
  refine ⟨h.1, ?_⟩
  rcases h.2 with h | ⟨g, cap, cur, h1, h2, h3⟩
  · exact .inl h
  · exact .inr ⟨g, cap, cur, h1, by omega, h3⟩

theorem take_step (L : List Int) (i : Nat) : L.take ((i + 1) * 64) = L.take (i * 64) ++ (L.drop (i * 64)).take 64 := by
  rw [show (i + 1) * 64 = i * 64 + 64 by omega, List.take_add]

set_option maxRecDepth 100000 in
set_option maxHeartbeats 2000000 in
theorem laid_any (g : Nat) (s : DSt) (Al : Option Addr) (cl : Nat) (vq : Value) (base : Nat) (w : World) (hD : Dk w base g s (.slice Al s.n cl) vq) (hs : s.n ≤ 1000000) :
    Calls Try.prog 17 #[.pointer (some ⟨g, 0, none⟩)] w fun e w' => ∃ A c, e = .returned (.slice A (s.n * 64) c) ∧ w'.ownsRow w.heap.size 5 1 (.slice A (s.n * 64) c) (s.n * 64) (bsC s.laid) ∧ Below w.heap.size w w' := by
  have c3 : w.cell? ⟨g, 3, none⟩ = some (.slice Al s.n cl) := hD.blk.cell 3
  have hll : s.laid.length = s.n * 64 := by have := hD.laid.1; rw [bsC_len] at this; exact this
  have hlt := hD.blk.lt
  have HD := Sl.mk hD
  have HLL := Sl.mk hll
  clear hD hll
  obtain ⟨i0, hi0, hz0, hz1, hz2⟩ := info_parts infoU8
  go_enter Try.func17, Try.ntmps17
  go_wp2_with fail
  refine (sectors_any g Al s.n cl _ c3).mono ?_
  rintro e w' ⟨rfl, rfl⟩
  go_wp2_with fail
  go_loopw [3, 4, 7] (fun s3 _ s7 wr => ∃ (i : Nat) (A : Option Addr) (c : Nat), i ≤ s.n ∧ s7 = .int .i64 i ∧ s3 = .slice A (i * 64) c ∧ wr.ownsRow w.heap.size 5 1 (.slice A (i * 64) c) (i * 64) (bsC (s.laid.take (i * 64))) ∧ Below w.heap.size w wr) (fun _ _ s7 _ => s.n - (intOf s7).toNat)
  case atStart => exact ⟨0, none, 0, Nat.zero_le _, rfl, by simp, by simpa [bsC] using World.ownsRow_nil _ _ _ _, Below.refl _ _⟩
  case round =>
    obtain ⟨i, A, c, hi, rfl, rfl, hown, hB⟩ := hrel
    by_cases hil : i < s.n
    · obtain ⟨gl, cl', hvl, -, -, -⟩ := ownCells HD.out.laid (by omega)
      injection hvl with hA _ hc
      subst hA hc
      have d3 := (hB.cell (p := ⟨g, 3, none⟩) hlt).trans c3
      have hR := reads_piece (own_below HD.out.laid hB) hil
      have HR := Sl.mk hR
      have HO := Sl.mk hown
      have HB := Sl.mk hB
      clear hR hown hB
      go_wp2_with (at_builtin; refine wpList_append_anyG _ rfl (.tmp 10) (.tmp 17) 30 rfl w.heap.size 5 i0 (.int .u8 0) 1 1 Try.underlying30 hi0 hz0 hz1 hz2 (by rfl) (by decide) (.slice A (i * 64) c) (i * 64) (bsC (s.laid.take (i * 64))) rfl HO.out wr.heap.size _ 64 _ _ rfl HR.out (bsC_one _) (by unfold maxLen; omega) (by omega) HB.out.size ?_)
      intro v1 w1 hown1 hG1 hb1
      have hBw : Below w.heap.size w w1 := HB.out.grown hG1 HB.out.size (fun k h => ownGe HO.out h)
      have e1 : bsC (s.laid.take (i * 64)) ++ bsC ((s.laid.drop (i * 64)).take 64) = bsC (s.laid.take ((i + 1) * 64)) := by
        rw [take_step s.laid i]; simp [bsC]
      have e2 : i * 64 + 64 = (i + 1) * 64 := by omega
      rw [e1, e2] at hown1
      obtain ⟨A1, c1, rfl⟩ := ownForm hown1
      have HO1 := Sl.mk hown1
      have HB1 := Sl.mk hBw
      clear hown1 hBw hG1 hb1 e1 e2 HO HB d3 HR
      go_wp2_with fail
      go_roundw
      case rel => exact ⟨i + 1, A1, c1, by omega, by go_num, rfl, HO1.out, HB1.out⟩
      case measure => simp [intOf]; omega
    · obtain rfl : i = s.n := by omega
      have e1 : s.laid.take (s.n * 64) = s.laid := List.take_of_length_le (by rw [HLL.out]; omega)
      rw [e1] at hown
      have HO := Sl.mk hown
      have HB := Sl.mk hB
      clear hown hB e1
      go_wp2_with fail
      go_ret
      exact ⟨A, c, rfl, HO.out, HB.out⟩

/-- Bytes of a sector. -/
def fullF (b : List Int) : List Int := b.take 64 ++ List.replicate (64 - b.length) 0
def fullI (b : List Int) (i : Nat) : List Int := b.take i ++ List.replicate (64 - i) 0
theorem fullF_len (b : List Int) : (fullF b).length = 64 := by simp [fullF]; omega
theorem fullI_len (b : List Int) (i : Nat) (h : i ≤ 64) (hb : i ≤ b.length) : (fullI b i).length = 64 := by simp [fullI]; omega
theorem fullI_set (b : List Int) (i : Nat) (x : Int) (h : i < 64) (hb : b[i]? = some x) : (bsC (fullI b i)).set i (.int .u8 x) = bsC (fullI b (i + 1)) := by
  have hi : i < b.length := (List.getElem?_eq_some_iff.1 hb).1
  have hx : b[i] = x := (List.getElem?_eq_some_iff.1 hb).2
  unfold fullI bsC
  rw [← List.map_set, List.set_append_right _ _ (by rw [List.length_take]; omega)]
  congr 1
  have e : 64 - i = (64 - (i + 1)) + 1 := by omega
  rw [e, List.replicate_succ]
  have e2 : i - (b.take i).length = 0 := by rw [List.length_take]; omega
  rw [e2, List.set_cons_zero, List.take_succ_eq_append_getElem hi, hx]
  simp
theorem fullI_end (b : List Int) (i : Nat) (hi : i ≤ b.length) (h : i = 64 ∨ (i < 64 ∧ i = b.length)) : fullI b i = fullF b := by
  unfold fullI fullF
  rcases h with rfl | ⟨h1, rfl⟩
  · rw [show 64 - b.length = 0 by omega]
  · rw [List.take_of_length_le (Nat.le_refl _), List.take_of_length_le (by omega)]
theorem mk64 (w : World) : (Instr.makeSlice 30 (.int .i64 64) (.int .i64 64)).run Try.prog w = .ok (.slice (some ⟨w.heap.size, 0, none⟩) 64 64) (w.alloc (.cells (bsC (fullI [] 0)).toArray 5)) := by kernel_rfl

theorem reads_byte {w : World} {B n : Nat} {A : Option Addr} {l : List Int} (h : Reads w B 1 A n (bsC l)) {i : Nat} (hi : i < n) : ∃ ad x, A = some ad ∧ ad.block < B ∧ l[i]? = some x ∧ w.cell? (ad.add i) = some (.int .u8 x) := by
  have hl : l.length = n := by have := h.1; rw [bsC_len] at this; omega
  obtain ⟨ad, e, hb, hc⟩ := h.2 (by omega)
  have hx : l[i]? = some l[i] := List.getElem?_eq_getElem (by omega)
  exact ⟨ad, l[i], e, hb, hx, hc i _ (by simp [bsC, hx])⟩

set_option maxHeartbeats 2000000 in
theorem full_any (A : Option Addr) (n c : Nat) (b : List Int) (w : World) (hR : Reads w w.heap.size 1 A n (bsC b)) :
    Calls Try.prog 10 #[.slice A n c] w fun e w' => e = .returned (.slice (some ⟨w.heap.size, 0, none⟩) 64 64) ∧ Blk w' w.heap.size 5 (bsC (fullF b)).toArray ∧ Below w.heap.size w w' := by
  have hl : b.length = n := by have := hR.1; rw [bsC_len] at this; omega
  have hmk := mk64
  have HL := Sl.mk hl
  have HR := Sl.mk hR
  clear hl hR
  go_enter Try.func10, Try.ntmps10
  go_wp2_with fail
  go_loopw [4] (fun s4 wr => ∃ i : Nat, i ≤ n ∧ i ≤ 64 ∧ s4 = .int .i64 i ∧ Blk wr w.heap.size 5 (bsC (fullI b i)).toArray ∧ Below w.heap.size w wr) (fun s4 _ => 64 - (intOf s4).toNat)
  case atStart => exact ⟨0, Nat.zero_le _, Nat.zero_le _, rfl, by have := Blk.new w 5 (bsC (fullI [] 0)).toArray; simpa [fullI] using this, below_al (Below.refl _ _) _⟩
  case round =>
    obtain ⟨i, hi, hi64, rfl, hX, hB⟩ := hrel
    by_cases h1 : i < n
    · have h1' : decide ((i : Int) < (n : Int)) = true := by simpa using h1
      by_cases h2 : i < 64
      · have h2' : decide ((i : Int) < 64) = true := by simp; omega
        obtain ⟨ad, x, rfl, hbl, hx, hc⟩ := reads_byte HR.out h1
        have hc' := (hB.cell (p := ad.add i) (by rw [block_of_add]; exact hbl)).trans hc
        have hfl := fullI_len b i hi64 (by rw [HL.out]; omega)
        have hu : ∃ u, wr.cell? ⟨w.heap.size, i, none⟩ = some u := by
          rw [hX.cell, List.getElem?_toArray]; exact ⟨_, List.getElem?_eq_getElem (by rw [bsC_len, hfl]; exact h2)⟩
        obtain ⟨u, hu⟩ := hu
        have hf := hX.frozen i
        have HX := Sl.mk (hX.set_ i (.int .u8 x))
        have HS := Sl.mk (fullI_set b i x h2 hx)
        have HB := Sl.mk (hB.setCell (p := ⟨w.heap.size, i, none⟩) (Nat.le_refl _) (.int .u8 x))
        have i0 : (0 : Int) ≤ (i : Int) := by omega
        have i1 : (i : Int) < (n : Int) := by omega
        have i2 : (i : Int) < 64 := by omega
        clear hX hB hbl hx hc hfl
        go_wp2_with fail
        go_roundw
        case rel => exact ⟨i + 1, by omega, by omega, by go_num, by have := HX.out; rw [List.setIfInBounds_toArray, HS.out] at this; exact this, HB.out⟩
        case measure => simp [intOf]; omega
      · have h2' : decide ((i : Int) < 64) = false := by simp; omega
        have e := fullI_end b i (by rw [HL.out]; omega) (.inl (by omega))
        rw [e] at hX
        have HX := Sl.mk hX
        have HB := Sl.mk hB
        clear hX hB e
        go_wp2_with fail
        go_ret
        exact ⟨rfl, HX.out, HB.out⟩
    · have h1' : decide ((i : Int) < (n : Int)) = false := by simp; omega
      by_cases h2 : i < 64
      · have e := fullI_end b i (by rw [HL.out]; omega) (.inr ⟨h2, by rw [HL.out]; omega⟩)
        rw [e] at hX
        have HX := Sl.mk hX
        have HB := Sl.mk hB
        clear hX hB e
        go_wp2_with fail
        go_ret
        exact ⟨rfl, HX.out, HB.out⟩
      · have e := fullI_end b i (by rw [HL.out]; omega) (.inl (by omega))
        rw [e] at hX
        have HX := Sl.mk hX
        have HB := Sl.mk hB
        clear hX hB e
        go_wp2_with fail
        go_ret
        exact ⟨rfl, HX.out, HB.out⟩

def allV (c : Int) : List Int := List.replicate 64 c
theorem allV_len (c : Int) : (allV c).length = 64 := by simp [allV]
def allI (c : Int) (i : Nat) : List Int := List.replicate i c ++ List.replicate (64 - i) 0
theorem allI_len (c : Int) (i : Nat) (h : i ≤ 64) : (allI c i).length = 64 := by simp [allI]; omega
theorem allI_set (c : Int) (i : Nat) (h : i < 64) : (bsC (allI c i)).set i (.int .u8 c) = bsC (allI c (i + 1)) := by
  unfold allI bsC
  rw [← List.map_set, List.set_append_right _ _ (by simp)]
  congr 1
  have e : 64 - i = (64 - (i + 1)) + 1 := by omega
  have e2 : i - (List.replicate i c).length = 0 := by simp
  rw [e, List.replicate_succ, e2, List.set_cons_zero, List.replicate_succ']
  simp

set_option maxHeartbeats 2000000 in
theorem all_any (c : Int) (w : World) :
    Calls Try.prog 27 #[.int .u8 c] w fun e w' => e = .returned (.slice (some ⟨w.heap.size, 0, none⟩) 64 64) ∧ Blk w' w.heap.size 5 (bsC (allV c)).toArray ∧ Below w.heap.size w w' := by
  have hmk := mk64
  go_enter Try.func27, Try.ntmps27
  go_wp2_with fail
  go_loopw [4] (fun s4 wr => ∃ i : Nat, i ≤ 64 ∧ s4 = .int .i64 i ∧ Blk wr w.heap.size 5 (bsC (allI c i)).toArray ∧ Below w.heap.size w wr) (fun s4 _ => 64 - (intOf s4).toNat)
  case atStart => exact ⟨0, Nat.zero_le _, rfl, by have := Blk.new w 5 (bsC (fullI [] 0)).toArray; simpa [fullI, allI] using this, below_al (Below.refl _ _) _⟩
  case round =>
    obtain ⟨i, hi64, rfl, hX, hB⟩ := hrel
    by_cases h2 : i < 64
    · have h2' : decide ((i : Int) < 64) = true := by simp; omega
      have hfl := allI_len c i hi64
      have hu : ∃ u, wr.cell? ⟨w.heap.size, i, none⟩ = some u := by
        rw [hX.cell, List.getElem?_toArray]; exact ⟨_, List.getElem?_eq_getElem (by rw [bsC_len, hfl]; exact h2)⟩
      obtain ⟨u, hu⟩ := hu
      have hf := hX.frozen i
      have HX := Sl.mk (hX.set_ i (.int .u8 c))
      have HS := Sl.mk (allI_set c i h2)
      have HB := Sl.mk (hB.setCell (p := ⟨w.heap.size, i, none⟩) (Nat.le_refl _) (.int .u8 c))
      have i0 : (0 : Int) ≤ (i : Int) := by omega
      have i2 : (i : Int) < 64 := by omega
      clear hX hB hfl
      go_wp2_with fail
      go_roundw
      case rel => exact ⟨i + 1, by omega, by go_num, by have := HX.out; rw [List.setIfInBounds_toArray, HS.out] at this; exact this, HB.out⟩
      case measure => simp [intOf]; omega
    · obtain rfl : i = 64 := by omega
      have e : allI c 64 = allV c := by simp [allI, allV]
      rw [e] at hX
      have HX := Sl.mk hX
      have HB := Sl.mk hB
      clear hX hB e
      go_wp2_with fail
      go_ret
      exact ⟨rfl, HX.out, HB.out⟩

/-- The same bytes? -/
def sameB (a b : List Int) : Bool := a == b
set_option maxHeartbeats 2000000 in
theorem same_any (A1 A2 : Option Addr) (n1 n2 c1 c2 : Nat) (a b : List Int) (w : World) (hn : n1 ≤ 9223372036854775807) (hR1 : Reads w w.heap.size 1 A1 n1 (bsC a)) (hR2 : Reads w w.heap.size 1 A2 n2 (bsC b)) :
    Calls Try.prog 12 #[.slice A1 n1 c1, .slice A2 n2 c2] w fun e w' => e = .returned (.bool (sameB a b)) ∧ Below w.heap.size w w' := by
  have hl1 : a.length = n1 := by have := hR1.1; rw [bsC_len] at this; omega
  have hl2 : b.length = n2 := by have := hR2.1; rw [bsC_len] at this; omega
  by_cases hne : n1 = n2
  · subst hne
    have HL1 := Sl.mk hl1
    have HL2 := Sl.mk hl2
    clear hl1 hl2
    go_enter Try.func12, Try.ntmps12
    go_wp2_with fail
    go_loopw [5] (fun s5 wr => ∃ i m : Nat, i ≤ n1 ∧ s5 = .int .i64 i ∧ wr = w.drewN m ∧ Hid (∀ j, j < i → a[j]? = b[j]?)) (fun s5 _ => n1 - (intOf s5).toNat)
    case atStart => exact ⟨0, 0, Nat.zero_le _, rfl, rfl, fun j hj => by omega⟩
    case round =>
      obtain ⟨i, m, hi, rfl, rfl, H⟩ := hrel
      by_cases hlt : i < n1
      · obtain ⟨ad1, x, rfl, hbl1, hx, hc1⟩ := reads_byte hR1 hlt
        obtain ⟨ad2, y, rfl, hbl2, hy, hc2⟩ := reads_byte hR2 hlt
        have i0 : (0 : Int) ≤ (i : Int) := by omega
        have i1 : (i : Int) < (n1 : Int) := by omega
        have HX := Sl.mk hx
        have HY := Sl.mk hy
        clear hx hy hbl1 hbl2
        by_cases hxy : x = y
        · subst hxy
          have hb : (x != x) = false := by simp
          go_wp2_with fail
          go_quiet (fail)
          go_wp2_with fail
          go_roundw
          case rel => exact ⟨i + 1, m + nq, by omega, by go_num, rfl, fun j hj => by
            rcases Nat.lt_or_ge j i with h | h
            · exact H j h
            · have : j = i := by omega
              subst this
              rw [HX.out, HY.out]⟩
          case measure => simp [intOf]; omega
        · have hb : (x != y) = true := by simpa using hxy
          have hs : sameB a b = false := by
            unfold sameB; simp; intro e; subst e
            rw [HX.out] at HY
            have := HY.out
            injection this with this
            exact hxy this
          have HS := Sl.mk hs
          clear hs hxy
          go_wp2_with fail
          go_quiet (fail)
          go_wp2_with fail
          go_ret
          exact ⟨by rw [HS.out]; first | rfl | simp, below_drN (below_drN (Below.refl _ _) _) _⟩
      · have hs : sameB a b = true := by
          unfold sameB; simp
          apply List.ext_getElem?
          intro j
          rcases Nat.lt_or_ge j i with h | h
          · exact H j h
          · rw [List.getElem?_eq_none (by rw [HL1.out]; omega), List.getElem?_eq_none (by rw [HL2.out]; omega)]
        have HS := Sl.mk hs
        clear hs H
        go_wp2_with fail
        go_ret
        exact ⟨by rw [HS.out]; first | rfl | simp, below_drN (Below.refl _ _) _⟩
  · have hb : ((n1 : Int) != (n2 : Int)) = true := by simp; omega
    have hs : sameB a b = false := by unfold sameB; simp; intro e; subst e; omega
    have HS := Sl.mk hs
    clear hs hl1 hl2
    go_enter Try.func12, Try.ntmps12
    go_wp2_with fail
    go_ret
    exact ⟨by rw [HS.out]; first | rfl | simp, Below.refl _ _⟩

end Go.Proofs.Ytpffdlnjpjoikaa
