/-
  The contracts of the reference's Hex and Unhex.
-/
import Derived.Test.YtaffjcenojikjaaDoorDigRefP
namespace Go.Proofs.YtaffjcenojikjaaDoor
open Go.RowKit
attribute [local go_sem ↓] Go.wp_at_zero Go.wp_at_succ

theorem toList_inj {a b : ByteArray} (h : a.toList = b.toList) : a = b := by
  apply ByteArray.ext
  apply Array.toList_inj.1
  rw [ByteArray.toList_eq, ByteArray.toList_eq] at h
  exact h

theorem slice_sign (w : World) (a : Nat) (ha : a < 16) (lo hi : Int) (h1 : lo = a) (h2 : hi = a + 1) :
    (Instr.slice 9 (.string ⟨#[48, 49, 50, 51, 52, 53, 54, 55, 56, 57, 97, 98, 99, 100, 101, 102]⟩) (some (.int .u8 lo)) (some (.int .u8 hi)) none).run Tryd.prog w = .ok (.string ⟨#[UInt8.ofNat (signF a)]⟩) w := by
  subst h1 h2
  have hs : (⟨#[48, 49, 50, 51, 52, 53, 54, 55, 56, 57, 97, 98, 99, 100, 101, 102]⟩ : ByteArray).size = 16 := rfl
  rw [run_slice_string_if w 9 _ .u8 .u8 (a : Int) ((a : Int) + 1) Tryd.underlying9, if_pos ⟨by omega, by rw [hs]; omega⟩, if_pos ⟨by omega, by omega⟩]
  have e : ((a : Int) + 1).toNat = a + 1 := by omega
  rw [e, Int.toNat_natCast]
  have := signs_cut ⟨a, ha⟩
  simp only [signs16] at this
  rw [this]

set_option maxRecDepth 100000 in
set_option maxHeartbeats 4000000 in
theorem rhex_any (D : List Nat) (w : World) (hD : D.length = 32) (hb : ∀ x ∈ D, x < 256) :
    Calls Tryd.prog 23 #[.agg (u8s D).toArray] w fun e w' => e = .returned (.string (hexS D)) ∧ Below w.heap.size w w' := by
  have HD := hide hD
  have HB := Sl.mk hb
  have hone : ∀ v ∈ u8s D, v.oneCell' = true := u8s_one D
  clear hD hb
  go_enter Tryd.func23, Tryd.ntmps23
  go_wp2_with fail
  go_loopw [3, 4] (fun v3 v4 wr => ∃ i : Nat, i ≤ 32 ∧ v4 = .int .i64 i ∧ v3 = .string (hexS (D.take i)) ∧ Blk wr w.heap.size 37 (u8s D).toArray ∧ Below w.heap.size w wr) (fun _ v4 _ => 32 - (intOf v4).toNat)
  case atStart => exact ⟨0, by omega, rfl, rfl, Blk.new _ _ _, below_al (Below.refl _ _) _⟩
  case round =>
    obtain ⟨i, hi, rfl, rfl, hX, hBl⟩ := hrel
    by_cases hlt : i < 32
    · have hi2 : i < D.length := by rw [HD.out]; exact hlt
      obtain ⟨x, hx⟩ : ∃ x, D.getD i 0 = x := ⟨_, rfl⟩
      have hxe : D.getD i 0 = D[i] := by simp [hi2]
      have hx256 : x < 256 := by rw [← hx, hxe]; exact HB.out _ (List.getElem_mem hi2)
      have hc := blk_at hX (i := i) (v := .int .u8 (x : Int)) (by rw [← hx]; simp [u8s, hi2])
      have hs1 := fun (w' : World) => slice_sign w' (x / 16) (by omega) ((x : Int) / 16) ((x : Int) / 16 + 1) (by omega) (by omega)
      have hs2 := fun (w' : World) => slice_sign w' (x % 16) (by omega) ((x : Int) % 16) ((x : Int) % 16 + 1) (by omega) (by omega)
      have hsn : hexS (D.take (i + 1)) = hexS (D.take i) ++ ⟨#[UInt8.ofNat (signF (x / 16))]⟩ ++ ⟨#[UInt8.ofNat (signF (x % 16))]⟩ := by
        rw [take_succ_getD (d := 0) hi2, hx, hexS_snoc]
      have HSN := Sl.mk hsn
      have hw1 : IntKind.u8.wrap ((x : Int) / 16) = (x : Int) / 16 := by rw [IntKind.wrap_u8]; omega
      have hw2 : IntKind.u8.wrap ((x : Int) / 16 + 1) = (x : Int) / 16 + 1 := by rw [IntKind.wrap_u8]; omega
      have hw3 : IntKind.u8.wrap ((x : Int) % 16) = (x : Int) % 16 := by rw [IntKind.wrap_u8]; omega
      have hw4 : IntKind.u8.wrap ((x : Int) % 16 + 1) = (x : Int) % 16 + 1 := by rw [IntKind.wrap_u8]; omega
      have hsz : (hexS (D.take i)).size ≤ 64 := by
        have : (hexS (D.take i)).size = (hexF (D.take i)).length := by simp [hexS, ByteArray.size]
        rw [this, hexF_len, List.length_take]; omega
      clear hx hxe hi2 hsn
      go_wp2_with fail
      go_quiet (fail)
      go_wp2_with fail
      go_roundw
      case rel => exact ⟨i + 1, by omega, by go_num, by rw [HSN.out], hX.drewN _, below_drN hBl _⟩
      case measure => simp [intOf]; omega
    · obtain rfl : i = 32 := by omega
      have hD2 : D.take 32 = D := List.take_of_length_le (by rw [HD.out]; omega)
      rw [hD2]
      go_wp2_with fail
      go_ret
      exact ⟨rfl, hBl⟩

/-- The inner loop behind k signs. -/
def stepK (D : List Nat) (c i k : Nat) : List Nat := if fourB c = true ∧ fourV c < k then D.set (i / 2) (16 * (D.getD (i / 2) 0 % 16) + fourV c) else D
theorem stepK0 (D : List Nat) (c i : Nat) : stepK D c i 0 = D := by unfold stepK; rw [if_neg (by omega)]
theorem stepK16 (D : List Nat) (c i : Nat) : stepK D c i 16 = stepR D c i := by
  unfold stepK stepR
  have := fourV_lt c
  by_cases h : fourB c = true
  · rw [if_pos ⟨h, this⟩, if_pos h]
  · rw [if_neg (fun e => h e.1), if_neg h]
theorem stepK_eq {D : List Nat} {c i k : Nat} (hk : k < 16) (h : c = signF k) : stepK D c i k = D ∧ stepK D c i (k + 1) = D.set (i / 2) (16 * (D.getD (i / 2) 0 % 16) + k) := by
  have := sign_four ⟨k, hk⟩
  simp only [← h] at this
  unfold stepK
  rw [if_neg (by omega), if_pos ⟨this.1, by omega⟩, this.2]
  exact ⟨rfl, rfl⟩
theorem stepK_ne {D : List Nat} {c i k : Nat} (h : c ≠ signF k) : stepK D c i (k + 1) = stepK D c i k := by
  unfold stepK
  by_cases h1 : fourB c = true ∧ fourV c < k + 1
  · have h2 : fourV c ≠ k := fun e => h (by rw [← e]; exact (four_sign h1.1).symm)
    rw [if_pos h1, if_pos ⟨h1.1, by omega⟩]
  · rw [if_neg h1, if_neg (fun e => h1 ⟨e.1, by omega⟩)]
theorem stepK_len (D : List Nat) (c i k : Nat) : (stepK D c i k).length = D.length := by unfold stepK; split <;> simp
theorem set_u8 {w : World} {g : Nat} {t : TypeId} {V : List Nat} (h : Blk w g t (u8s V).toArray) (p x : Nat) : Blk (w.setCell ⟨g, p, none⟩ (.int .u8 (x : Int))) g t (u8s (V.set p x)).toArray := by
  refine blk_set _ _ _ _ p _ _ h ?_
  simp [u8s]
theorem z8_u8 (n : Nat) : z8 n = u8s (List.replicate n 0) := by simp [z8, u8s]
theorem idx_sign (w : World) (k : Nat) (hk : k < 16) : (Instr.index 9 (.string ⟨#[48, 49, 50, 51, 52, 53, 54, 55, 56, 57, 97, 98, 99, 100, 101, 102]⟩) (.int .i64 (k : Int))).run Tryd.prog w = .ok (.int .u8 ((signF k : Nat) : Int)) w := by
  have h := signs_at ⟨k, hk⟩
  simp only [signs16] at h
  have hs : (⟨#[48, 49, 50, 51, 52, 53, 54, 55, 56, 57, 97, 98, 99, 100, 101, 102]⟩ : ByteArray).size = 16 := rfl
  have hg : (⟨#[48, 49, 50, 51, 52, 53, 54, 55, 56, 57, 97, 98, 99, 100, 101, 102]⟩ : ByteArray)[k]? = some ((⟨#[48, 49, 50, 51, 52, 53, 54, 55, 56, 57, 97, 98, 99, 100, 101, 102]⟩ : ByteArray)[k]'(by rw [hs]; exact hk)) := getElem?_pos _ _ _
  have hv : ((⟨#[48, 49, 50, 51, 52, 53, 54, 55, 56, 57, 97, 98, 99, 100, 101, 102]⟩ : ByteArray)[k]'(by rw [hs]; exact hk)).toNat = signF k := by
    rw [← h]
    have hl : k < [48, 49, 50, 51, 52, 53, 54, 55, 56, 57, 97, 98, 99, 100, 101, 102].length := by simpa using hk
    rw [List.getD, List.getElem?_eq_getElem (by simpa using hk)]
    rfl
  simp [Instr.index, asIntOf, Sem.run_bind, run_underlying Tryd.underlying9, hg, hv]

set_option maxRecDepth 100000 in
set_option maxHeartbeats 4000000 in
theorem runhex_any (s : ByteArray) (w : World) (hs : s.size ≤ 100) :
    Calls Tryd.prog 21 #[.string s] w fun e w' => e = .returned (unhexV s) ∧ Below w.heap.size w w' := by
  have hz := zero37
  have hz32 : (z8 32).length = 32 := by simp [z8]
  have HZ := Sl.mk hz32
  clear hz32
  go_enter Tryd.func21, Tryd.ntmps21
  go_wp2_with fail
  go_loopw [5] (fun v5 wr => ∃ i : Nat, i ≤ s.size ∧ i ≤ 64 ∧ v5 = .int .i64 i ∧ Blk wr w.heap.size 37 (z8 32).toArray ∧ Blk wr (w.heap.size + 1) 37 (u8s (refD (nums s) i)).toArray ∧ Below w.heap.size w wr) (fun v5 _ => 64 - (intOf v5).toNat)
  case atStart => exact ⟨0, by omega, by omega, rfl, Blk.alloc (Blk.new w _ _) _, Blk.new' (by simp), below_al (below_al (Below.refl _ _) _) _⟩
  case round =>
    obtain ⟨i, his, hi64, rfl, hZ, hD, hB⟩ := hrel
    by_cases hlt : i < s.size ∧ i < 64
    · obtain ⟨hl1, hl2⟩ := hlt
      have hn := nums_get hl1
      have hc256 : s[i].toNat < 256 := s[i].toNat_lt
      obtain ⟨D, hDD⟩ : ∃ D, refD (nums s) i = D := ⟨_, rfl⟩
      have hnext : refD (nums s) (i + 1) = stepR D s[i].toNat i := by
        show stepR (refD (nums s) i) ((nums s).getD i 0) i = _
        rw [hDD, hn]
      have hDl : D.length = 32 := by rw [← hDD, refD_len]
      have hDb : ∀ x ∈ D, x < 256 := by rw [← hDD]; exact refD_lt _ _
      rw [hDD] at hD
      have HN := Sl.mk hnext
      have HDL := Sl.mk hDl
      have HDB := Sl.mk hDb
      clear hn hnext hDD hDl hDb
      go_wp2_with fail
      obtain ⟨wo, hwo⟩ : ∃ wo, wo = wr := ⟨_, rfl⟩
      subst hwo
      go_loopw [6] (fun v6 wr => ∃ k : Nat, k ≤ 16 ∧ v6 = .int .i64 k ∧ Blk wr w.heap.size 37 (z8 32).toArray ∧ Blk wr (w.heap.size + 1) 37 (u8s (stepK D s[i].toNat i k)).toArray ∧ Below w.heap.size w wr) (fun v6 _ => 16 - (intOf v6).toNat)
      case atStart => exact ⟨0, by omega, rfl, hZ, by rw [stepK0]; exact hD, hB⟩
      case round =>
        obtain ⟨k, hk, rfl, hZk, hDk, hBk⟩ := hrel
        clear hZ hD hB
        by_cases hkl : k < 16
        · have hidx := fun (w' : World) => idx_sign w' k hkl
          by_cases he : s[i].toNat = signF k
          · obtain ⟨e1, e2⟩ := stepK_eq (D := D) (i := i) hkl he
            have hp : i / 2 < 32 := by omega
            obtain ⟨x, hx⟩ : ∃ x, D.getD (i / 2) 0 = x := ⟨_, rfl⟩
            rw [hx] at e2
            rw [e1] at hDk
            have hc := blk_at hDk (i := i / 2) (v := .int .u8 (x : Int)) (by
              have h2 : i / 2 < D.length := by rw [HDL.out]; exact hp
              rw [← hx]; simp [u8s, h2])
            have hf := hDk.frozen (i / 2)
            have HE2 := Sl.mk e2
            have hbe : (((s[i].toNat : Nat) : Int) == ((signF k : Nat) : Int)) = true := by rw [he]; simp
            clear e1 e2 hx he
            go_wp2_with fail
            go_quiet (fail)
            go_wp2_with fail
            go_roundw
            case rel =>
              refine ⟨k + 1, by omega, by go_num, (hZk.drewN _).far (by simp) _, ?_, (below_drN hBk _).setCell (by simp) _⟩
              rw [HE2.out]
              exact set_u8 (hDk.drewN _) (i / 2) (16 * (x % 16) + k)
            case measure => simp [intOf]; omega
          · have e1 := stepK_ne (D := D) (i := i) he
            have HE1 := Sl.mk e1
            have hbe : (((s[i].toNat : Nat) : Int) == ((signF k : Nat) : Int)) = false := by simp; omega
            clear e1 he
            go_wp2_with fail
            go_quiet (fail)
            go_wp2_with fail
            go_roundw
            case rel => exact ⟨k + 1, by omega, by go_num, hZk.drewN _, by rw [HE1.out]; exact hDk.drewN _, below_drN hBk _⟩
            case measure => simp [intOf]; omega
        · obtain rfl : k = 16 := by omega
          rw [stepK16, ← HN.out] at hDk
          go_wp2_with fail
          go_roundw
          case rel => exact ⟨i + 1, by omega, by omega, by go_num, hZk, hDk, hBk⟩
          case measure => simp [intOf]; omega
    · have hexit : (i = 64 ∧ (i : Int) < (s.size : Int)) ∨ (i = s.size ∧ ¬ (i : Int) < (s.size : Int)) := by omega
      obtain ⟨D, hDD⟩ : ∃ D, refD (nums s) i = D := ⟨_, rfl⟩
      have hDl : D.length = 32 := by rw [← hDD, refD_len]
      have hDb : ∀ x ∈ D, x < 256 := by rw [← hDD]; exact refD_lt _ _
      have hlen : (u8s D).length = 32 := by rw [u8s_len, hDl]
      have hone := u8s_one D
      have hyes : hexOK (nums s) = true → hexS D = s ∧ unhexV s = .tuple #[.agg (u8s D).toArray, .int .i64 0] := fun h => by
        have h2 := h
        unfold hexOK at h2
        rw [Bool.and_eq_true] at h2
        have h64 := of_decide_eq_true h2.1
        rw [nums_len] at h64
        obtain ⟨q1, q2⟩ := ref_yes h
        have hi : i = 64 := by omega
        rw [hi, q1] at hDD
        rw [← hDD]
        exact ⟨q2, by unfold unhexV; rw [if_pos h]⟩
      have hno : hexOK (nums s) = false → unhexV s = .tuple #[.agg (z8 32).toArray, .int .i64 3] ∧ hexS D ≠ s := fun h => ⟨by unfold unhexV; rw [if_neg (by rw [h]; simp)], ref_no h hDl hDb⟩
      rw [hDD] at hD
      have HL := Sl.mk hlen
      have HDL := Sl.mk hDl
      have HDB := Sl.mk hDb
      have HY := Sl.mk hyes
      have HNO := Sl.mk hno
      clear hDl hDb hlen hyes hno hDD hlt hs
      have fin : ∀ (vs : List Value) (w2 : World) (e0 : Int), Blk w2 w.heap.size 37 (vs ++ (z8 32).drop vs.length).toArray → vs.length = 32 → Blk w2 w.heap.size 37 vs.toArray := fun vs w2 _ h hl => by
        have e : vs ++ (z8 32).drop vs.length = vs := by rw [hl]; simp [z8]
        rwa [e] at h
      cases hok : hexOK (nums s)
      · obtain ⟨hv, hne⟩ := HNO.out hok
        have hq : ((hexS D).toList == s.toList) = false := beq_eq_false_iff_ne.2 (fun e => hne (toList_inj e))
        have HV := Sl.mk hv
        clear hv hne hok
        rcases hexit with ⟨rfl, h2⟩ | ⟨h1, h2⟩
        all_goals
          try clear h1
          go_wp2_with (refine wpList_load_row rfl 37 (.tmp 4) rfl (w.heap.size + 1) rfl 37 (u8s D).toArray (0, 0) _ hD Tryd.underlying37 rfl (by rw [info32]; simp [HL.out]) ?_)
          refine (rhex_any D _ HDL.out HDB.out).mono ?_
          rintro e w2 ⟨rfl, hB2⟩
          have hB3 := below_tr hB hB2
          have hZ3 := hZ.be hB2
          go_wp2_with (refine wpList_store_blk rfl 37 (.tmp 2) (.tmp 43) rfl w.heap.size 0 37 (z8 32) (z8 32) hZ3 rfl rfl (by simp) (by rw [info32, HZ.out]) (z8_one _) ?_)
          intro w4 hB4 hG4 hs4
          have hZ5 : Blk w4 w.heap.size 37 (z8 32).toArray := by simpa using hB4
          have hE : Below w.heap.size w w4 := below_only hB3 hG4 hB3.size (Nat.le_refl _)
          clear hB4 hG4 hs4
          go_wp2_with fail
          refine bodyPost_ret (v := .tuple #[.agg (z8 32).toArray, .int .i64 3]) (res2 Tryd.results21 _ _ _ rfl hZ5 Tryd.underlying37 (by rw [info32]; simp [HZ.out]) rfl) rfl ?_
          exact ⟨by rw [HV.out], hE⟩
      · obtain ⟨hh, hv⟩ := HY.out hok
        have HV := Sl.mk hv
        have HH := Sl.mk hh
        clear hv hh hok
        rcases hexit with ⟨rfl, h2⟩ | ⟨h1, h2⟩
        all_goals
          try clear h1
          go_wp2_with (refine wpList_load_row rfl 37 (.tmp 4) rfl (w.heap.size + 1) rfl 37 (u8s D).toArray (0, 0) _ hD Tryd.underlying37 rfl (by rw [info32]; simp [HL.out]) ?_)
          refine (rhex_any D _ HDL.out HDB.out).mono ?_
          rintro e w2 ⟨rfl, hB2⟩
          rw [HH.out]
          have hB3 := below_tr hB hB2
          have hZ3 := hZ.be hB2
          have hD3 := hD.be hB2
          go_wp2_with (first
            | (refine wpList_load_row rfl 37 (.tmp 4) rfl (w.heap.size + 1) rfl 37 (u8s D).toArray (0, 0) _ hD3 Tryd.underlying37 rfl (by rw [info32]; simp [HL.out]) ?_)
            | (refine wpList_store_blk rfl 37 (.tmp 2) (.tmp 44) rfl w.heap.size 0 37 (z8 32) (u8s D) hZ3 rfl rfl (by rw [HL.out, HZ.out]; omega) (by rw [info32, HL.out]) hone ?_))
          intro w4 hB4 hG4 hs4
          have hZ5 : Blk w4 w.heap.size 37 (u8s D).toArray := fin (u8s D) w4 0 (by simpa [HL.out] using hB4) HL.out
          have hE : Below w.heap.size w w4 := below_only hB3 hG4 hB3.size (Nat.le_refl _)
          clear hB4 hG4 hs4
          go_wp2_with fail
          refine bodyPost_ret (v := .tuple #[.agg (u8s D).toArray, .int .i64 0]) (res2 Tryd.results21 _ _ _ rfl hZ5 Tryd.underlying37 (by rw [info32]; simp [HL.out]) rfl) rfl ?_
          exact ⟨by rw [HV.out], hE⟩

end Go.Proofs.YtaffjcenojikjaaDoor
