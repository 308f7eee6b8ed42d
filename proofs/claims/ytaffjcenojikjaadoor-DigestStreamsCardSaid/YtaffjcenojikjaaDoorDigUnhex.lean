/-
  The contracts of four and Unhex.
-/
import Derived.Test.YtaffjcenojikjaaDoorDigNil
namespace Go.Proofs.YtaffjcenojikjaaDoor
open Go.RowKit
attribute [local go_sem ↓] Go.wp_at_zero Go.wp_at_succ

def fourV (c : Nat) : Nat := if 48 ≤ c ∧ c ≤ 57 then c - 48 else if 97 ≤ c ∧ c ≤ 102 then c - 87 else 0
def fourB (c : Nat) : Bool := decide ((48 ≤ c ∧ c ≤ 57) ∨ (97 ≤ c ∧ c ≤ 102))
theorem fourV_lt (c : Nat) : fourV c < 16 := by unfold fourV; split <;> (try split) <;> omega

theorem four_any (c : Nat) (w : World) (hc : c < 256) : Calls Tryd.prog 28 #[.int .u8 c] w fun e w' => e = .returned (.tuple #[.int .u8 (fourV c), .bool (fourB c)]) ∧ w = w' := by
  by_cases h1 : 48 ≤ c
  · by_cases h2 : c ≤ 57
    · have hv : fourV c = c - 48 := by unfold fourV; rw [if_pos ⟨h1, h2⟩]
      have hb : fourB c = true := by unfold fourB; simp; omega
      have HV := Sl.mk (And.intro hv hb)
      clear hv hb
      go_enter Tryd.func28, Tryd.ntmps28
      go_wp2_with fail
      go_ret2
      exact ⟨by rw [HV.out.1, HV.out.2]; simp; omega, rfl⟩
    · by_cases h3 : 97 ≤ c
      · by_cases h4 : c ≤ 102
        · have hv : fourV c = c - 87 := by unfold fourV; rw [if_neg (by omega), if_pos ⟨h3, h4⟩]
          have hb : fourB c = true := by unfold fourB; simp; omega
          have HV := Sl.mk (And.intro hv hb)
          clear hv hb
          go_enter Tryd.func28, Tryd.ntmps28
          go_wp2_with fail
          go_ret2
          exact ⟨by rw [HV.out.1, HV.out.2]; simp; omega, rfl⟩
        · have hv : fourV c = 0 := by unfold fourV; rw [if_neg (by omega), if_neg (by omega)]
          have hb : fourB c = false := by unfold fourB; simp; omega
          have HV := Sl.mk (And.intro hv hb)
          clear hv hb
          go_enter Tryd.func28, Tryd.ntmps28
          go_wp2_with fail
          go_ret2
          exact ⟨by rw [HV.out.1, HV.out.2]; simp, rfl⟩
      · have hv : fourV c = 0 := by unfold fourV; rw [if_neg (by omega), if_neg (by omega)]
        have hb : fourB c = false := by unfold fourB; simp; omega
        have HV := Sl.mk (And.intro hv hb)
        clear hv hb
        go_enter Tryd.func28, Tryd.ntmps28
        go_wp2_with fail
        go_ret2
        exact ⟨by rw [HV.out.1, HV.out.2]; simp, rfl⟩
  · have hv : fourV c = 0 := by unfold fourV; rw [if_neg (by omega), if_neg (by omega)]
    have hb : fourB c = false := by unfold fourB; simp; omega
    have HV := Sl.mk (And.intro hv hb)
    clear hv hb
    go_enter Tryd.func28, Tryd.ntmps28
    go_wp2_with fail
    go_ret2
    exact ⟨by rw [HV.out.1, HV.out.2]; simp, rfl⟩

/-- The bytes of a text, as numbers. -/
def nums (s : ByteArray) : List Nat := s.data.toList.map UInt8.toNat
theorem nums_len (s : ByteArray) : (nums s).length = s.size := by simp [nums]
theorem nums_get {s : ByteArray} {i : Nat} (h : i < s.size) : (nums s).getD i 0 = s[i].toNat := by
  have h2 : i < s.data.toList.length := by simpa using h
  have : (nums s)[i]? = some (s.data.toList[i]).toNat := by rw [nums, List.getElem?_map, List.getElem?_eq_getElem h2]; rfl
  simp only [List.getD, this]
  rfl
def hexOK (l : List Nat) : Bool := decide (l.length = 64) && l.all fourB
def unF (l : List Nat) (i : Nat) : Nat := 16 * fourV (l.getD (2 * i) 0) + fourV (l.getD (2 * i + 1) 0)
def unD (l : List Nat) : List Nat := (List.range 32).map (unF l)
theorem orU8 : ∀ a b : Fin 16, bits .or .u8 ((a.val : Nat) * 16 : Int) ((b.val : Nat) : Int) = ((16 * a.val + b.val : Nat) : Int) := by decide +kernel
theorem orU8' {a b : Nat} (ha : a < 16) (hb : b < 16) : bits .or .u8 ((a : Int) * 16) (b : Int) = ((16 * a + b : Nat) : Int) := orU8 ⟨a, ha⟩ ⟨b, hb⟩
theorem zero37 (w : World) : (zeroValue 37).run Tryd.prog w = .ok (.agg (z8 32).toArray) w := by kernel_rfl
theorem z8_one (n : Nat) : ∀ v ∈ z8 n, v.oneCell' = true := by
  intro v hv
  have := List.eq_of_mem_replicate hv
  subst this; rfl

/-- What Unhex tells. -/
def unhexV (s : ByteArray) : Value := if hexOK (nums s) = true then .tuple #[.agg (u8s (unD (nums s))).toArray, .int .i64 0] else .tuple #[.agg (z8 32).toArray, .int .i64 3]

theorem res2 {fn : Func} {p u : Tmp} {ty : TypeId} (h : fn.results = #[.cell p ty, .tmp u]) (tmps : Array Value) (P : Program) (w : World) {g : Nat} {t : TypeId} {cs : Array Value} {v : Value} {n : Nat} {e : TypeId}
    (hp : tmps.getD p undef = .pointer (some ⟨g, 0, none⟩)) (hB : Blk w g t cs) (hu : P.underlying ty = some (.array n e))
    (hi : (P.info? ty).map (·.size) = some cs.size) (hv : tmps.getD u undef = v) : (results fn tmps).run P w = .ok (.tuple #[.agg cs, v]) w := by
  rw [results_cell_tmp h, hp, hv]
  have hl := run_loadVar_row (P := P) w g t ty cs (0, 0) _ hB hu rfl hi
  simp [asAddr, Result.andThen, hl]

set_option maxRecDepth 100000 in
set_option maxHeartbeats 4000000 in
theorem unhex_any (s : ByteArray) (w : World) :
    Calls Tryd.prog 20 #[.string s] w fun e w' => e = .returned (unhexV s) ∧ Below w.heap.size w w' := by
  have hz := zero37
  have hz32 : (z8 32).length = 32 := by simp [z8]
  have HZ := Sl.mk hz32
  clear hz32
  by_cases h64 : s.size = 64
  · have HS := hide h64
    have hs64 : ((s.size : Int) != 64) = false := by simp; omega
    clear h64
    go_enter Tryd.func20, Tryd.ntmps20
    go_wp2_with fail
    go_loopw [14] (fun v14 wr => ∃ i : Nat, i ≤ 32 ∧ v14 = .int .i64 i ∧ Sl (∀ j, j < 2 * i → fourB ((nums s).getD j 0) = true) ∧ Blk wr w.heap.size 37 (z8 32).toArray ∧ Blk wr (w.heap.size + 1) 37 (u8s ((List.range i).map (unF (nums s))) ++ z8 (32 - i)).toArray ∧ Below w.heap.size w wr) (fun v14 _ => 32 - (intOf v14).toNat)
    case atStart => exact ⟨0, by omega, rfl, ⟨fun j hj => by omega⟩, Blk.alloc (Blk.new w _ _) _, Blk.new' (by simp), below_al (below_al (Below.refl _ _) _) _⟩
    case round =>
      obtain ⟨i, hi, rfl, HOK, hZ, hD, hB⟩ := hrel
      by_cases hlt : i < 32
      · have hs0 : 2 * i < s.size := by rw [HS.out]; omega
        have hs1 : 2 * i + 1 < s.size := by rw [HS.out]; omega
        have n0 := nums_get hs0
        have n1 := nums_get hs1
        have b0 : s[2 * i].toNat < 256 := s[2 * i].toNat_lt
        have b1 : s[2 * i + 1].toNat < 256 := s[2 * i + 1].toNat_lt
        have N0 := Sl.mk n0
        have N1 := Sl.mk n1
        have hd0 := blk_at hD (range_get hlt)
        have hf0 := hD.frozen i
        clear n0 n1
        go_wp2_with fail
        refine (four_any _ _ b0).mono ?_
        rintro e w' ⟨rfl, rfl⟩
        go_wp2_with fail
        refine (four_any _ _ b1).mono ?_
        rintro e w' ⟨rfl, rfl⟩
        have hu : unF (nums s) i = 16 * fourV s[2 * i].toNat + fourV s[2 * i + 1].toNat := by unfold unF; rw [N0.out, N1.out]
        have HU := Sl.mk hu
        have l0 := fourV_lt s[2 * i].toNat
        have l1 := fourV_lt s[2 * i + 1].toNat
        obtain ⟨x0, hx0⟩ : ∃ x, fourV s[2 * i].toNat = x := ⟨_, rfl⟩
        obtain ⟨x1, hx1⟩ : ∃ x, fourV s[2 * i + 1].toNat = x := ⟨_, rfl⟩
        obtain ⟨q0, hq0⟩ : ∃ q, fourB s[2 * i].toNat = q := ⟨_, rfl⟩
        obtain ⟨q1, hq1⟩ : ∃ q, fourB s[2 * i + 1].toNat = q := ⟨_, rfl⟩
        rw [hx0] at l0 HU ⊢
        rw [hx1] at l1 HU ⊢
        rw [hq0, hq1]
        have HQ := Sl.mk (And.intro hq0 hq1)
        have hor := orU8' l0 l1
        clear hx0 hx1 hq0 hq1 hu b0 b1
        have hbad : q0 = false ∨ q1 = false → unhexV s = .tuple #[.agg (z8 32).toArray, .int .i64 3] := fun h => by
          unfold unhexV
          rw [if_neg]
          unfold hexOK
          rw [Bool.and_eq_true, List.all_eq_true]
          rintro ⟨-, hall⟩
          have hl : (nums s).length = 64 := by rw [nums_len, HS.out]
          rcases h with h | h
          · have e : (nums s).getD (2 * i) 0 = (nums s)[2 * i]'(by omega) := by simp [show 2 * i < (nums s).length by omega]
            have := hall _ (List.getElem_mem (show 2 * i < (nums s).length by omega))
            rw [← e, N0.out, HQ.out.1, h] at this
            cases this
          · have e : (nums s).getD (2 * i + 1) 0 = (nums s)[2 * i + 1]'(by omega) := by simp [show 2 * i + 1 < (nums s).length by omega]
            have := hall _ (List.getElem_mem (show 2 * i + 1 < (nums s).length by omega))
            rw [← e, N1.out, HQ.out.2, h] at this
            cases this
        have HBAD := Sl.mk hbad
        clear hbad
        cases q0
        · go_wp2_with ((refine wpList_store_blk rfl 37 (.tmp 2) (.tmp 40) rfl w.heap.size 0 37 (z8 32) (z8 32) hZ rfl rfl (by simp) (by rw [info32, HZ.out]) (z8_one _) ?_))
          intro w2 hB2 hG2 hs2
          have hB3 : Blk w2 w.heap.size 37 (z8 32).toArray := by
            have e : (z8 32).take 0 ++ z8 32 ++ (z8 32).drop (0 + (z8 32).length) = z8 32 := by simp
            simpa using hB2
          have hE : Below w.heap.size w w2 := below_only hB hG2 hB.size (Nat.le_refl _)
          clear hB2 hG2 hs2
          go_wp2_with fail
          refine bodyPost_ret (v := .tuple #[.agg (z8 32).toArray, .int .i64 3]) (res2 Tryd.results20 _ _ _ rfl hB3 Tryd.underlying37 (by rw [info32]; simp [HZ.out]) rfl) rfl ?_
          exact ⟨by rw [HBAD.out (by simp)], hE⟩
        · cases q1
          · go_wp2_with ((refine wpList_store_blk rfl 37 (.tmp 2) (.tmp 40) rfl w.heap.size 0 37 (z8 32) (z8 32) hZ rfl rfl (by simp) (by rw [info32, HZ.out]) (z8_one _) ?_))
            intro w2 hB2 hG2 hs2
            have hB3 : Blk w2 w.heap.size 37 (z8 32).toArray := by simpa using hB2
            have hE : Below w.heap.size w w2 := below_only hB hG2 hB.size (Nat.le_refl _)
            clear hB2 hG2 hs2
            go_wp2_with fail
            refine bodyPost_ret (v := .tuple #[.agg (z8 32).toArray, .int .i64 3]) (res2 Tryd.results20 _ _ _ rfl hB3 Tryd.underlying37 (by rw [info32]; simp [HZ.out]) rfl) rfl ?_
            exact ⟨by rw [HBAD.out (by simp)], hE⟩
          · go_wp2_with fail
            go_roundw
            case rel =>
              refine ⟨i + 1, by omega, by go_num, ⟨fun j hj => ?_⟩, hZ.far (by simp) _, ?_, hB.setCell (by simp) _⟩
              · by_cases h1 : j < 2 * i
                · exact HOK.out j h1
                · by_cases h2 : j = 2 * i
                  · subst h2; rw [N0.out]; exact HQ.out.1
                  · obtain rfl : j = 2 * i + 1 := by omega
                    rw [N1.out]; exact HQ.out.2
              · have e : (16 * (x0 : Int) + (x1 : Int)) = ((unF (nums s) i : Nat) : Int) := by rw [HU.out]; simp
                rw [e]
                exact range_set hD hlt
            case measure => simp [intOf]; omega
      · obtain rfl : i = 32 := by omega
        have hok : unhexV s = .tuple #[.agg (u8s (unD (nums s))).toArray, .int .i64 0] := by
          unfold unhexV
          rw [if_pos]
          unfold hexOK
          rw [Bool.and_eq_true, List.all_eq_true]
          refine ⟨by rw [nums_len, HS.out]; rfl, fun x hx => ?_⟩
          obtain ⟨j, hj, rfl⟩ := List.getElem_of_mem hx
          have := HOK.out j (by rw [nums_len, HS.out] at hj; omega)
          simpa [hj] using this
        have hD2 : Blk wr (w.heap.size + 1) 37 (u8s (unD (nums s))).toArray := by simpa [z8, unD] using hD
        have hlen : (u8s (unD (nums s))).length = 32 := by simp [u8s, unD]
        obtain ⟨vs, hvs⟩ : ∃ vs, u8s (unD (nums s)) = vs := ⟨_, rfl⟩
        have hone : ∀ v ∈ vs, v.oneCell' = true := by rw [← hvs]; exact u8s_one _
        rw [hvs] at hlen hD2 hok
        have HL := Sl.mk hlen
        have HK := Sl.mk hok
        clear hlen hok hvs hD
        go_wp2_with (first
          | (refine wpList_load_row rfl 37 (.tmp 4) rfl (w.heap.size + 1) rfl 37 vs.toArray (0, 0) _ hD2 Tryd.underlying37 rfl (by rw [info32]; simp [HL.out]) ?_)
          | (refine wpList_store_blk rfl 37 (.tmp 2) (.tmp 48) rfl w.heap.size 0 37 (z8 32) vs hZ rfl rfl (by rw [HL.out, HZ.out]; omega) (by rw [info32, HL.out]) hone ?_))
        intro w2 hB2 hG2 hs2
        have hB3 : Blk w2 w.heap.size 37 vs.toArray := by
          have e : vs ++ (z8 32).drop vs.length = vs := by rw [HL.out]; simp [z8]
          first
            | rwa [e] at hB2
            | (rw [HL.out] at e; rwa [e] at hB2)
        have hE : Below w.heap.size w w2 := below_only hB hG2 hB.size (Nat.le_refl _)
        clear hB2 hG2 hs2
        go_wp2_with fail
        refine bodyPost_ret (v := .tuple #[.agg vs.toArray, .int .i64 0]) (res2 Tryd.results20 _ _ _ rfl hB3 Tryd.underlying37 (by rw [info32]; simp [HL.out]) rfl) rfl ?_
        exact ⟨by rw [HK.out], hE⟩
  · have hs64 : ((s.size : Int) != 64) = true := by simp; omega
    have hbad : unhexV s = .tuple #[.agg (z8 32).toArray, .int .i64 3] := by
      unfold unhexV hexOK
      rw [if_neg]
      rw [nums_len, Bool.and_eq_true]
      rintro ⟨h, -⟩
      exact h64 (of_decide_eq_true h)
    have HB := Sl.mk hbad
    clear h64 hbad
    go_enter Tryd.func20, Tryd.ntmps20
    obtain ⟨w4, hw4⟩ : ∃ w4, (w.alloc (.cells (z8 32).toArray 37)).alloc (.cells (z8 32).toArray 37) = w4 := ⟨_, rfl⟩
    have hA : Blk ((w.alloc (.cells (z8 32).toArray 37)).alloc (.cells (z8 32).toArray 37)) (w.heap.size + 1) 37 (z8 32).toArray := Blk.new' (by simp)
    have hZ : Blk ((w.alloc (.cells (z8 32).toArray 37)).alloc (.cells (z8 32).toArray 37)) w.heap.size 37 (z8 32).toArray := Blk.alloc (Blk.new w _ _) _
    have hB : Below w.heap.size w ((w.alloc (.cells (z8 32).toArray 37)).alloc (.cells (z8 32).toArray 37)) := below_al (below_al (Below.refl _ _) _) _
    clear hw4
    go_wp2_with (first
      | (refine wpList_load_row rfl 37 (.tmp 4) rfl (w.heap.size + 1) rfl 37 (z8 32).toArray (0, 0) _ hA Tryd.underlying37 rfl (by rw [info32]; simp [HZ.out]) ?_)
      | (refine wpList_store_blk rfl 37 (.tmp 2) (.tmp 13) rfl w.heap.size 0 37 (z8 32) (z8 32) hZ rfl rfl (by simp) (by rw [info32, HZ.out]) (z8_one _) ?_))
    intro w2 hB2 hG2 hs2
    have hB3 : Blk w2 w.heap.size 37 (z8 32).toArray := by simpa using hB2
    have hE : Below w.heap.size w w2 := below_only hB hG2 (by simp; omega) (Nat.le_refl _)
    clear hB2 hG2 hs2
    go_wp2_with fail
    refine bodyPost_ret (v := .tuple #[.agg (z8 32).toArray, .int .i64 3]) (res2 Tryd.results20 _ _ _ rfl hB3 Tryd.underlying37 (by rw [info32]; simp [HZ.out]) rfl) rfl ?_
    exact ⟨by rw [HB.out], hE⟩

end Go.Proofs.YtaffjcenojikjaaDoor
