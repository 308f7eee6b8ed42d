/-
  The contracts of sign and Hex, and of the law's known().
-/
import Derived.Test.YtaffjcenojikjaaDoorDigEval
import Derived.Test.YtaffjcenojikjaaDoorWordsH
import Derived.Laws.BytesArg
import Derived.Laws.BitsAllLaws
namespace Go.Proofs.YtaffjcenojikjaaDoor
open Go.RowKit
attribute [local go_sem ↓] Go.wp_at_zero Go.wp_at_succ

theorem run_index_arr {P : Program} (w : World) (T e : TypeId) (len : Nat) (k : IntKind) (hT : P.underlying T = some (.array len e)) (hE : P.underlying e = some (.int k)) (hi : (P.info? e).map (·.size) = some 1) (l : List Value) (i : Nat) (v : Value)
    (hl : l[i]? = some v) (hil : i < len) : (Instr.index T (.agg l.toArray) (.int .i64 (i : Int))).run P w = .ok v w := by
  cases hq : P.info? e with
  | none => simp [hq] at hi
  | some x =>
    have hs : x.size = 1 := by simpa [hq] using hi
    simp [Instr.index, asIntOf, Sem.run_bind, run_underlying hT, part, isAgg, run_underlying hE, sizeOf, typeInfo, hq, hs, hil, hl]
theorem info8u : (Tryd.prog.info? 5).map (·.size) = some 1 := by kernel_rfl
theorem infob : (Tryd.prog.info? 5).map (fun i => (i.zero, i.size, i.bytes)) = some (some (.int .u8 0), 1, 1) := by kernel_rfl
theorem and15 : ∀ a b : Fin 16, bits .and .u8 ((16 * a.val + b.val : Nat) : Int) 15 = ((b.val : Nat) : Int) := by decide +kernel
theorem and15' {x : Nat} (h : x < 256) : bits .and .u8 (x : Int) 15 = ((x % 16 : Nat) : Int) := by
  have := and15 ⟨x / 16, by omega⟩ ⟨x % 16, by omega⟩
  have e : 16 * (x / 16) + x % 16 = x := Nat.div_add_mod x 16
  simp only [e] at this
  exact this

theorem sign_any (c : Int) (w : World) (h0 : 0 ≤ c) (h : c < 16) : Calls Tryd.prog 29 #[.int .u8 c] w fun e w' => e = .returned (.int .u8 ((signF c.toNat : Nat) : Int)) ∧ w = w' := by
  obtain ⟨n, rfl⟩ := Int.eq_ofNat_of_zero_le h0
  rw [Int.toNat_natCast]
  by_cases h10 : n < 10
  · have e : signF n = 48 + n := by unfold signF; rw [if_pos h10]
    have HE := Sl.mk e
    go_enter Tryd.func29, Tryd.ntmps29
    go_wp2_with fail
    go_ret
    exact ⟨ret_int (by rw [HE.out]; simp), rfl⟩
  · have e : signF n = 87 + n := by unfold signF; rw [if_neg h10]
    have HE := Sl.mk e
    go_enter Tryd.func29, Tryd.ntmps29
    go_wp2_with fail
    go_ret
    exact ⟨ret_int (by rw [HE.out]; omega), rfl⟩

def hexS (D : List Nat) : ByteArray := ⟨((hexF D).map fun n : Nat => UInt8.ofNat n).toArray⟩
theorem hexF_snoc (D : List Nat) (x : Nat) : hexF (D ++ [x]) = hexF D ++ [signF (x / 16), signF (x % 16)] := by simp [hexF]
theorem hexF_len (D : List Nat) : (hexF D).length = D.length * 2 := by
  induction D with
  | nil => rfl
  | cons x D ih => simp [hexF] at ih ⊢; omega
theorem hmk64 (w : World) : (Instr.makeSlice 23 (.int .i64 0) (.int .i64 64)).run Tryd.prog w = .ok (.slice (some ⟨w.heap.size, 0, none⟩) 0 64) (w.alloc (.cells (z8 64).toArray 5)) := by kernel_rfl

set_option maxRecDepth 100000 in
set_option maxHeartbeats 4000000 in
theorem hex_any (D : List Nat) (w : World) (hD : D.length = 32) (hb : ∀ x ∈ D, x < 256) :
    Calls Tryd.prog 22 #[.agg (u8s D).toArray] w fun e w' => e = .returned (.string (hexS D)) ∧ Below w.heap.size w w' := by
  obtain ⟨i0, hi0, hz0, hz1, hz2⟩ := info_parts infob
  have hmk := hmk64
  have HD := hide hD
  have HB := Sl.mk hb
  have hone : ∀ v ∈ u8s D, v.oneCell' = true := u8s_one D
  clear hD hb
  go_enter Tryd.func22, Tryd.ntmps22
  have hBx : Blk (w.alloc (.cells (u8s D).toArray 37)) w.heap.size 37 (u8s D).toArray := Blk.new _ _ _
  go_wp2_with ((refine wpList_load_row rfl 37 (.tmp 1) rfl w.heap.size rfl 37 (u8s D).toArray (0, 0) _ (Blk.alloc hBx _) Tryd.underlying37 rfl (by rw [info32]; simp [u8s_len, HD.out]) ?_))
  have hown0 : ((w.alloc (.cells (u8s D).toArray 37)).alloc (.cells (z8 64).toArray 5)).ownsRow w.heap.size 5 1 (.slice (some ⟨w.heap.size + 1, 0, none⟩) 0 64) 0 (u8s (hexF [])) :=
    ⟨by simp [u8s, hexF], .inr ⟨w.heap.size + 1, 64, (z8 64).toArray, rfl, by omega, Blk.new' (by simp), by omega, by unfold maxLen; omega, by simp [z8], by simp [u8s, hexF]⟩⟩
  go_loopw [3, 8] (fun v3 v8 wr => ∃ (i : Nat) (A : Option Addr) (c : Nat), i ≤ 32 ∧ v8 = .int .i64 i ∧ v3 = .slice A (i * 2) c ∧ wr.ownsRow w.heap.size 5 1 (.slice A (i * 2) c) (i * 2) (u8s (hexF (D.take i))) ∧ Below w.heap.size w wr) (fun _ v8 _ => 32 - (intOf v8).toNat)
  case atStart => exact ⟨0, _, 64, by omega, rfl, rfl, hown0, below_al (below_al (Below.refl _ _) _) _⟩
  case round =>
    obtain ⟨i, A, c, hi, rfl, rfl, hown, hB⟩ := hrel
    clear hown0 hBx
    by_cases hlt : i < 32
    · obtain ⟨x, hx⟩ : ∃ x, D.getD i 0 = x := ⟨_, rfl⟩
      have hx256 : x < 256 := by
        rw [← hx]
        have hi2 : i < D.length := by rw [HD.out]; exact hlt
        have : D.getD i 0 = D[i] := by simp [hi2]
        rw [this]; exact HB.out _ (List.getElem_mem hi2)
      have hget : (u8s D)[i]? = some (.int .u8 (x : Int)) := by
        have hi2 : i < D.length := by rw [HD.out]; exact hlt
        rw [← hx]; simp [u8s, hi2]
      have hidx : ∀ w', (Instr.index 37 (.agg (u8s D).toArray) (.int .i64 (i : Int))).run Tryd.prog w' = .ok (.int .u8 (x : Int)) w' :=
        fun w' => run_index_arr w' 37 5 32 .u8 Tryd.underlying37 Tryd.underlying5 info8u (u8s D) i _ hget hlt
      have ha := and15' hx256
      have hsn : hexF (D.take (i + 1)) = hexF (D.take i) ++ [signF (x / 16), signF (x % 16)] := by
        rw [take_succ_getD (d := 0) (by rw [HD.out]; exact hlt), hx, hexF_snoc]
      have HSN := Sl.mk hsn
      clear hx hget hsn
      go_wp2_with fail
      refine (sign_any _ _ (by omega) (by omega)).mono ?_
      rintro e w1 ⟨rfl, rfl⟩
      go_wp2_with fail
      refine (sign_any _ _ (by omega) (by omega)).mono ?_
      rintro e w1 ⟨rfl, rfl⟩
      have t1 : ((x : Int) / 16).toNat = x / 16 := by omega
      have t2 : ((x : Int) % 16).toNat = x % 16 := by omega
      obtain ⟨s1, hs1⟩ : ∃ s, signF (x / 16) = s := ⟨_, rfl⟩
      obtain ⟨s2, hs2⟩ : ∃ s, signF (x % 16) = s := ⟨_, rfl⟩
      rw [hs1, hs2] at HSN
      first
        | rw [t1, t2, hs1, hs2]
        | rw [hs1, hs2]
      clear hs1 hs2 t1 t2 ha hidx
      go_wp2_with (at_builtin; refine wpList_append_any _ rfl (.tmp 11) (.tmp 18) 23 rfl w.heap.size 5 i0 (.int .u8 0) 1 1 Tryd.underlying23 hi0 hz0 hz1 hz2 rfl (by decide) _ _ _ rfl (hown.alloc _) (wr.heap.size + 1) (some ⟨wr.heap.size, 0, none⟩) 2 2 [.int .u8 s1, .int .u8 s2] rfl (reads_new2 _ _ _ _ (Nat.lt_succ_self _)) ?c2 (by unfold maxLen; omega) (by omega) (by have := hB.size; simp; omega) ?_)
      case c2 => intro u hu; simp at hu; rcases hu with rfl | rfl <;> rfl
      intro v' w2 hown2 hgrow _
      have e2 : i * 2 + 2 = (i + 1) * 2 := by omega
      have hown3 : w2.ownsRow w.heap.size 5 1 v' ((i + 1) * 2) (u8s (hexF (D.take (i + 1)))) := by
        rw [HSN.out, ← e2]
        have : u8s (hexF (D.take i) ++ [s1, s2]) = u8s (hexF (D.take i)) ++ [.int .u8 s1, .int .u8 s2] := by simp [u8s]
        rw [this]; exact hown2
      obtain ⟨A2, c2, rfl⟩ := ownForm hown3
      have hB2 : Below w.heap.size w w2 := (below_al hB _).grown hgrow (by have := hB.size; simp; omega) (fun q hq => ownGe hown hq)
      clear hown2 hgrow e2 hown
      go_wp2_with fail
      go_roundw
      case rel => exact ⟨i + 1, A2, c2, by omega, by go_num, rfl, hown3, hB2⟩
      case measure => simp [intOf]; omega
    · obtain rfl : i = 32 := by omega
      have hD2 : D.take 32 = D := List.take_of_length_le (by rw [HD.out]; omega)
      rw [hD2] at hown
      obtain ⟨g, c', hA, -, -, hcells⟩ := ownCells hown (by omega)
      injection hA with hA _ hc
      subst hA hc
      have hcv := run_convert_bytes_arg (P := Tryd.prog) wr 23 5 Tryd.underlying23 Tryd.underlying5 g 0 64 c ((hexF D).map fun n : Nat => (n : Int)) (by rw [List.length_map, hexF_len, HD.out]) (fun j hj => by
        rw [Nat.zero_add]
        refine hcells j _ ?_
        have hj2 : j < (hexF D).length := by rw [hexF_len, HD.out]; exact hj
        simp [u8s, hj2]) 9 Tryd.underlying9
      have hss : strOfNums ((hexF D).map fun n : Nat => (n : Int)) = hexS D := by simp [strOfNums, hexS]
      rw [hss] at hcv
      clear hD2 hcells
      go_wp2_with fail
      go_ret
      exact ⟨rfl, hB⟩

end Go.Proofs.YtaffjcenojikjaaDoor
