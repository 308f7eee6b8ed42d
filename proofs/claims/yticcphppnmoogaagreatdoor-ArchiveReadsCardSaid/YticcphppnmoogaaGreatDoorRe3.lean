/-
  The walk of the law ArchiveReads.
  ArchiveReads at any input that reads.
  The card of the law 'ArchiveReads': it returns true at every input, and each argument reads behind the call as it read before; the listed variables are tied to the program's text. Conditions: none.
-/
import Derived.Test.YticcphppnmoogaaGreatDoorBy28
import Derived.Test.YticcphppnmoogaaGreatDoorRe2
import Derived.Test.YticcphppnmoogaaGreatDoorBy29
import Derived.Test.YticcphppnmoogaaGreatDoorCards
import Derived.Test.YticcphppnmoogaaGreatDoorTie
import Derived.ProofKit
import Derived.OpenShut
import Derived.ShutString
import Derived.ChangeOld
import Derived.Below
import Derived.Deep.DeepHandedRow

namespace Go.Proofs.YticcphppnmoogaaGreatDoor
open Go.RowKit
attribute [local go_sem ↓] Go.wp_at_zero Go.wp_at_succ

theorem modes_bits {k m : Int} (h : refu k m 0 0 = 0) : (bits .and .i64 m 3072 != 0) = false ∧ (k < 2 → 0 ≤ k → (bits .and .i64 m 18 != 0) = false) := by
  have hc : chk k m 0 0 = 0 := by
    unfold refu at h
    split at h
    · assumption
    · exact h
  have hr : refu k m 0 0 = if k = 3 then 17 else if k = 4 then 17 else if andB m 3072 || ((k == 0 || k == 1) && andB m 18) then 11 else 0 := if_pos hc
  rw [h] at hr
  split at hr
  · cases hr
  split at hr
  · cases hr
  split at hr
  · cases hr
  · rename_i h3
    simp only [Bool.or_eq_true, not_or, Bool.not_eq_true] at h3
    refine ⟨h3.1, fun h2 h0 => ?_⟩
    have hk : (k == 0 || k == 1) = true := by
      rcases (show k = 0 ∨ k = 1 by omega) with rfl | rfl <;> rfl
    have := h3.2
    rw [hk, Bool.true_and] at this
    exact this
theorem link_zero {e : En} (h : linkE e = 0) (hk : e.kind = 2) : leadE e.path.dropLast (strN e.data) = 0 := by
  unfold linkE at h
  rw [if_pos hk] at h
  split at h
  · rename_i h1; exact h1.1
  · cases h
theorem refused_link {e : En} {l : List Ex} (h : refusedE e l = 0) : linkE e = 0 := by
  unfold refusedE at h
  split at h
  · contradiction
  split at h
  · contradiction
  split at h
  · contradiction
  split at h
  · contradiction
  split at h
  · contradiction
  · rename_i h4
    exact Decidable.not_not.1 h4

set_option maxRecDepth 100000 in
set_option maxHeartbeats 16000000 in
theorem reads_walk (A : Option Addr) (n0 c : Nat) (b0 : List Nat) (w : World) (hc : n0 ≤ c ∧ c ≤ 9223372036854775807) (hby : ∀ x ∈ b0, x < 256) (hR : Reads w w.heap.size 1 A n0 (u8s b0)) (hM : Mx w) (hT : Tabs w) :
    Calls Tryz.prog 3 #[.slice A n0 c] w fun e w' => e = .returned (.bool true) ∧ Below w.heap.size w w' := by
  obtain ⟨n, hn⟩ : ∃ n, (min (n0 : Int) 2000).toNat = n := ⟨_, rfl⟩
  have hni : min (n0 : Int) 2000 = (n : Int) := by omega
  have hn1 : n ≤ n0 := by omega
  have hn2 : n ≤ 2000 := by omega
  obtain ⟨b, hb⟩ : ∃ b, b0.take n = b := ⟨_, rfl⟩
  have hRb : Reads w w.heap.size 1 A n (u8s b) := by
    have := reads_take hR hn1
    rw [u8s_take, hb] at this
    exact this
  have HY := Sl.mk (show ∀ x ∈ b, x < 256 from fun x hx => by rw [← hb] at hx; exact hby x (List.mem_of_mem_take hx))
  have HR := Sl.mk hRb
  have HM := Sl.mk hM
  have HTb := Sl.mk hT
  have HDA := Sl.mk (decode_any A n c b w (by omega) ⟨by omega, hc.2⟩ HY.out hRb hM hT)
  have HK := Sl.mk (fun (W : World) (hW : Below w.heap.size w W) => aknown_any W (HM.out.be hW))
  have hnc : (n : Int) ≤ (c : Int) := by omega
  unfold DecPost at HDA
  clear hR hRb hM hT hby hb hn
  go_enter Tryz.func3, Tryz.ntmps3
  go_wp2_with fail
  clear hni
  refine HDA.out.mono ?_
  rintro e w1 ⟨hB1, hpost⟩
  clear HDA
  rcases hpost with ⟨hno, N, E, hE0, hdn, rfl⟩ | ⟨Ay, my, cy, Y, rfl, hdn, hsome, hY, hm40, hmc⟩
  · have HDN := Sl.mk hdn
    have hne : (E != 0) = true := by simpa using hE0
    have hee : (E != E) = false := by simp
    have hnn : ((N : Int) != (N : Int)) = false := by simp
    clear hno hE0 hdn
    go_wp2_with fail
    refine (make_any _).mono ?_
    rintro e w2 ⟨rfl, hB2⟩
    have hE2 := below_tr hB1 hB2
    have HDR := Sl.mk (rdecode_any A n c b w2 (by omega) ⟨by omega, hc.2⟩ HY.out ((HR.out.below hE2).more hE2.size))
    obtain ⟨TT, hTT⟩ : ∃ TT, (i64s tabT).toArray = TT := ⟨_, rfl⟩
    rw [hTT] at HDR ⊢
    unfold DecPost at HDR
    clear hTT
    go_wp2_with fail
    refine HDR.out.mono ?_
    rintro e w3 ⟨hB3, hpost⟩
    have hE3 := below_tr hE2 hB3
    clear HDR
    rcases hpost with ⟨-, N2, E2, -, hdn2, rfl⟩ | ⟨_, _, _, _, rfl, hdn2, -, -, -, -⟩
    · rw [HDN.out] at hdn2
      injection hdn2 with e1 e2
      subst e1 e2
      have HOF := Sl.mk (aof_any none 0 0 [] w3 (by omega) (exs_nil w3))
      unfold OfPost at HOF
      go_wp2_with fail
      refine HOF.out.mono ?_
      rintro e w4 ⟨A4, c4, rfl, ho4, hB4⟩
      have HRS := Sl.mk (rsames_any A4 none 0 c4 0 0 [] [] w4 (by omega) (by omega) ⟨Reads.of_own ho4, fun x hx => by cases hx⟩ (exs_nil w4))
      rw [show eqL [] [] = true from rfl] at HRS
      have hE4 := below_tr hE3 hB4
      clear HOF ho4
      go_wp2_with fail
      refine HRS.out.mono ?_
      rintro e w5 ⟨rfl, hB5⟩
      have hE5 : Below w.heap.size w w5 := by first | exact below_tr hE4 hB5 | (obtain ⟨k, rfl⟩ := hB5; exact below_drN hE4 k)
      go_wp2_with fail
      refine (HK.out _ hE5).mono ?_
      rintro e w6 ⟨rfl, hB6⟩
      go_wp2_with fail
      go_ret
      exact ⟨rfl, below_tr hE5 hB6⟩
    · rw [HDN.out] at hdn2
      injection hdn2 with e1 e2
      subst e2
      simp at hne
  · obtain ⟨q1, q2, q3⟩ := decode_back HY.out hsome
    have HQ := Sl.mk (And.intro q1 (And.intro q2 q3))
    have HDN := Sl.mk hdn
    have HSO := Sl.mk hsome
    have HYY := Sl.mk hY
    clear q1 q2 q3 hsome hY hdn
    go_wp2_with fail
    refine (make_any _).mono ?_
    rintro e w2 ⟨rfl, hB2⟩
    have hE2 := below_tr hB1 hB2
    have HDR := Sl.mk (rdecode_any A n c b w2 (by omega) ⟨by omega, hc.2⟩ HY.out ((HR.out.below hE2).more hE2.size))
    obtain ⟨TT, hTT⟩ : ∃ TT, (i64s tabT).toArray = TT := ⟨_, rfl⟩
    rw [hTT] at HDR ⊢
    unfold DecPost at HDR
    clear hTT
    go_wp2_with fail
    refine HDR.out.mono ?_
    rintro e w3 ⟨hB3, hpost⟩
    have hE3 := below_tr hE2 hB3
    have hB13 := below_tr hB2 hB3
    clear HDR
    rcases hpost with ⟨hno, -⟩ | ⟨Az, mz, cz, V, rfl, hdn2, hs2, hV, hmz40, hmzc⟩
    · rw [HSO.out] at hno; cases hno
    rw [HDN.out] at hdn2
    injection hdn2 with e1 e2
    subst e1
    rw [HSO.out] at hs2
    injection hs2 with hs2
    have HVV := Sl.mk hV
    have HYV := Sl.mk (show eqL Y V = true from (eqL_iff Y V).2 hs2)
    have hY3 := HYY.out.be hB13
    have HOF := Sl.mk (aof_any Ay my cy Y w3 (by omega) hY3)
    unfold OfPost at HOF
    have hnn : ((my : Int) != (my : Int)) = false := by simp
    clear hV hs2 e2 hY3
    go_wp2_with fail
    refine HOF.out.mono ?_
    rintro e w4 ⟨A4, c4, rfl, ho4, hB4⟩
    have hB14 := below_tr hB13 hB4
    have HRS := Sl.mk (rsames_any A4 Az my c4 my cz Y V w4 (by omega) (by omega) ⟨Reads.of_own ho4, fun x hx => (HYY.out.be hB14).ok x hx⟩ (HVV.out.be hB4))
    rw [HYV.out] at HRS
    have hE4 := below_tr hE3 hB4
    clear HOF ho4
    go_wp2_with fail
    refine HRS.out.mono ?_
    rintro e w5 ⟨rfl, hB5⟩
    have hE5 : Below w.heap.size w w5 := by first | exact below_tr hE4 hB5 | (obtain ⟨k, rfl⟩ := hB5; exact below_drN hE4 k)
    have hB15 : Below w1.heap.size w1 w5 := by first | exact below_tr hB14 hB5 | (obtain ⟨k, rfl⟩ := hB5; exact below_drN hB14 k)
    have HYL := Sl.mk HYY.out.n_
    clear HRS hB5 hB4 hB3 hB2
    go_wp2_with fail
    go_loopw [9] (fun v9 wr => ∃ i : Nat, i ≤ my ∧ v9 = .int .i64 i ∧ Below w1.heap.size w1 wr ∧ Below w.heap.size w wr) (fun v9 _ => my - (intOf v9).toNat)
    case atStart => exact ⟨0, Nat.zero_le _, rfl, hB15, hE5⟩
    case round =>
      clear hB15 hE5
      obtain ⟨i, hi, rfl, hB1r, hEr⟩ := hrel
      by_cases hil : i < my
      · obtain ⟨x, hx⟩ : ∃ x, Y[i]? = some x := ⟨_, List.getElem?_eq_getElem (by rw [HYL.out]; exact hil)⟩
        obtain ⟨ab, ao, rfl, hbl, hld, hok⟩ := (HYY.out.be hB1r).lit hx
        have href := HQ.out.2.2 i x hx
        obtain ⟨z0, z1, z2, z3⟩ := refused_zero href
        have HLK := Sl.mk (refused_link href)
        obtain ⟨p1, p2, p3⟩ := paths_zero z0
        obtain ⟨k1, k2⟩ := kind_zero z1
        have hd3 := size_zero z3
        obtain ⟨mb1, mb2⟩ := modes_bits (show refu x.e.kind x.e.mode 0 0 = 0 from z2)
        obtain ⟨⟨p, k, m, d⟩, pa, pc, da, dc⟩ := x
        simp only at p1 p2 p3 k1 k2 hd3 mb1 mb2
        obtain ⟨q, hq⟩ : ∃ q, p.length = q + 1 := ⟨p.length - 1, by have := List.length_pos_iff.2 p2; omega⟩
        have c0 : wr.cell? ⟨ab, ao + i * 4, none⟩ = some (.slice pa (q + 1) pc) := by rw [← hq]; exact hld 0 _ rfl
        have c1 : wr.cell? ⟨ab, ao + i * 4 + 1, none⟩ = some (.int .i64 k) := hld 1 _ rfl
        have c2 : wr.cell? ⟨ab, ao + i * 4 + 2, none⟩ = some (.int .i64 m) := hld 2 _ rfl
        have c3 : wr.cell? ⟨ab, ao + i * 4 + 3, none⟩ = some (.slice da d.length dc) := hld 3 _ rfl
        have HOK := Sl.mk hok
        have HQL := Sl.mk hq
        have hq1 : ((q : Int) + 1 == 0) = false := by simp; omega
        have hk22 : ¬ (2 : Int) < k := by omega
        clear hx hld hok href z0 z1 z2 z3 p1 p2 p3 hq
        by_cases hk2 : k = 2
        · subst hk2
          have HLZ := Sl.mk (link_zero HLK.out rfl)
          obtain ⟨S, hS⟩ : ∃ S, strN d = S := ⟨_, rfl⟩
          have hss : S.size ≤ 512 := by rw [← hS, strN_size]; exact hd3
          have HSS := Sl.mk hS
          clear hS mb2
          go_wp2_with fail
          obtain ⟨wd, hwd⟩ : ∃ wd, wr.drew = wd := ⟨_, rfl⟩
          have hbd : Below wr.heap.size wr wd := by rw [← hwd]; exact (Below.refl _ _).drew
          have hEd := below_tr hEr hbd
          have hB1d := below_tr hB1r hbd
          have HOKd := Sl.mk (HOK.out.be hbd)
          have HSF : Sl (∀ W, Below wd.heap.size wd W → W.cell? ⟨ab, ao + i * 4 + 3, none⟩ = some (.slice da d.length dc) ∧ (convert 22 9 (.slice da d.length dc)).run Tryz.prog W = .ok (.string S) W) := Sl.mk (fun W hW =>
            ⟨((below_tr hbd hW).cell (p := ⟨ab, ao + i * 4 + 3, none⟩) hbl).trans c3, by
              have := conv_str (c := dc) (HOKd.out.be hW).data HOK.out.byte
              rw [HSS.out] at this
              exact this⟩)
          have HLD := Sl.mk (rlead_any pa q pc p.dropLast S wd (by have := HOK.out.plen; have := HQL.out; simp only at *; omega) (fun y hy => by have := HOK.out.slen y ((List.dropLast_sublist p).subset hy); omega) (by omega) (reads_drop (by have h := HOKd.out.path; simp only at h; rw [HQL.out] at h; exact h)))
          rw [HSS.out] at HLZ
          unfold RLeadPost at HLD
          rw [HLZ.out] at HLD
          have hpc := HOK.out.pcap
          simp only at hpc
          rw [HQL.out] at hpc
          clear c0 c1 c2 c3 hbd
          refine wp_region_X (fun W => Below wd.heap.size wd W) [13, 14, 15, 16] (by kernel_rfl) (by rw [hwd]; exact Below.refl _ _) (fun hS => ?_)
          rw [hwd] at hS ⊢
          clear hwd
          have hx0 : i < my := hil
          have hw1 : IntKind.i64.wrap ((q : Int) + 1 - 1) = (q : Int) := by rw [Int.add_sub_cancel]; exact IntWalk.i64_in _ (by omega)
          have hw2 : IntKind.i64.wrap (q : Int) = (q : Int) := IntWalk.i64_in _ (by omega)
          have hx1 : q ≤ pc := by omega
          refine wpAnyX_S (i := 0) (v := ?_) rfl (by kernel_rfl) (by kernel_rfl) (by kernel_rfl) (by kernel_rfl) (fun _ _ _ h => h) (Or.inl ⟨by rfl, ?_⟩) hS ?_
          rotate_left 1
          · (intro w' hw'; (first | rw [hw'] | (have hw2 := HSF.out w' hw') | skip); go_simp; (try with_reducible rfl))
          simp only [Act.put, List.setIfInBounds_toArray, List.set_cons_zero, List.set_cons_succ]
          refine wpAnyX_S (i := 1) (v := ?_) rfl (by kernel_rfl) (by kernel_rfl) (by kernel_rfl) (by kernel_rfl) (fun _ _ _ h => h) (Or.inl ⟨by rfl, ?_⟩) hS ?_
          rotate_left 1
          · (intro w' hw'; (first | rw [hw'] | (have hw2 := HSF.out w' hw') | skip); go_simp; (try with_reducible rfl))
          simp only [Act.put, List.setIfInBounds_toArray, List.set_cons_zero, List.set_cons_succ]
          refine wpAnyX_S (i := 2) (v := ?_) rfl (by kernel_rfl) (by kernel_rfl) (by kernel_rfl) (by kernel_rfl) (fun _ _ _ h => h) (Or.inl ⟨by rfl, ?_⟩) hS ?_
          rotate_left 1
          · (intro w' hw'; (first | rw [hw'] | (have hw2 := HSF.out w' hw') | skip); go_simp; (try with_reducible rfl))
          simp only [Act.put, List.setIfInBounds_toArray, List.set_cons_zero, List.set_cons_succ]
          refine wpAnyX_S (i := 3) (v := ?_) rfl (by kernel_rfl) (by kernel_rfl) (by kernel_rfl) (by kernel_rfl) (fun _ _ _ h => h) (Or.inl ⟨by rfl, ?_⟩) hS ?_
          rotate_left 1
          · (intro w' hw'; (first | rw [hw'] | (have hw2 := HSF.out w' hw') | skip); go_simp; (try with_reducible rfl))
          simp only [Act.put, List.setIfInBounds_toArray, List.set_cons_zero, List.set_cons_succ]
          refine wpAnyX_S (i := 4) (v := ?_) rfl (by kernel_rfl) (by kernel_rfl) (by kernel_rfl) (by kernel_rfl) (fun _ _ _ h => h) (Or.inl ⟨by rfl, ?_⟩) hS ?_
          rotate_left 1
          · (intro w' hw'; (first | rw [hw'] | (have hw2 := HSF.out w' hw') | skip); go_simp; (try with_reducible rfl))
          simp only [Act.put, List.setIfInBounds_toArray, List.set_cons_zero, List.set_cons_succ]
          refine wpAnyX_S (i := 5) (v := ?_) rfl (by kernel_rfl) (by kernel_rfl) (by kernel_rfl) (by kernel_rfl) (fun _ _ _ h => h) (Or.inl ⟨by rfl, ?_⟩) hS ?_
          rotate_left 1
          · (intro w' hw'; (first | rw [hw'] | (have hw2 := HSF.out w' hw') | skip); go_simp; (try with_reducible rfl))
          simp only [Act.put, List.setIfInBounds_toArray, List.set_cons_zero, List.set_cons_succ]
          refine wpAnyX_S (i := 6) (v := ?_) rfl (by kernel_rfl) (by kernel_rfl) (by kernel_rfl) (by kernel_rfl) (fun _ _ _ h => h) (Or.inl ⟨by rfl, ?_⟩) hS ?_
          rotate_left 1
          · (intro w' hw'; (first | rw [hw'] | (have hw2 := HSF.out w' hw') | skip); go_simp; (try with_reducible rfl))
          simp only [Act.put, List.setIfInBounds_toArray, List.set_cons_zero, List.set_cons_succ]
          refine wpAnyX_S (i := 7) (v := ?_) rfl (by kernel_rfl) (by kernel_rfl) (by kernel_rfl) (by kernel_rfl) (fun _ _ _ h => h) (Or.inl ⟨by rfl, ?_⟩) hS ?_
          rotate_left 1
          · (intro w' hw'; (first | rw [hw'] | (have hw2 := HSF.out w' hw') | skip); go_simp; (try with_reducible rfl))
          simp only [Act.put, List.setIfInBounds_toArray, List.set_cons_zero, List.set_cons_succ]
          refine wpAnyX_S (i := 8) (v := ?_) rfl (by kernel_rfl) (by kernel_rfl) (by kernel_rfl) (by kernel_rfl) (fun _ _ _ h => h) (Or.inl ⟨by rfl, ?_⟩) hS ?_
          rotate_left 1
          · (intro w' hw'; (first | rw [hw'] | (have hw2 := HSF.out w' hw') | skip); go_simp; (try with_reducible rfl))
          simp only [Act.put, List.setIfInBounds_toArray, List.set_cons_zero, List.set_cons_succ]
          refine wpAnyX_S (i := 9) (v := ?_) rfl (by kernel_rfl) (by kernel_rfl) (by kernel_rfl) (by kernel_rfl) (fun _ _ _ h => h) (Or.inl ⟨by rfl, ?_⟩) hS ?_
          rotate_left 1
          · (intro w' hw'; (first | rw [hw'] | (have hw2 := HSF.out w' hw') | skip); go_simp; (try with_reducible rfl))
          simp only [Act.put, List.setIfInBounds_toArray, List.set_cons_zero, List.set_cons_succ]
          refine wpAnyX_S (i := 10) (v := ?_) rfl (by kernel_rfl) (by kernel_rfl) (by kernel_rfl) (by kernel_rfl) (fun _ _ _ h => h) (Or.inl ⟨by rfl, ?_⟩) hS ?_
          rotate_left 1
          · (intro w' hw'; (first | rw [hw'] | (have hw2 := HSF.out w' hw') | skip); go_simp; (try with_reducible rfl))
          simp only [Act.put, List.setIfInBounds_toArray, List.set_cons_zero, List.set_cons_succ]
          clear hw1 hw2 hx0 hx1
          refine wpAnyX_oneL (k := 11) rfl (by kernel_rfl) rfl ?_
          refine wp_of_call (f := 11) (args := #[.slice pa q pc, .string S]) (by go_simp) HLD.out (fun e w6 hq => ?_)
          obtain ⟨A6, k6, c6, rfl, hB6⟩ := hq
          refine ⟨_, rfl, fun _ => hB6, ?_⟩
          simp only [Act.put, List.setIfInBounds_toArray, List.set_cons_zero, List.set_cons_succ]
          have hS6 : Below wd.heap.size wd w6 := hB6
          clear hS
          have hS := hS6
          refine wpAnyX_S (i := 12) (v := ?_) rfl (by kernel_rfl) (by kernel_rfl) (by kernel_rfl) (by kernel_rfl) (fun _ _ _ h => h) (Or.inl ⟨by rfl, ?_⟩) hS ?_
          rotate_left 1
          · (intro w' hw'; (first | rw [hw'] | (have hw2 := HSF.out w' hw') | skip); go_simp; (try with_reducible rfl))
          simp only [Act.put, List.setIfInBounds_toArray, List.set_cons_zero, List.set_cons_succ]
          refine wpAnyX_P (i := 13) (v := ?_) rfl (by kernel_rfl) (by kernel_rfl) (by kernel_rfl) (by kernel_rfl) (fun _ _ _ h => h) (Or.inl ⟨by rfl, ?_⟩) ?_
          rotate_left 1
          · (intro w' hw'; (first | rw [hw'] | (have hw2 := HSF.out w' hw') | skip); go_simp; (try with_reducible rfl))
          simp only [Act.put, List.setIfInBounds_toArray, List.set_cons_zero, List.set_cons_succ]
          refine wpAnyX_P (i := 14) (v := ?_) rfl (by kernel_rfl) (by kernel_rfl) (by kernel_rfl) (by kernel_rfl) (fun _ _ _ h => h) (Or.inl ⟨by rfl, ?_⟩) ?_
          rotate_left 1
          · (intro w' hw'; (first | rw [hw'] | (have hw2 := HSF.out w' hw') | skip); go_simp; (try with_reducible rfl))
          simp only [Act.put, List.setIfInBounds_toArray, List.set_cons_zero, List.set_cons_succ]
          refine wpAnyX_tailF [15, 16] (by kernel_rfl) (by rfl) (by rfl) (by rfl) ?_
          simp only [List.filterMap_cons, List.filterMap_nil, List.getElem?_cons_succ, List.getElem?_cons_zero]
          have hE6 := below_tr hEd hB6
          have hB16 := below_tr hB1d hB6
          clear hS hS6 hB6 HSF HLD HOKd HOK hEd hB1d hEr hB1r
          go_wp2_with fail
          refine NoPanic.normal ?_
          go_wp2_with fail
          go_roundw
          case rel => exact ⟨i + 1, by omega, by go_num, hB16, hE6⟩
          case measure => simp [intOf]; omega
        · have hk2' : (k == 2) = false := by simpa using hk2
          have hk3 : k < 2 := by omega
          have mb3 := mb2 hk3 k1
          clear hk2 mb2
          go_wp2_with fail
          go_roundw
          case rel => exact ⟨i + 1, by omega, by go_num, hB1r, hEr⟩
          case measure => simp [intOf]; omega
      · obtain rfl : i = my := by omega
        have HEN := Sl.mk (aencode_any Ay i cy Y wr (by omega) hmc (HYY.out.be hB1r) (HM.out.be hEr) (HTb.out.below hEr HTb.out.1))
        unfold EncPost at HEN
        go_wp2_with fail
        refine HEN.out.mono ?_
        rintro e w6 ⟨N5, E5, hR5, hB6, hp5⟩
        have h50 := check_of hR5 HQ.out.2.1 HQ.out.2.2
        rcases hp5 with ⟨hne, _⟩ | ⟨_, A5, n5, c5, rfl, ho5⟩
        · exact absurd h50 hne
        have hE6 := below_tr hEr hB6
        rw [HQ.out.1] at ho5
        have hn5 := bytes_n (Reads.of_own ho5)
        have hnb := bytes_n HR.out
        have hn5n : n5 = n := by omega
        have HO5 := Sl.mk (Reads.of_own ho5)
        have HBB := Sl.mk (fun (W : World) (hW : Below w6.heap.size w6 W) => bsame_any A5 A n5 c5 n c b b W (by omega) (by omega) ((HO5.out.below hW).more hW.size) ((HR.out.below (below_tr hE6 hW)).more (below_tr hE6 hW).size))
        have HEB := Sl.mk (show eqB b b = true by unfold eqB; simp)
        clear HEN hR5 h50 ho5 hn5 hnb hn5n
        go_wp2_with fail
        refine (HK.out _ hE6).mono ?_
        rintro e w7 ⟨rfl, hB7⟩
        go_wp2_with fail
        refine (HBB.out _ hB7).mono ?_
        rintro e w8 ⟨rfl, k8, rfl⟩
        rw [HEB.out]
        go_wp2_with fail
        go_ret
        exact ⟨rfl, below_drN (below_tr hE6 hB7) k8⟩

end Go.Proofs.YticcphppnmoogaaGreatDoor

namespace Go.Proofs.YticcphppnmoogaaGreatDoor
open Go.ChangeShapes Go.WideShapes Go.ChangeAt Go.RowKit Go.ChangeMaps

set_option maxRecDepth 100000 in
theorem areads_any {H : Type} {enc : TypeId × Value → H} (W : World) (base : Nat) {v0 : Value} {d0 : DataW H} {p0 : List MemPlace}
    (h0 : DataW.Trod enc Tryz.prog W 0 (fun _ => true) true 22 v0 d0 p0)
    (o0 : Value.okWide Tryz.prog W .any base 22 v0) (hT : Tabs W) (hsh : W.ShapedOpen Tryz.prog) :
    Calls Tryz.prog 3 #[v0] W fun e w' => e = .returned (.bool true) ∧ Below W.heap.size W w' := by
  obtain ⟨A0, n0, c0, rfl⟩ := okWide_slice Tryz.underlying22 o0
  obtain ⟨fuel, hf⟩ := h0
  have hf : DataW.trod enc Tryz.prog W 0 (fun _ => true) true fuel 22 [.slice A0 n0 c0] = some (d0, p0) := hf
  obtain ⟨A, n, c, d, hv, hl, hc1, hc2, hR, hb⟩ := open_bytes hf
  rw [hv]
  exact reads_walk A n c d W ⟨hc1, hc2⟩ hb hR (mx_of hsh) hT

end Go.Proofs.YticcphppnmoogaaGreatDoor

namespace Go.Proofs.YticcphppnmoogaaGreatDoor.archiveReads
open Go.ChangeShapes Go.WideShapes Go.ChangeAt Go.RowKit
set_option linter.unusedVariables false
set_option maxRecDepth 100000

theorem own : ownKnob Tryz.prog.godebug = none := by kernel_rfl
theorem laidOut : laidOutB Tryz.prog = true := by kernel_rfl

theorem contract (H : Type) (enc : TypeId × Value → H) (W : World) (base : Nat) (args : Array Value) (ds gs : List (DataW H)) (before : List MemPlace)
    (hval0 : ∀ (j : Nat) t v, Tryz.f3.params[j]? = some t → args[j]? = some v → Value.okWide Tryz.prog W .any base t v)
    (hW : DataW.Whole enc Tryz.prog Tryz.f3.params.toList Rows.archiveReadsSpec.vars false W args.toList ds gs before) (hL : laidMetH Tryz.prog Rows.archiveReadsRow.laid W) (hsh : W.ShapedOpen Tryz.prog) :
    Calls Tryz.prog 3 args W fun e W' => ∃ v, e = .returned v ∧ Rows.archiveReadsSpec.post enc Tryz.prog Tryz.f3 false true false false W args v W' := by
  have hval : ∀ (j : Nat) t v, Tryz.f3.params[j]? = some t → args[j]? = some v → Value.okWide Tryz.prog W .any base t v := hval0
  have hW' := hW
  obtain ⟨p, q, hA0, hV, rfl, hfz, hnd⟩ := hW
  have hA : DataW.TrodAll enc Tryz.prog W 0 (fun _ => true) true Tryz.f3.params.toList args.toList ds p := hA0
  rw [Tryz.params3] at hA hval
  obtain ⟨v0, vs0, d0, ds0, p0, q0, hargs, rfl, rfl, h0, r0⟩ := trodAll_cons hA
  obtain ⟨rfl, rfl, rfl⟩ := trodAll_nil r0
  obtain rfl : args = #[v0] := by cases args; simp_all
  obtain ⟨rfl, rfl⟩ := trodVars_none hV
  have lt0 : ∀ x ∈ p0, x.block < W.heap.size := by obtain ⟨m, hm⟩ := h0; exact DataW.trod_lt m _ _ _ hm
  refine (areads_any W base h0 (hval 0 22 v0 rfl rfl) (tabs_of hL) hsh).mono fun e W' ⟨he, bel⟩ => ?_
  subst he
  exact ⟨_, rfl, _, _, _, [], _, [], hW', trodAll_mk1 (shut_bool Tryz.underlying4 _), (trodAll_cons_mk (Below.trod laidOut (by kernel_rfl) (of_decide_eq_true (by kernel_rfl)) h0 bel lt0) trodAll_mk0), rfl, bel.frame _, fun h => by cases h⟩

theorem laid_met (os : Os) : laidMet Tryz.prog Rows.archiveReadsRow.laid ((laidWorld os).forCall (fun _ _ => 0) ⟨#[], #[.slice none 0 0], []⟩).memory :=
  laidMet_of_run' 8 (by kernel_rfl) (by kernel_rfl)
theorem reads (os : Os) {H : Type} (enc : TypeId × Value → H) : ∃ places, DataW.whole enc Tryz.prog ((laidWorld os).forCall (fun _ _ => 0) ⟨#[], #[.slice none 0 0], []⟩).memory Tryz.f3.params.toList Rows.archiveReadsSpec.vars false (#[.slice none 0 0] : Array Value).toList 8 = some ([.nil], [], places) :=
  ⟨[], by kernel_rfl⟩

set_option maxRecDepth 100000 in
theorem lifted (os : Os) (started : os.Started) (H : Type) (enc : TypeId × Value → H) (F : Stop.Interp) :
    ReturnsInHanded {} Tryz.checked os 3 .any ((OpenSpec.ofChange Rows.archiveReadsSpec).preRow enc Tryz.prog Tryz.f3 Rows.archiveReadsRow.domain false Rows.archiveReadsRow.laid) (((OpenSpec.ofChange Rows.archiveReadsSpec).at F).post enc Tryz.prog Tryz.f3 false true false false) := by
  obtain ⟨places, hx⟩ := reads os enc
  refine returnsInHanded_of_row (C := Tryz.checked) (s := OpenSpec.ofChange Rows.archiveReadsSpec) own started (by kernel_rfl) Tryz.func3
    (witness_row_at (enc := enc) (C := Tryz.checked) false (laidWorld os) #[.slice none 0 0] rfl (by kernel_rfl) (by kernel_rfl) (by kernel_rfl)
      (OpenSpec.preRow_of_cond 8 hx (by kernel_rfl) (fun k hk => by cases hk) (by kernel_rfl) (laid_met os))) ?_
  intro W base args ds gs before hval hW _ _ _ hL hsh _
  exact contract H enc W base args ds gs before hval hW hL hsh

theorem said : Rows.ArchiveReadsSaid :=
  OpenClaim.holds_of_cond 3 Tryz.f3 rfl rfl rfl rfl rfl rfl rfl ⟨rfl, rfl, rfl, rfl, rfl⟩ rfl rfl rfl rfl rfl (by kernel_rfl) Tryz.func3 (by kernel_rfl)
    (of_decide_eq_true (by kernel_rfl)) (by unfold Func.isWrapper; first | (rw [if_pos (by decide +kernel)]; kernel_rfl) | (rw [if_neg (by decide +kernel)]; exact ⟨rfl, rfl⟩))
    (fun os started H enc _ F => by rw [OpenClaim.pre_eq_preRow]; exact lifted os started H enc F)

theorem plain (f : FuncId) (fn : Func) (hf : Tryz.pinned.checked.prog.funcNamed "creel/creellaw12.ArchiveReads" = some f) (hfn : Tryz.pinned.checked.prog.funcs[f]? = some fn) :
    false = Tryz.pinned.checked.prog.looks [] ∧ ∀ (j : Nat) t, fn.params[j]? = some t → Tryz.pinned.checked.prog.wantsStandIn t = false := by
  obtain rfl : f = 3 := Option.some.inj ((show Tryz.prog.funcNamed "creel/creellaw12.ArchiveReads" = some 3 by kernel_rfl).symm.trans hf) |>.symm
  obtain rfl : fn = Tryz.f3 := (Option.some.inj (Tryz.func3.symm.trans hfn)).symm
  refine ⟨by kernel_rfl, fun j t ht => ?_⟩
  rw [Tryz.params3] at ht
  have hm := Array.mem_of_getElem? ht
  simp only [List.mem_toArray, List.mem_cons, List.not_mem_nil, or_false] at hm
  rcases hm with rfl
  · exact (show Tryz.prog.wantsStandIn 22 = false by kernel_rfl)

theorem proved : Rows.ArchiveReadsCardSaid :=
  Claim7.holds_tied_plain_at .later [] _ _ _ _ said (fun _ h => by cases h) (by kernel_rfl) (fun _ h => by cases h) archiveReads_row_tie rfl ⟨rfl, rfl⟩ (by kernel_rfl) rfl plain (by kernel_rfl)
end Go.Proofs.YticcphppnmoogaaGreatDoor.archiveReads
