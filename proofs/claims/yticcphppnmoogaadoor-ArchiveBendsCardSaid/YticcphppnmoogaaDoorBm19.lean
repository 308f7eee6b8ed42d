/-
  The walk of the law ArchiveBends.
  Entries that come in.
  A start in which the rows' tables lie.
  ArchiveBends at any input that reads.
  The card of the law 'ArchiveBends': it returns true at every input, and each argument reads behind the call as it read before; the listed variables are tied to the program's text. Conditions: none.
-/
import Derived.Test.YticcphppnmoogaaDoorBm17
import Derived.Test.YticcphppnmoogaaDoorBm18
import Derived.Test.YticcphppnmoogaaDoorBm8
import Derived.ProofKit
import Derived.OpenShut
import Derived.SliceStrings
import Derived.Lib.SmallJoins
import Derived.Deep.Slices
import Derived.Shelf.Vars
import Derived.Test.YticcphppnmoogaaDoorCards
import Derived.Test.YticcphppnmoogaaDoorTie
import Derived.Deep.DeepHandedRow
import Derived.Stop.LaidErr
import Derived.Lib.LaidTab
import Derived.ShutString
import Derived.ChangeOld
import Derived.Below

namespace Go.Proofs.YticcphppnmoogaaDoor
open Go.RowKit
attribute [local go_sem ↓] Go.wp_at_zero Go.wp_at_succ

theorem encF_same {l m : List Ex} (h : l.map (·.e) = m.map (·.e)) : encF l = encF m := by
  rw [encF_map, encF_map, h, len_same h]
theorem encF_byte {l : List Ex} (hl : ∀ x ∈ l, ∀ b ∈ x.e.data, b < 256) : ∀ b ∈ encF l, b < 256 := by
  intro b hb
  rw [encF_map] at hb
  simp only [crel, List.mem_append, List.mem_cons, List.not_mem_nil, or_false, List.mem_flatMap, List.mem_map] at hb
  rcases hb with (rfl | rfl | rfl | rfl) | rfl | ⟨e, ⟨x, hx, rfl⟩, hb⟩
  · omega
  · omega
  · omega
  · omega
  · exact b8_lt _
  · simp only [ebF, headF, sizeF, List.flatten_cons, List.flatten_nil, List.append_nil, List.mem_append, List.mem_cons, List.not_mem_nil, or_false] at hb
    rcases hb with (rfl | rfl | rfl | rfl) | hb | (rfl | rfl) | hb | hb
    · exact b8_lt _
    · exact b8_lt _
    · exact b8_lt _
    · exact b8_lt _
    · simp only [bys, List.mem_map] at hb
      obtain ⟨c, _, rfl⟩ := hb
      exact c.toNat_lt
    · exact b8_lt _
    · exact b8_lt _
    · exact hl x hx b hb
    · exact sealF_byte _ b hb

theorem set_same {l : List Nat} {r z : Nat} (h : l[r]? = some z) : l.set r z = l := by
  refine List.ext_getElem? fun i => ?_
  rw [List.getElem?_set]
  split
  · rename_i e; subst e
    split
    · exact h.symm
    · rename_i hl; rw [List.getElem?_eq_none (by omega)] at h; cases h
  · rfl
theorem check_of {l : List Ex} {N : Nat} {E : Int} (h : CheckR l N E) (hl : l.length ≤ 40) (hz : ∀ j x, l[j]? = some x → refusedE x.e (l.take j) = 0) : E = 0 := by
  rcases h with ⟨h, _⟩ | ⟨_, _, _, h3⟩
  · omega
  · rcases h3 with ⟨_, h⟩ | ⟨x, hx, h, hne⟩
    · exact h
    · exact absurd (h.trans (hz N x hx)) hne
theorem xor_ne {z b : Nat} (h : b ≠ 0) : z ^^^ b ≠ z := fun e => h (by
  have : z ^^^ (z ^^^ b) = z ^^^ z := by rw [e]
  rw [← Nat.xor_assoc, Nat.xor_self, Nat.zero_xor] at this
  exact this)
theorem u64_range' (a : Int) : 0 ≤ IntKind.u64.wrap a ∧ IntKind.u64.wrap a < 18446744073709551616 := by simp [IntKind.wrap, IntKind.bits, IntKind.signed]; omega
theorem idx_of' (k : Int) (N : Nat) (h0 : 0 < N) (h1 : N ≤ 1000000000) : ∃ r : Nat, r < N ∧ wrap64 ((IntKind.u64.wrap k).tmod (N : Int)) = (r : Int) := by
  obtain ⟨a0, a1⟩ := u64_range' k
  obtain ⟨u, hu⟩ := Int.eq_ofNat_of_zero_le a0
  rw [hu]
  refine ⟨u % N, Nat.mod_lt _ h0, ?_⟩
  have e : ((u : Int).tmod (N : Int)) = ((u % N : Nat) : Int) := by rw [Int.tmod_eq_emod_of_nonneg (by omega)]; rfl
  have hlt := Nat.mod_lt u h0
  rw [e]
  unfold wrap64
  omega
theorem xor8 {a b : Nat} (ha : a < 256) (hb : b < 256) : bits .xor .u8 (a : Int) (b : Int) = ((a ^^^ b : Nat) : Int) := by
  show IntKind.u8.wrap ((BitVec.ofInt 8 (a : Int) ^^^ BitVec.ofInt 8 (b : Int)).toNat : Int) = _
  have e : ∀ c : Nat, c < 256 → (BitVec.ofInt 8 (c : Int)).toNat = c := fun c h => by rw [BitVec.ofInt_natCast, BitVec.toNat_ofNat, Nat.mod_eq_of_lt (by omega)]
  rw [BitVec.toNat_xor, e a ha, e b hb]
  have h : a ^^^ b < 256 := Nat.xor_lt_two_pow (n := 8) ha hb
  rw [IntKind.wrap_u8]; omega

set_option maxRecDepth 100000 in
set_option maxHeartbeats 16000000 in
theorem bends_walk (A : Option Addr) (n c : Nat) (l0 : List Ex) (at_ by_ : Int) (w : World) (hn : n ≤ 9223372036854775807) (hI : Ins w A n l0) (hby : 0 ≤ by_ ∧ by_ < 256) (hM : Mx w) (hT : Tabs w) :
    Calls Tryd.prog 5 #[.slice A n c, .int .i64 at_, .int .u8 by_] w fun e w' => e = .returned (.bool true) ∧ Below w.heap.size w w' := by
  have HT1 := Sl.mk (to_any A n c l0 w hn hI)
  have HM := Sl.mk hM
  have HTb := Sl.mk hT
  clear hI hM hT
  unfold ToPost at HT1
  go_enter Tryd.func5, Tryd.ntmps5
  go_wp2_with fail
  refine HT1.out.mono ?_
  rintro e w1 ⟨A1, A2, n1, c1, c2, L, M, rfl, hn1, hT1, hB1⟩
  have HX := Sl.mk hT1.exs2.1
  have hc1 := ownCapS hT1.o4
  have HEN := Sl.mk (aencode_any A1 n1 c1 L w1 (by omega) hc1 HX.out (HM.out.be hB1) (HTb.out.below hB1 HTb.out.1))
  unfold EncPost at HEN
  clear hT1 HT1
  go_wp2_with fail
  refine HEN.out.mono ?_
  rintro e w2 ⟨N, E, hR, hB2, hpost⟩
  have hE2 := below_tr hB1 hB2
  have HK := Sl.mk (fun (W : World) (hW : Below w.heap.size w W) => aknown_any W (HM.out.be hW))
  rcases hpost with ⟨hE0, rfl⟩ | ⟨rfl, A3, n3, c3, rfl, ho3⟩
  · have hne : (E != 0) = true := by simpa using hE0
    clear HEN hR hE0
    go_wp2_with fail
    refine (HK.out _ hE2).mono ?_
    rintro e w3 ⟨rfl, hB3⟩
    go_wp2_with fail
    go_ret
    exact ⟨rfl, below_tr hE2 hB3⟩
  · have HR := Sl.mk (check_len hR)
    have hK5 : 5 ≤ (encF L).length := by rw [encF_map]; simp [crel]
    have hK := bytes_n (Reads.of_own ho3)
    rw [hK] at hK5
    have hKb : n3 ≤ 12100000 := by
      have h1 := ebs_len (l := L) (fun y hy => HX.out.ok y hy)
      have h2 := HR.out.1
      have h3 : L.length * 300100 ≤ 40 * 300100 := Nat.mul_le_mul h2 (Nat.le_refl _)
      rw [← hK]
      unfold encF
      rw [List.length_append]
      simp only [List.length_cons, List.length_nil]
      omega
    obtain ⟨g, cap, hv, hgb, hlt⟩ := ho3.form (by omega)
    injection hv with hv1 hv2 hv3
    subst hv1
    obtain ⟨r, hr, hrk⟩ := idx_of' at_ n3 (by omega) (by omega)
    obtain ⟨z, hz⟩ : ∃ z, (encF L)[r]? = some z := ⟨_, List.getElem?_eq_getElem (by omega)⟩
    obtain ⟨b', rfl⟩ : ∃ b' : Nat, by_ = b' := ⟨by_.toNat, by omega⟩
    have hz256 : z < 256 := encF_byte (fun x hx => (HX.out.ok x hx).byte) z (List.mem_of_getElem? hz)
    have hxor := xor8 (a := z) (b := b') hz256 (by omega)
    have hcell : w2.cell? ⟨g, r, none⟩ = some (.int .u8 (z : Nat)) := by
      have := (Reads.of_own ho3).2 (by omega)
      obtain ⟨ad, e, _, hc⟩ := this
      injection e with e
      subst e
      have h := hc r _ (show (u8s (encF L))[r]? = some (.int .u8 (z : Nat)) by simp [u8s, hz])
      rw [add_zero'] at h
      exact h
    have hfr : w2.frozen? ⟨g, r, none⟩ = false := by
      rcases ho3.2 with ⟨h, _⟩ | ⟨g', cap', cur, h, _, hh, _⟩
      · cases h
      · injection h with h
        injection h with h
        injection h with h
        subst h
        exact frozen_of_row w2 g r cur _ hh
    have hst := ho3.stored r (.int .u8 ((z ^^^ b' : Nat) : Int))
    have hset : (u8s (encF L)).set r (.int .u8 ((z ^^^ b' : Nat) : Int)) = u8s ((encF L).set r (z ^^^ b')) := by simp [u8s, List.map_set]
    rw [hset] at hst
    have hB13 : Below w1.heap.size w1 (w2.setCell ⟨g, r, none⟩ (.int .u8 ((z ^^^ b' : Nat) : Int))) := hB2.grown hst.2 hB2.size (fun k hk => by injection hk with hk; omega)
    obtain ⟨D, hD⟩ : ∃ D, (encF L).set r (z ^^^ b') = D := ⟨_, rfl⟩
    rw [hD] at hst
    have hDb : ∀ x ∈ D, x < 256 := fun x hx => by
      rw [← hD] at hx
      rcases List.mem_or_eq_of_mem_set hx with h | h
      · exact encF_byte (fun x hx => (HX.out.ok x hx).byte) x h
      · rw [h]; exact Nat.xor_lt_two_pow (n := 8) hz256 (by omega)
    have HDB := Sl.mk hDb
    have HDD := Sl.mk (And.intro hD hz)
    have HOW := Sl.mk hst.1
    have hcap : n3 ≤ cap ∧ cap ≤ 9223372036854775807 := by rw [← hv3]; exact ownCapS hst.1
    have HB13 := Sl.mk hB13
    clear HEN hR hset hst hD hz hB13 hDb hgb hlt
    go_wp2_with fail
    obtain ⟨w3, hw3⟩ : ∃ w3, w2.setCell ⟨g, r, none⟩ (.int .u8 ((z ^^^ b' : Nat) : Int)) = w3 := ⟨_, rfl⟩
    rw [hw3] at HOW HB13 ⊢
    have hE3 := below_tr hB1 HB13.out
    have HX3 := Sl.mk (HX.out.be HB13.out)
    have HDE := Sl.mk (decode_any (some ⟨g, 0, none⟩) n3 cap D w3 (by omega) hcap HDB.out (Reads.of_own HOW.out) (HM.out.be hE3) (HTb.out.below hE3 HTb.out.1))
    unfold DecPost at HDE
    clear hw3 hcell hfr hB2 hE2 ho3 hxor hrk
    refine HDE.out.mono ?_
    rintro e w4 ⟨hB4, hpost⟩
    have hE4 := below_tr hE3 hB4
    have HX4 := Sl.mk (HX3.out.be hB4)
    have HOW4 := Sl.mk (own_below HOW.out hB4)
    clear HDE HX3 HX HB13 HOW
    rcases hpost with ⟨hno, N4, E4, hE40, rfl⟩ | ⟨Ay, my, cy, Y, N4, rfl, hsome, hY, hm40, hmc⟩
    · by_cases hb0 : b' = 0
      · exfalso
        obtain ⟨hD, hz⟩ := HDD.out
        rw [hb0, Nat.xor_zero, set_same hz] at hD
        rw [← hD, decode_enc HR.out.1 HR.out.2.2] at hno
        cases hno
      · have hb : ((b' : Int) == 0) = false := by simp; omega
        have hne4 : (E4 != 0) = true := by simpa using hE40
        clear hno hE40
        go_wp2_with fail
        refine (HK.out _ hE4).mono ?_
        rintro e w5 ⟨rfl, hB5⟩
        go_wp2_with fail
        go_ret
        exact ⟨rfl, below_tr hE4 hB5⟩
    · have HY := Sl.mk hY
      have HSO := Sl.mk hsome
      by_cases hb0 : b' = 0
      · have heq : eqL L Y = true := by
          obtain ⟨hD, hz⟩ := HDD.out
          rw [hb0, Nat.xor_zero, set_same hz] at hD
          have h := HSO.out
          rw [← hD, decode_enc HR.out.1 HR.out.2.2] at h
          injection h with h
          exact (eqL_iff L Y).2 h
        have hb : ((b' : Int) == 0) = true := by simp [hb0]
        have HS := Sl.mk (fun (W : World) (hW : Below w4.heap.size w4 W) => asame_any A1 Ay n1 c1 my cy L Y W (by omega) (by omega) (HX4.out.be hW) (HY.out.be hW))
        have HEQ := Sl.mk heq
        clear heq hY hsome hb0
        go_wp2_with fail
        refine (HK.out _ hE4).mono ?_
        rintro e w5 ⟨rfl, hB5⟩
        go_wp2_with fail
        refine (HS.out _ hB5).mono ?_
        rintro e w6 ⟨rfl, hB6⟩
        rw [HEQ.out]
        go_wp2_with fail
        go_ret
        exact ⟨rfl, below_tr (below_tr hE4 hB5) hB6⟩
      · have hb : ((b' : Int) == 0) = false := by simp; omega
        obtain ⟨q1, q2, q3⟩ := decode_back HDB.out HSO.out
        have heq : eqL L Y = false := by
          cases h : eqL L Y with
          | false => rfl
          | true =>
            obtain ⟨hD, hz⟩ := HDD.out
            have h1 := encF_same ((eqL_iff L Y).1 h)
            rw [q1, ← hD] at h1
            have h2 : (encF L)[r]? = some (z ^^^ b') := by
              rw [h1, List.getElem?_set_self (by have := (List.getElem?_eq_some_iff.1 hz).1; exact this)]
            rw [hz] at h2
            injection h2 with h2
            exact absurd h2.symm (xor_ne hb0)
        have HE2 := Sl.mk (aencode_any Ay my cy Y w4 (by omega) hmc HY.out (HM.out.be hE4) (HTb.out.below hE4 HTb.out.1))
        unfold EncPost at HE2
        have HQ := Sl.mk (And.intro q1 (And.intro q2 q3))
        have HEQ := Sl.mk heq
        clear heq hY hsome hb0 q1 q2 q3
        go_wp2_with fail
        refine HE2.out.mono ?_
        rintro e w5 ⟨N5, E5, hR5, hB5, hp5⟩
        have h50 := check_of hR5 HQ.out.2.1 HQ.out.2.2
        rcases hp5 with ⟨hne, _⟩ | ⟨_, A5, n5, c5, rfl, ho5⟩
        · exact absurd h50 hne
        have hE5 := below_tr hE4 hB5
        rw [HQ.out.1] at ho5
        have hn5 := bytes_n (Reads.of_own ho5)
        have hn3 := bytes_n (Reads.of_own HOW4.out)
        have hn53 : n5 = n3 := by omega
        have HO5 := Sl.mk (Reads.of_own ho5)
        have HB3 := Sl.mk (((Reads.of_own HOW4.out).below hB5).more hB5.size)
        have HS := Sl.mk (fun (W : World) (hW : Below w5.heap.size w5 W) => asame_any A1 Ay n1 c1 my cy L Y W (by omega) (by omega) ((HX4.out.be hB5).be hW) ((HY.out.be hB5).be hW))
        have HBS := Sl.mk (fun (W : World) (hW : Below w5.heap.size w5 W) => bsame_any A5 (some ⟨g, 0, none⟩) n5 c5 n3 cap D D W (by omega) (by omega) ((HO5.out.below hW).more hW.size) ((HB3.out.below hW).more hW.size))
        have HDDD := Sl.mk (show eqB D D = true by unfold eqB; simp)
        clear HE2 hR5 h50 ho5 hn5 hn3 hn53 hB5
        go_wp2_with fail
        refine (HK.out _ hE5).mono ?_
        rintro e w6 ⟨rfl, hB6⟩
        go_wp2_with fail
        refine (HS.out _ hB6).mono ?_
        rintro e w7 ⟨rfl, hB7⟩
        rw [HEQ.out]
        have hE7 := below_tr hB6 hB7
        go_wp2_with fail
        refine (HBS.out _ hE7).mono ?_
        rintro e w8 ⟨rfl, k8, rfl⟩
        rw [HDDD.out]
        go_wp2_with fail
        go_ret
        exact ⟨rfl, below_drN (below_tr hE5 hE7) k8⟩

end Go.Proofs.YticcphppnmoogaaDoor

namespace Go.Proofs.YticcphppnmoogaaDoor
open Go.ChangeShapes Go.WideShapes Go.ChangeAt Go.RowKit Go.ChangeMaps Go.Deep Go.Joins

theorem wf8 {n : Int} (h : (Lit.int .u8 n).wf = true) : 0 ≤ n ∧ n < 256 := by
  have h1 : decide (IntKind.u8.min ≤ n) && decide (n ≤ IntKind.u8.max) := h
  simp only [Bool.and_eq_true, decide_eq_true_eq] at h1
  have e1 : IntKind.u8.min = 0 := by decide
  have e2 : IntKind.u8.max = 255 := by decide
  omega

/-- A slice of strings that comes in. -/
theorem open_strs {H : Type} {enc : TypeId × Value → H} {W : World} {fuel : Nat} {v : Value} {x : DataW H × List MemPlace} (h : DataW.trod enc Tryd.prog W 0 (fun _ => true) true fuel 31 [v] = some x) :
    ∃ (A : Option Addr) (n c : Nat) (p : List ByteArray), v = .slice A n c ∧ p.length = n ∧ n ≤ c ∧ c ≤ 9223372036854775807 ∧ Reads W W.heap.size 1 A n (strV p) ∧ ∀ s ∈ p, s.size ≤ 9223372036854775807 := by
  rcases open_strings Tryd.underlying31 Tryd.underlying9 (by kernel_rfl) h with ⟨hcs, -⟩ | ⟨a, len, cap, ss, hcs, -, hl, hm, hz, -, hcell, hsz⟩
  · injection hcs with hcs
    subst hcs
    exact ⟨none, 0, 0, [], rfl, rfl, Nat.le_refl _, by omega, Reads.none_, fun s hs => by cases hs⟩
  · injection hcs with hcs
    subst hcs
    simp only [if_true] at hz
    unfold maxLen at hm hsz
    have hlen : (ss.take len).length = len := by rw [List.length_take]; omega
    refine ⟨some a, len, cap, ss.take len, rfl, hlen, hl, hm, ⟨by rw [strV_len, hlen, Nat.mul_one], fun hn => ⟨a, rfl, ?_, fun j u hu => ?_⟩⟩, fun s hs => hsz s (List.mem_of_mem_take hs)⟩
    · have h0 := cell_lt' (hcell 0 (by omega))
      rw [block_of_add] at h0
      exact h0
    · have hj : j < (strV (ss.take len)).length := (List.getElem?_eq_some_iff.1 hu).1
      rw [strV_len, hlen] at hj
      rw [hcell j (by omega), ← hu]
      simp [strV, hj, show j < ss.length by omega]

/-- A slice of bytes that comes in. -/
theorem open_bytes {H : Type} {enc : TypeId × Value → H} {W : World} {fuel : Nat} {v : Value} {x : DataW H × List MemPlace} (h : DataW.trod enc Tryd.prog W 0 (fun _ => true) true fuel 32 [v] = some x) :
    ∃ (A : Option Addr) (n c : Nat) (d : List Nat), v = .slice A n c ∧ d.length = n ∧ n ≤ c ∧ c ≤ 9223372036854775807 ∧ Reads W W.heap.size 1 A n (u8s d) ∧ ∀ b ∈ d, b < 256 := by
  rcases open_ints Tryd.underlying32 Tryd.underlying5 (by kernel_rfl) h with ⟨hcs, -⟩ | ⟨a, len, cap, zs, hcs, -, hl, hm, hz, -, hcell, hwz⟩
  · injection hcs with hcs
    subst hcs
    exact ⟨none, 0, 0, [], rfl, rfl, Nat.le_refl _, by omega, Reads.none_, fun s hs => by cases hs⟩
  · injection hcs with hcs
    subst hcs
    simp only [if_true] at hz
    unfold maxLen at hm
    have hlen : ((zs.take len).map Int.toNat).length = len := by rw [List.length_map, List.length_take]; omega
    refine ⟨some a, len, cap, (zs.take len).map Int.toNat, rfl, hlen, hl, hm, ⟨by rw [u8s_len, hlen, Nat.mul_one], fun hn => ⟨a, rfl, ?_, fun j u hu => ?_⟩⟩, fun b hb => ?_⟩
    · have h0 := cell_lt' (hcell 0 (by omega))
      rw [block_of_add] at h0
      exact h0
    · have hj : j < (u8s ((zs.take len).map Int.toNat)).length := (List.getElem?_eq_some_iff.1 hu).1
      rw [u8s_len, hlen] at hj
      have hjz : j < zs.length := by omega
      have hw := wf8 (hwz _ (List.getElem_mem hjz))
      rw [hcell j hjz, ← hu]
      simp [u8s, hj, hjz]
      omega
    · obtain ⟨z, hz2, rfl⟩ := List.mem_map.1 hb
      have := wf8 (hwz z (List.mem_of_mem_take hz2))
      omega

theorem four_list : ∀ {cs : List Value}, cs.length = 4 → ∃ v0 v1 v2 v3, cs = [v0, v1, v2, v3]
  | [a, b, c, d], _ => ⟨a, b, c, d, rfl⟩

/-- An entry's cells, as they read. -/
theorem en_cells {H : Type} {enc : TypeId × Value → H} {W : World} {fuel : Nat} {cs : List Value} {x : DataW H × List MemPlace} (h : DataW.trod enc Tryd.prog W 0 (fun _ => true) true fuel 44 cs = some x) : ∃ r : Ex, cs = exC r ∧ InOk W W.heap.size r := by
  have hc1 : Tryd.prog.cellsOf 3 = 1 := by kernel_rfl
  have hcP : Tryd.prog.cellsOf 31 = 1 := by kernel_rfl
  have hcD : Tryd.prog.cellsOf 32 = 1 := by kernel_rfl
  have hcE : Tryd.prog.cellsOf 44 = 4 := by kernel_rfl
  obtain ⟨xs, n, -, -, hl, hx, hf⟩ := DataW.trod_struct Tryd.underlying44 h
  rw [hcE] at hl
  have hx4 : xs.length = 4 := hx
  have g : ∀ i, i < 4 → ∃ y, xs[i]? = some y := fun i hi => ⟨_, List.getElem?_eq_getElem (by omega)⟩
  obtain ⟨y0, e0⟩ := g 0 (by omega)
  obtain ⟨y1, e1⟩ := g 1 (by omega)
  obtain ⟨y2, e2⟩ := g 2 (by omega)
  obtain ⟨y3, e3⟩ := g 3 (by omega)
  have f0 := hf 0 _ rfl
  have f1 := hf 1 _ rfl
  have f2 := hf 2 _ rfl
  have f3 := hf 3 _ rfl
  rw [e0] at f0
  rw [e1] at f1
  rw [e2] at f2
  rw [e3] at f3
  obtain ⟨v0, v1, v2, v3, rfl⟩ := four_list hl
  have f0' : DataW.trod enc Tryd.prog W 0 (fun _ => true) true n 31 (([v0, v1, v2, v3].drop 0).take (Tryd.prog.cellsOf 31)) = some y0 := f0
  have f1' : DataW.trod enc Tryd.prog W 0 (fun _ => true) true n 3 (([v0, v1, v2, v3].drop 1).take (Tryd.prog.cellsOf 3)) = some y1 := f1
  have f2' : DataW.trod enc Tryd.prog W 0 (fun _ => true) true n 3 (([v0, v1, v2, v3].drop 2).take (Tryd.prog.cellsOf 3)) = some y2 := f2
  have f3' : DataW.trod enc Tryd.prog W 0 (fun _ => true) true n 32 (([v0, v1, v2, v3].drop 3).take (Tryd.prog.cellsOf 32)) = some y3 := f3
  rw [hcP] at f0'
  rw [hc1] at f1' f2'
  rw [hcD] at f3'
  obtain ⟨A, n1, c1, p, hv0, hp, hpc, hpc2, hR, hs⟩ := open_strs f0'
  obtain ⟨k, hk, -, -⟩ := DataW.trod_int Tryd.underlying3 f1'
  obtain ⟨m, hm, -, -⟩ := DataW.trod_int Tryd.underlying3 f2'
  obtain ⟨D, n2, c2, d, hv3, hd, hdc, hdc2, hRd, hb⟩ := open_bytes f3'
  injection hk with hk
  injection hm with hm
  subst hv0 hv3 hk hm
  refine ⟨⟨⟨p, k, m, d⟩, A, c1, D, c2⟩, by unfold exC; simp only; rw [hp, hd], ?_⟩
  subst hp hd
  exact ⟨hR, hRd, ⟨hpc, hpc2⟩, ⟨hdc, hdc2⟩, hs, hb⟩

theorem list_of {α : Type} {P : Nat → α → Prop} : ∀ (n : Nat), (∀ i, i < n → ∃ r, P i r) → ∃ l : List α, l.length = n ∧ ∀ i r, l[i]? = some r → P i r
  | 0, _ => ⟨[], rfl, fun i r h => by simp at h⟩
  | n + 1, h => by
    obtain ⟨l, h1, h2⟩ := list_of n (fun i hi => h i (by omega))
    obtain ⟨r, hr⟩ := h n (by omega)
    refine ⟨l ++ [r], by simp [h1], fun i r' hi => ?_⟩
    rcases Nat.lt_or_ge i l.length with hlt | hge
    · rw [List.getElem?_append_left hlt] at hi
      exact h2 i r' hi
    · rw [List.getElem?_append_right hge] at hi
      have hi0 : i - l.length = 0 := by
        rcases Nat.eq_zero_or_pos (i - l.length) with e | e
        · exact e
        · rw [List.getElem?_eq_none (by simp; omega)] at hi; cases hi
      rw [hi0] at hi
      simp at hi
      subst hi
      have : i = n := by omega
      subst this
      exact hr

theorem exs_split : ∀ (l : List Ex) (j : Nat) (v : Value), (exsC l)[j]? = some v → ∃ i k r, j = i * 4 + k ∧ l[i]? = some r ∧ (exC r)[k]? = some v
  | [], j, v, h => by simp [exsC] at h
  | x :: l, j, v, h => by
    simp only [exsC, List.flatMap_cons] at h
    rcases Nat.lt_or_ge j (exC x).length with hlt | hge
    · rw [List.getElem?_append_left hlt] at h
      exact ⟨0, j, x, by simp, by simp, h⟩
    · rw [List.getElem?_append_right hge] at h
      obtain ⟨i, k, r, h1, h2, h3⟩ := exs_split l _ v h
      rw [exC_len] at h1 hge
      exact ⟨i + 1, k, r, by omega, by simpa using h2, h3⟩

set_option maxRecDepth 100000 in
theorem open_ents {H : Type} {enc : TypeId × Value → H} {W : World} {v : Value} {d : DataW H} {p : List MemPlace} (h0 : DataW.Trod enc Tryd.prog W 0 (fun _ => true) true 22 v d p) {base : Nat} (o : Value.okWide Tryd.prog W .any base 22 v) :
    ∃ (A : Option Addr) (n c : Nat) (l : List Ex), v = .slice A n c ∧ n ≤ c ∧ c ≤ 9223372036854775807 ∧ Ins W A n l := by
  have hcE : Tryd.prog.cellsOf 44 = 4 := by kernel_rfl
  obtain ⟨A0, n0, c0, rfl⟩ := okWide_slice Tryd.underlying22 o
  obtain ⟨fuel, h⟩ := h0
  rcases open_slice Tryd.underlying22 h with ⟨hcs, -⟩ | ⟨a, len, cap, m, n, D, Pl, hcs, -, hl, hm, hmm, -, hi⟩
  · simp [Value.cells] at hcs
    obtain ⟨rfl, rfl, rfl⟩ := hcs
    exact ⟨none, 0, 0, [], rfl, Nat.le_refl _, by omega, ⟨Reads.none_, fun x hx => by cases hx⟩⟩
  · simp [Value.cells] at hcs
    obtain ⟨rfl, rfl, rfl⟩ := hcs
    rw [if_pos rfl] at hmm
    rw [hcE] at hi
    unfold maxLen at hm
    obtain ⟨l, h1, h2⟩ := list_of (P := fun i (x : Ex) => W.cells? 0 (a.add (i * 4)) 4 = some (exC x) ∧ InOk W W.heap.size x) n0 (fun i hil => by
      obtain ⟨cs', hc, ht⟩ := hi i (by omega)
      obtain ⟨r, rfl, hr⟩ := en_cells ht
      exact ⟨r, hc, hr⟩)
    refine ⟨some a, n0, c0, l, rfl, hl, hm, ⟨⟨by rw [exsC_len, h1], fun hn => ⟨a, rfl, ?_, fun j u hu => ?_⟩⟩, fun x hx => ?_⟩⟩
    · obtain ⟨r, hr⟩ : ∃ r, l[0]? = some r := ⟨_, List.getElem?_eq_getElem (by omega)⟩
      obtain ⟨_, hcl, hat⟩ := World.cells?_some (h2 0 r hr).1
      have h3 := hat 0 (by omega)
      have h4 := cell_lt' (h3.trans (show (exC r)[0]? = some _ from rfl))
      rw [block_of_add, block_of_add] at h4
      exact h4
    · obtain ⟨i, k, r, rfl, hr, hk⟩ := exs_split l j u hu
      obtain ⟨_, hcl, hat⟩ := World.cells?_some (h2 i r hr).1
      have hk4 : k < 4 := by have := (List.getElem?_eq_some_iff.1 hk).1; rw [exC_len] at this; exact this
      have h3 := hat k hk4
      rw [add_of_add] at h3
      rw [h3, hk]
    · obtain ⟨i, hx2⟩ := List.mem_iff_getElem?.1 hx
      exact (h2 i x hx2).2

set_option maxRecDepth 100000 in
/-- The library's variable holds some number, by the world's shape. -/
theorem mx_of {W : World} (hsh : W.ShapedOpen Tryd.prog) : Mx W :=
  cell_of_shapedOpen_int (P := Tryd.prog) (g := 2) (t := 3) (zero := #[.int .i64 0]) hsh (of_decide_eq_true (by kernel_rfl)) (by kernel_rfl) rfl (by kernel_rfl) (by kernel_rfl) Tryd.underlying3

end Go.Proofs.YticcphppnmoogaaDoor

namespace Go.Proofs.YticcphppnmoogaaDoor
open Go.RowKit

def litC : DataW Unit → List Value
  | .lit (.int k n) => [.int k n]
  | _ => []
def rowC : DataW Unit → List Value
  | .agg l => l.flatMap litC
  | _ => []
def rowsC : DataW Unit → List Value
  | .agg l => l.flatMap rowC
  | _ => []
def layCells (cs : Array Value) : Obj → Obj
  | .cells _ t frozen => .cells cs t frozen
  | o => o
/-- The settled world, the four tables as their initialisers lay them. -/
noncomputable def laidWorld (os : Os) : World :=
  { World.holding Tryd.prog os ⟨#[], #[], []⟩ with heap := ((((World.holding Tryd.prog os ⟨#[], #[], []⟩).heap.modify 0 (layCells (rowC Rows.laid_creel_digest_first).toArray)).modify 1 (layCells (rowC Rows.laid_creel_digest_round).toArray)).modify 3 (layCells (rowC Rows.laid_unicode_utf8_first).toArray)).modify 4 (layCells (rowsC Rows.laid_unicode_utf8_acceptRanges).toArray) }

end Go.Proofs.YticcphppnmoogaaDoor

namespace Go.Proofs.YticcphppnmoogaaDoor
open Go.ChangeShapes Go.WideShapes Go.ChangeAt Go.RowKit Go.ChangeMaps

theorem gR : Tryd.prog.globalNamed "creel/digest.round" = some 1 := by kernel_rfl
theorem gRT : (Tryd.prog.globals[1]?).map (·.type) = some 110 := by kernel_rfl
theorem gF : Tryd.prog.globalNamed "creel/digest.first" = some 0 := by kernel_rfl
theorem gFT : (Tryd.prog.globals[0]?).map (·.type) = some 66 := by kernel_rfl
theorem tabs_of {rest : List (String × DataW Unit)} {W : World} (h : laidMet Tryd.prog (("creel/digest.round", Rows.laid_creel_digest_round) :: ("creel/digest.first", Rows.laid_creel_digest_first) :: rest) W) : Tabs W := by
  have h1 : Lib.TabIs Tryd.prog W "creel/digest.round" .u32 (KT.map fun n : Nat => (n : Int)) :=
    Lib.tabIs_of_head (rest := ("creel/digest.first", Rows.laid_creel_digest_first) :: rest) gR gRT Tryd.underlying110 Tryd.underlying64 (by kernel_rfl) (by kernel_rfl) h
  have h2 : Lib.TabIs Tryd.prog W "creel/digest.first" .u32 (FT.map fun n : Nat => (n : Int)) :=
    Lib.tabIs_of_head (rest := rest) gF gFT Tryd.underlying66 Tryd.underlying64 (by kernel_rfl) (by kernel_rfl) (laidMet.tail h)
  have c1 : ∀ i, i < 64 → W.cell? ⟨1, i, none⟩ = some (.int .u32 ((KT.getD i 0 : Nat) : Int)) := fun i hi => by
    rw [h1.cell gR i (by simpa [KT] using hi)]
    have : i < KT.length := by simpa [KT] using hi
    simp [this]
  have c2 : ∀ i, i < 8 → W.cell? ⟨0, i, none⟩ = some (.int .u32 ((FT.getD i 0 : Nat) : Int)) := fun i hi => by
    rw [h2.cell gF i (by simpa [FT] using hi)]
    have : i < FT.length := by simpa [FT] using hi
    simp [this]
  exact ⟨cell_lt' (c1 0 (by decide)), c1, c2⟩

set_option maxRecDepth 100000 in
theorem bends_any {H : Type} {enc : TypeId × Value → H} (W : World) (base : Nat) {v0 v1 v2 : Value} {d0 d1 d2 : DataW H} {p0 p1 p2 : List MemPlace}
    (h0 : DataW.Trod enc Tryd.prog W 0 (fun _ => true) true 22 v0 d0 p0) (h1 : DataW.Trod enc Tryd.prog W 0 (fun _ => true) true 3 v1 d1 p1) (h2 : DataW.Trod enc Tryd.prog W 0 (fun _ => true) true 5 v2 d2 p2)
    (o0 : Value.okWide Tryd.prog W .any base 22 v0) (o1 : Value.okWide Tryd.prog W .any base 3 v1) (o2 : Value.okWide Tryd.prog W .any base 5 v2) (hT : Tabs W) (hsh : W.ShapedOpen Tryd.prog) :
    Calls Tryd.prog 5 #[v0, v1, v2] W fun e w' => e = .returned (.bool true) ∧ Below W.heap.size W w' := by
  obtain ⟨A, n, c, l, rfl, hn, hc, hI⟩ := open_ents h0 o0
  obtain ⟨k, rfl, -⟩ := open_int Tryd.underlying3 o1 h1
  obtain ⟨z, rfl, -, -, hz⟩ := open_int Tryd.underlying5 o2 h2
  have hz8 := wf8 hz
  exact bends_walk A n c l k z W (by omega) hI hz8 (mx_of hsh) hT

end Go.Proofs.YticcphppnmoogaaDoor

namespace Go.Proofs.YticcphppnmoogaaDoor.archiveBends
open Go.ChangeShapes Go.WideShapes Go.ChangeAt Go.RowKit
set_option linter.unusedVariables false
set_option maxRecDepth 100000

theorem own : ownKnob Tryd.prog.godebug = none := by kernel_rfl
theorem laidOut : laidOutB Tryd.prog = true := by kernel_rfl

theorem contract (H : Type) (enc : TypeId × Value → H) (W : World) (base : Nat) (args : Array Value) (ds gs : List (DataW H)) (before : List MemPlace)
    (hval0 : ∀ (j : Nat) t v, Tryd.f5.params[j]? = some t → args[j]? = some v → Value.okWide Tryd.prog W .any base t v)
    (hW : DataW.Whole enc Tryd.prog Tryd.f5.params.toList Rows.archiveBendsSpec.vars false W args.toList ds gs before) (hL : laidMetH Tryd.prog Rows.archiveBendsRow.laid W) (hsh : W.ShapedOpen Tryd.prog) :
    Calls Tryd.prog 5 args W fun e W' => ∃ v, e = .returned v ∧ Rows.archiveBendsSpec.post enc Tryd.prog Tryd.f5 false true false false W args v W' := by
  have hval : ∀ (j : Nat) t v, Tryd.f5.params[j]? = some t → args[j]? = some v → Value.okWide Tryd.prog W .any base t v := hval0
  have hW' := hW
  obtain ⟨p, q, hA0, hV, rfl, hfz, hnd⟩ := hW
  have hA : DataW.TrodAll enc Tryd.prog W 0 (fun _ => true) true Tryd.f5.params.toList args.toList ds p := hA0
  rw [Tryd.params5] at hA hval
  obtain ⟨v0, vs0, d0, ds0, p0, q0, hargs, rfl, rfl, h0, r0⟩ := trodAll_cons hA
  obtain ⟨v1, vs1, d1, ds1, p1, q1, rfl, rfl, rfl, h1, r1⟩ := trodAll_cons r0
  obtain ⟨v2, vs2, d2, ds2, p2, q2, rfl, rfl, rfl, h2, r2⟩ := trodAll_cons r1
  obtain ⟨rfl, rfl, rfl⟩ := trodAll_nil r2
  obtain rfl : args = #[v0, v1, v2] := by cases args; simp_all
  obtain ⟨rfl, rfl⟩ := trodVars_none hV
  have lt0 : ∀ x ∈ p0, x.block < W.heap.size := by obtain ⟨m, hm⟩ := h0; exact DataW.trod_lt m _ _ _ hm
  have lt1 : ∀ x ∈ p1, x.block < W.heap.size := by obtain ⟨m, hm⟩ := h1; exact DataW.trod_lt m _ _ _ hm
  have lt2 : ∀ x ∈ p2, x.block < W.heap.size := by obtain ⟨m, hm⟩ := h2; exact DataW.trod_lt m _ _ _ hm
  refine (bends_any W base h0 h1 h2 (hval 0 22 v0 rfl rfl) (hval 1 3 v1 rfl rfl) (hval 2 5 v2 rfl rfl) (tabs_of hL) hsh).mono fun e W' ⟨he, bel⟩ => ?_
  subst he
  exact ⟨_, rfl, _, _, _, [], _, [], hW', trodAll_mk1 (shut_bool Tryd.underlying4 _), (trodAll_cons_mk (Below.trod laidOut (by kernel_rfl) (of_decide_eq_true (by kernel_rfl)) h0 bel lt0) (trodAll_cons_mk (Below.trod laidOut (by kernel_rfl) (of_decide_eq_true (by kernel_rfl)) h1 bel lt1) (trodAll_cons_mk (Below.trod laidOut (by kernel_rfl) (of_decide_eq_true (by kernel_rfl)) h2 bel lt2) trodAll_mk0))), rfl, bel.frame _, fun h => by cases h⟩

theorem laid_met (os : Os) : laidMet Tryd.prog Rows.archiveBendsRow.laid ((laidWorld os).forCall (fun _ _ => 0) ⟨#[], #[.slice none 0 0, .int .i64 0, .int .u8 0], []⟩).memory :=
  laidMet_of_run' 8 (by kernel_rfl) (by kernel_rfl)
theorem reads (os : Os) {H : Type} (enc : TypeId × Value → H) : ∃ places, DataW.whole enc Tryd.prog ((laidWorld os).forCall (fun _ _ => 0) ⟨#[], #[.slice none 0 0, .int .i64 0, .int .u8 0], []⟩).memory Tryd.f5.params.toList Rows.archiveBendsSpec.vars false (#[.slice none 0 0, .int .i64 0, .int .u8 0] : Array Value).toList 8 = some ([.nil, .lit (.int .i64 0), .lit (.int .u8 0)], [], places) :=
  ⟨[], by kernel_rfl⟩

set_option maxRecDepth 100000 in
theorem lifted (os : Os) (started : os.Started) (H : Type) (enc : TypeId × Value → H) (F : Stop.Interp) :
    ReturnsInHanded {} Tryd.checked os 5 .any ((OpenSpec.ofChange Rows.archiveBendsSpec).preRow enc Tryd.prog Tryd.f5 Rows.archiveBendsRow.domain false Rows.archiveBendsRow.laid) (((OpenSpec.ofChange Rows.archiveBendsSpec).at F).post enc Tryd.prog Tryd.f5 false true false false) := by
  obtain ⟨places, hx⟩ := reads os enc
  refine returnsInHanded_of_row (C := Tryd.checked) (s := OpenSpec.ofChange Rows.archiveBendsSpec) own started (by kernel_rfl) Tryd.func5
    (witness_row_at (enc := enc) (C := Tryd.checked) false (laidWorld os) #[.slice none 0 0, .int .i64 0, .int .u8 0] rfl (by kernel_rfl) (by kernel_rfl) (by kernel_rfl)
      (OpenSpec.preRow_of_cond 8 hx (by kernel_rfl) (fun k hk => by cases hk) (by kernel_rfl) (laid_met os))) ?_
  intro W base args ds gs before hval hW _ _ _ hL hsh _
  exact contract H enc W base args ds gs before hval hW hL hsh

theorem said : Rows.ArchiveBendsSaid :=
  OpenClaim.holds_of_cond 5 Tryd.f5 rfl rfl rfl rfl rfl rfl rfl ⟨rfl, rfl, rfl, rfl, rfl⟩ rfl rfl rfl rfl rfl (by kernel_rfl) Tryd.func5 (by kernel_rfl)
    (of_decide_eq_true (by kernel_rfl)) (by unfold Func.isWrapper; first | (rw [if_pos (by decide +kernel)]; kernel_rfl) | (rw [if_neg (by decide +kernel)]; exact ⟨rfl, rfl⟩))
    (fun os started H enc _ F => by rw [OpenClaim.pre_eq_preRow]; exact lifted os started H enc F)

theorem plain (f : FuncId) (fn : Func) (hf : Tryd.pinned.checked.prog.funcNamed "creel/creellaw12.ArchiveBends" = some f) (hfn : Tryd.pinned.checked.prog.funcs[f]? = some fn) :
    false = Tryd.pinned.checked.prog.looks [] ∧ ∀ (j : Nat) t, fn.params[j]? = some t → Tryd.pinned.checked.prog.wantsStandIn t = false := by
  obtain rfl : f = 5 := Option.some.inj ((show Tryd.prog.funcNamed "creel/creellaw12.ArchiveBends" = some 5 by kernel_rfl).symm.trans hf) |>.symm
  obtain rfl : fn = Tryd.f5 := (Option.some.inj (Tryd.func5.symm.trans hfn)).symm
  refine ⟨by kernel_rfl, fun j t ht => ?_⟩
  rw [Tryd.params5] at ht
  have hm := Array.mem_of_getElem? ht
  simp only [List.mem_toArray, List.mem_cons, List.not_mem_nil, or_false] at hm
  rcases hm with rfl | rfl | rfl
  · exact (show Tryd.prog.wantsStandIn 22 = false by kernel_rfl)
  · exact (show Tryd.prog.wantsStandIn 3 = false by kernel_rfl)
  · exact (show Tryd.prog.wantsStandIn 5 = false by kernel_rfl)

theorem proved : Rows.ArchiveBendsCardSaid :=
  Claim7.holds_tied_plain_at .later [] _ _ _ _ said (fun _ h => by cases h) (by kernel_rfl) (fun _ h => by cases h) archiveBends_row_tie rfl ⟨rfl, rfl⟩ (by kernel_rfl) rfl plain (by kernel_rfl)
end Go.Proofs.YticcphppnmoogaaDoor.archiveBends
