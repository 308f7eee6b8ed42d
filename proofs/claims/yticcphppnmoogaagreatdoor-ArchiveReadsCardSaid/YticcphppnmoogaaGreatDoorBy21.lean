/-
  Appending to an empty row; the contracts of creelref05.Parse and Lead.
  Words for rows of texts.
-/
import Derived.Test.YticcphppnmoogaaGreatDoorBy20
import Derived.Test.YticcphppnmoogaaGreatDoorBy15
import Derived.ArgAppend
import Derived.Test.YticcphppnmoogaaGreatDoorBy13
import Derived.Test.YticcphppnmoogaaGreatDoorBy2

namespace Go.Proofs.YticcphppnmoogaaGreatDoor
open Go.RowKit
attribute [local go_sem ↓] Go.wp_at_zero Go.wp_at_succ

theorem app_empty {P : Program} (w : World) (t ty e : TypeId) (i : TypeInfo) (z : Value) (size bytes : Nat) (ht : P.underlying t = some (.slice e)) (hi : P.info? e = some i) (hz : i.zero = some z) (hsize : i.size = size) (hby : i.bytes = bytes) (hzs : z.cells.size = size) (hsz : 0 < size)
    (base g : Nat) (hg : base ≤ g) (hB : Blk w g e #[]) (B n c : Nat) (A : Option Addr) (news : List Value) (hR : Reads w B size A n news) (h63 : n ≤ maxLen) (hbytes : n * bytes ≤ 140737488355328) :
    ∃ A' c' w', (Builtin.append_ #[t, t] ty #[.slice (some ⟨g, 0, none⟩) 0 0, .slice A n c]).run P w = .ok (.slice A' n c') w' ∧ w'.ownsRow base e size (.slice A' n c') n news ∧ Below w.heap.size w w' := by
  rcases Nat.eq_zero_or_pos n with h0 | h0
  · subst h0
    obtain rfl : news = [] := List.eq_nil_of_length_eq_zero (by simpa using hR.1)
    refine ⟨some ⟨g, 0, none⟩, 0, w, ?_, ⟨by simp, .inr ⟨g, 0, #[], rfl, hg, hB, Nat.le_refl _, by unfold maxLen; omega, by simp, by simp⟩⟩, Below.refl _ _⟩
    cases A with
    | none => simp [Builtin.append_, run_underlying ht, sizeOf, typeInfo, hi, Builtin.lenOf, Builtin.firstCells, storeCells]
    | some ad =>
      have hfc := run_firstCells_some (P := P) w i.size 0 ad 0 c [] (by simp) (fun j v h => by simp at h)
      simp [Builtin.append_, run_underlying ht, sizeOf, typeInfo, hi, Builtin.lenOf, hfc, storeCells]
  · obtain ⟨ad, rfl, _, hc⟩ := hR.2 h0
    obtain ⟨v', w', hrun, h1, h2⟩ := run_append_arg_grows (P := P) w t ty e i z size bytes ht hi hz hsize hby hzs hsz ⟨g, 0, none⟩ 0 0 [] (by simp) (fun j u h => by simp at h) ad n c news hR.1 hc (by omega) (by omega) (by simpa using hbytes)
    simp only [Nat.zero_add, List.nil_append] at h1
    obtain ⟨A', c', rfl⟩ := ownForm h1
    exact ⟨A', c', w', hrun, own_mono h1 (by have := hB.lt; omega), (Below.refl _ _).grown h2 (Nat.le_refl _) (fun g hg => by cases hg)⟩

theorem wp_app {P : Program} {o : Oper} {a : Act} {w w' : World} {K : Act → World → Prop} {Q : Exit → Act → World → Prop} {s x : Operand} {t : TypeId} {v1 v2 v : Value} (ho : o.op = .call { callee := .builtin .append, args := #[s, x], argTypes := #[t, t] })
    (hs : a.eval s = v1) (hx : a.eval x = v2) (hrun : (Builtin.append_ #[t, t] o.type #[v1, v2]).run P w = .ok v w') (h : K (a.put o.dst v) w') : o.wp P a w K Q := by
  unfold Oper.wp
  simp [execOp, ho, resolve, invoke, builtin, hs, hx, hrun, Result.andThen]
  exact h
theorem rowCap {w : World} {base n size c : Nat} {e : TypeId} {A : Option Addr} {xs : List Value} (h : w.ownsRow base e size (.slice A n c) n xs) : n ≤ c ∧ c ≤ 9223372036854775807 := by
  obtain ⟨A', c', e, h1, h2⟩ := ownCap h
  injection e with _ _ e
  subst e
  unfold maxLen at h2
  exact ⟨h1, by omega⟩
theorem parts_abs {s : ByteArray} (h : isAbs s = true) : partsF s = ⟨#[]⟩ :: partsF (cutF s) := by
  apply map_data_inj
  rw [parts_data, abs_form h, split_eq, List.map_cons, parts_data]
theorem cut_not {s : ByteArray} (h : isAbs s = false) : cutF s = s := by
  apply ByteArray.ext
  apply Array.ext'
  unfold isAbs at h
  unfold cutF Lib.trimPrefix
  rw [h]; simp
theorem abs_at {s : ByteArray} (h : 0 < s.size) : isAbs s = (s[0] == 47) := by
  have h0 := at_list h
  unfold isAbs Lib.hasPrefix
  cases hl : s.data.toList with
  | nil => rw [hl] at h0; cases h0
  | cons b r =>
    rw [hl] at h0
    simp only [List.getElem?_cons_zero, Option.some.injEq] at h0
    simp only [List.isPrefixOf, h0, Bool.and_true]
    rw [Bool.eq_iff_iff]; simp; exact eq_comm
theorem abs_nil {s : ByteArray} (h : s.size = 0) : isAbs s = false := by
  have : s.data.toList = [] := List.eq_nil_of_length_eq_zero (by simpa using h)
  unfold isAbs; rw [this]; rfl
theorem parse_root {s : ByteArray} (h : s.toList = [47]) : parseE s = 0 ∧ parseP s = [] := by
  have hs : s = ⟨#[47]⟩ := toList_inj (by rw [h]; decide +kernel)
  subst hs
  constructor <;> decide +kernel
theorem parse_abs {s : ByteArray} (h : isAbs s = true) (hr : ¬ s.toList = [47]) : parseP s = partsF (cutF s) := by
  unfold parseP
  rw [if_neg]
  intro e
  have := abs_form h
  rw [e] at this
  exact hr (by rw [ByteArray.toList_eq]; exact this)
theorem parts_pos (s : ByteArray) : 1 ≤ (partsF s).length := by rw [partsF_len]; omega
theorem tail_reads {w : World} {base n c : Nat} {A : Option Addr} {x : ByteArray} {q : List ByteArray} (h : w.ownsRow base 9 1 (.slice A n c) n (strV (x :: q))) (hq : 1 ≤ q.length) :
    ∃ g, A = some ⟨g, 0, none⟩ ∧ n = q.length + 1 ∧ Reads w w.heap.size 1 (some ⟨g, 1, none⟩) q.length (strV q) ∧ q.length ≤ c - 1 ∧ n ≤ c ∧ c ≤ 9223372036854775807 := by
  have hn := strs_n (Reads.of_own h)
  rw [List.length_cons] at hn
  obtain ⟨g, c', e, _, hlt, hc⟩ := ownCells h (by omega)
  obtain ⟨A', c'', e', h1, h2⟩ := ownCap h
  injection e with e _ _
  injection e' with _ _ e3
  subst e e3
  unfold maxLen at h2
  refine ⟨g, rfl, hn.symm, ⟨by rw [strV_len]; omega, fun _ => ⟨_, rfl, hlt, fun j u hu => ?_⟩⟩, by omega, h1, by omega⟩
  rw [Addr.add_lit, Nat.add_comm 1 j]
  exact hc (j + 1) u (by simpa [strV] using hu)

def RParsePost (w : World) (s : ByteArray) (e : Ending) (w' : World) : Prop :=
  Below w.heap.size w w' ∧ ((parseE s ≠ 0 ∧ e = .returned (.tuple #[.slice none 0 0, .int .i64 (parseE s)])) ∨
    (parseE s = 0 ∧ ∃ A n c, e = .returned (.tuple #[.slice A n c, .int .i64 0]) ∧ n = (parseP s).length ∧ n ≤ c ∧ c ≤ 9223372036854775807 ∧ Reads w' w'.heap.size 1 A n (strV (parseP s))))

set_option maxRecDepth 100000 in
set_option maxHeartbeats 4000000 in
theorem rparse_any (s : ByteArray) (w : World) (hs : s.size ≤ 1000000) : Calls Tryz.prog 23 #[.string s] w (RParsePost w s) := by
  by_cases h160 : 160 < s.size
  · have HE := Sl.mk (show parseE s = 2 from if_pos h160)
    have hgt : (s.size : Int) > 160 := by omega
    clear h160
    go_enter Tryz.func23, Tryz.ntmps23
    go_wp2_with fail
    go_ret2
    exact ⟨Below.refl _ _, .inl ⟨by rw [HE.out]; decide, by rw [HE.out]; rfl⟩⟩
  have hgt : ¬ (s.size : Int) > 160 := by omega
  by_cases h1 : s.toList = [47]
  · have HE := Sl.mk (parse_root h1)
    have h1' : (s.toList == [47]) = true := by simpa using h1
    clear h160 h1
    go_enter Tryz.func23, Tryz.ntmps23
    go_wp2_with fail
    go_ret2
    exact ⟨Below.refl _ _, .inr ⟨HE.out.1, none, 0, 0, rfl, by rw [HE.out.2]; rfl, Nat.le_refl _, by omega, by rw [HE.out.2]; exact Reads.none_⟩⟩
  have h1' : (s.toList == [47]) = false := by simpa using h1
  have HPT := Sl.mk (rparts_any s w hs)
  unfold PartsPost at HPT
  by_cases h0 : s.size = 0
  · have HE := Sl.mk (show parseE s = 10 by unfold parseE; rw [if_neg h160, if_pos (abs_nil h0)])
    have h0' : ((s.size : Int) == 0) = true := by simpa using h0
    clear h160 h1 h0
    go_enter Tryz.func23, Tryz.ntmps23
    go_wp2_with fail
    refine HPT.out.mono ?_
    rintro e w1 ⟨A, c, rfl, ho, hB⟩
    go_wp2_with fail
    go_ret2
    exact ⟨hB, .inl ⟨by rw [HE.out]; decide, by rw [HE.out]; rfl⟩⟩
  have h0' : ((s.size : Int) == 0) = false := by simpa using h0
  have hp : 0 < s.size := by omega
  have hab := abs_at hp
  cases hA : isAbs s
  · have HE := Sl.mk (show parseE s = 10 by unfold parseE; rw [if_neg h160, if_pos hA])
    rw [hA] at hab
    have hne : ¬ s[0] = 47 := by simpa using hab.symm
    have hn : ((s[0].toNat : Int) != 47) = true := by
      simp only [bne_iff_ne, ne_eq]
      exact fun e => hne (UInt8.toNat_inj.1 (by have : (47 : UInt8).toNat = 47 := rfl; omega))
    clear h160 h1 h0 hab hne
    go_enter Tryz.func23, Tryz.ntmps23
    go_wp2_with fail
    refine HPT.out.mono ?_
    rintro e w1 ⟨A, c, rfl, ho, hB⟩
    go_wp2_with fail
    go_ret2
    exact ⟨hB, .inl ⟨by rw [HE.out]; decide, by rw [HE.out]; rfl⟩⟩
  · rw [hA] at hab
    have heq : s[0] = 47 := by simpa using hab.symm
    have hn : ((s[0].toNat : Int) != 47) = false := by rw [heq]; rfl
    have hP := parse_abs hA h1
    have hE0 : parseE s = if rightB (parseP s) = true then 0 else 10 := by unfold parseE; rw [if_neg h160, if_neg (by rw [hA]; decide)]
    have hpa := parts_abs hA
    have hsz : ∀ x ∈ partsF (cutF s), x.size ≤ 9223372036854775807 := fun x hx => by have h1 := partsF_size hx; have h2 := cutF_size s; omega
    have hle := partsF_le s
    rw [hpa, List.length_cons] at hle
    have hpos := parts_pos (cutF s)
    rw [hpa] at HPT
    rw [hP] at hE0
    obtain ⟨Q, hQ⟩ : ∃ Q, partsF (cutF s) = Q := ⟨_, rfl⟩
    rw [hQ] at hE0 hP HPT hsz hle hpos
    have HE0 := Sl.mk hE0
    have HP := Sl.mk hP
    have HSZ := Sl.mk hsz
    clear h160 h1 h0 hab heq hE0 hP hpa hsz hQ hA
    go_enter Tryz.func23, Tryz.ntmps23
    go_wp2_with fail
    refine HPT.out.mono ?_
    rintro e w1 ⟨A, c, rfl, ho, hB⟩
    obtain ⟨g, rfl, hnq, hR, hc1, hc2, hc3⟩ := tail_reads ho hpos
    obtain ⟨k, hk⟩ : ∃ k, Q.length = k := ⟨_, rfl⟩
    have HK := Sl.mk hk
    rw [List.length_cons] at hnq ho hc2 ⊢
    rw [hk] at hR hc1 hc2 hle hpos ⊢
    have hcne : ¬ c = 1 := by omega
    have HRT := Sl.mk (rright_any (some ⟨g, 1, none⟩) k (c - 1) Q w1 (by omega) HSZ.out hR)
    have HR := Sl.mk hR
    clear ho hnq hR hk HPT
    go_wp2_with fail
    refine HRT.out.mono ?_
    rintro e w2 ⟨rfl, q2, rfl⟩
    cases eR : rightB Q
    · have HE := Sl.mk (show parseE s = 10 by rw [HE0.out, eR]; rfl)
      clear eR
      go_wp2_with fail
      go_ret2
      exact ⟨below_drN hB q2, .inl ⟨by rw [HE.out]; decide, by rw [HE.out]; rfl⟩⟩
    · have HE := Sl.mk (show parseE s = 0 by rw [HE0.out, eR]; rfl)
      clear eR
      go_wp2_with fail
      go_ret2
      exact ⟨below_drN hB q2, .inr ⟨HE.out, some ⟨g, 1, none⟩, k, c - 1, rfl, by rw [HP.out, HK.out], hc1, by omega, by rw [HP.out]; exact HR.out.drewN q2⟩⟩

theorem step_dot {p : List ByteArray} {t : ByteArray} (h : t.toList = [46]) : stepF p t = some p := if_pos h
theorem step_out {p : List ByteArray} {t : ByteArray} (h : t.toList = [46, 46]) : stepF p t = if p = [] then none else some p.dropLast := by
  unfold stepF
  rw [if_neg (by rw [h]; simp), if_pos h]
theorem step_name {p : List ByteArray} {t : ByteArray} (h1 : ¬ t.toList = [46]) (h2 : ¬ t.toList = [46, 46]) : stepF p t = if nameB t = true ∧ p.length < 8 then some (p ++ [t]) else none := by
  unfold stepF
  rw [if_neg h1, if_neg h2]
theorem step_bad {p : List ByteArray} {t : ByteArray} (h1 : ¬ t.toList = [46]) (h2 : ¬ t.toList = [46, 46]) (h : nameB t = false) : stepF p t = none := by
  rw [step_name h1 h2, if_neg (fun hh => by rw [h] at hh; cases hh.1)]
theorem step_full {p : List ByteArray} {t : ByteArray} (h1 : ¬ t.toList = [46]) (h2 : ¬ t.toList = [46, 46]) (h : 8 ≤ p.length) : stepF p t = none := by
  rw [step_name h1 h2, if_neg (fun hh => by have := hh.2; omega)]
theorem strV_take (p : List ByteArray) (k : Nat) : (strV p).take k = strV (p.take k) := by simp [strV, List.map_take]
def RLeadPost (w : World) (fr : List ByteArray) (s : ByteArray) (e : Ending) (w' : World) : Prop :=
  ∃ (A' : Option Addr) (k c' : Nat), e = .returned (.tuple #[.slice A' k c', .int .i64 (leadE fr s)]) ∧ Below w.heap.size w w'

/-- What the operations of one more name leave. -/
def LeadP (B n : Nat) (p : List ByteArray) (t : ByteArray) (k : Nat) (v : Value) (w : World) : Prop := match k with
  | 0 => ∃ g, v = .slice (some ⟨g, 0, none⟩) 0 0 ∧ B ≤ g ∧ Blk w g 9 #[]
  | 2 => ∃ A c, v = .slice A n c ∧ w.ownsRow B 9 1 (.slice A n c) n (strV p)
  | 7 => ∃ g, v = .slice (some ⟨g, 0, none⟩) 1 1 ∧ Reads w w.heap.size 1 (some ⟨g, 0, none⟩) 1 [.string t]
  | _ => False

set_option maxRecDepth 100000 in
set_option maxHeartbeats 8000000 in
theorem rlead_any (A : Option Addr) (n c : Nat) (fr : List ByteArray) (s : ByteArray) (w : World) (hn : n ≤ 1000) (hfs : ∀ x ∈ fr, x.size ≤ 1000000) (hss : s.size ≤ 1000000) (hR : Reads w w.heap.size 1 A n (strV fr)) :
    Calls Tryz.prog 11 #[.slice A n c, .string s] w (RLeadPost w fr s) := by
  obtain ⟨i0, hi0, hz0, hz1, hz2⟩ := info_parts strInfo
  have HRt := Sl.mk (rright_any A n c fr w (by omega) (fun x hx => by have := hfs x hx; omega) hR)
  cases eR : rightB fr
  · have HE := Sl.mk (show leadE fr s = 10 by unfold leadE; rw [if_pos eR])
    rw [eR] at HRt
    clear hR
    go_enter Tryz.func11, Tryz.ntmps11
    go_wp2_with fail
    refine HRt.out.mono ?_
    rintro e w' ⟨rfl, q0, rfl⟩
    go_wp2_with fail
    go_ret2
    exact ⟨none, 0, 0, by rw [HE.out]; rfl, below_drN (Below.refl _ _) q0⟩
  rw [eR] at HRt
  by_cases h160 : 160 < s.size
  · have HE := Sl.mk (show leadE fr s = 2 by unfold leadE; rw [if_neg (by rw [eR]; simp), if_pos h160])
    have h160' : (160 : Int) < (s.size : Int) := by omega
    clear hR
    go_enter Tryz.func11, Tryz.ntmps11
    go_wp2_with fail
    refine HRt.out.mono ?_
    rintro e w' ⟨rfl, q0, rfl⟩
    go_wp2_with fail
    go_ret2
    exact ⟨none, 0, 0, by rw [HE.out]; rfl, below_drN (Below.refl _ _) q0⟩
  have h160' : ¬ (160 : Int) < (s.size : Int) := by omega
  have HE := Sl.mk (show leadE fr s = if (leadR fr s).isSome = true then 0 else 10 by unfold leadE; rw [if_neg (by rw [eR]; simp), if_neg h160])
  have HLR := Sl.mk (show leadR fr s = leadL (if isAbs s = true then [] else fr) (partsF (cutF s)) by unfold leadR; rw [if_neg (by rw [eR]; simp; omega)])
  have h8 : fr.length ≤ 8 := by
    have : (decide (fr.length ≤ 8) && fr.all nameB) = true := eR
    simp only [Bool.and_eq_true, decide_eq_true_eq] at this
    exact this.1
  have hl := strs_n hR
  have h8n : n ≤ 8 := by omega
  have HR := Sl.mk hR
  have HL := Sl.mk hl
  have HPT := Sl.mk (fun W => rparts_any s W hss)
  unfold PartsPost at HPT
  clear hR eR hl hfs h8
  go_enter Tryz.func11, Tryz.ntmps11
  go_wp2_with fail
  refine HRt.out.mono ?_
  rintro e w0 ⟨rfl, q0, rfl⟩
  have hb0 : Below w.heap.size w (w.drewN q0) := below_drN (Below.refl _ _) q0
  obtain ⟨w0, hw0⟩ : ∃ w0, w.drewN q0 = w0 := ⟨_, rfl⟩
  rw [hw0] at hb0
  rw [hw0]
  clear hw0 HRt
  have hal := (Below.refl w0.heap.size w0).alloc (Nat.le_refl _) (.cells #[] 9)
  have HR0 := Sl.mk (show Reads (w0.alloc (.cells #[] 9)) w.heap.size 1 A n (strV fr) from HR.out.below (below_al hb0 _))
  go_wp2_with (at_builtin; refine wpList_append_anyG _ rfl (.tmp 15) (.tmp 16) 38 rfl w0.heap.size 9 i0 (.string ByteArray.empty) 1 16 Tryz.underlying38 hi0 hz0 hz1 hz2 rfl (by decide) (.slice (some ⟨w0.heap.size, 0, none⟩) 0 0) 0 [] rfl (own_empty w0 _ 1) _ A n c (strV fr) rfl HR0.out (strV_one _) (by unfold maxLen; omega) (by omega) (by simp) ?_)
  intro v6 w1 ho6 hg6 hb6
  have hE1 : Below w0.heap.size w0 w1 := hal.grown hg6 (by simp) (fun g hg => by simp [Value.ownBlock] at hg; omega)
  have ho61 : w1.ownsRow w0.heap.size 9 1 v6 n (strV fr) := by simpa using ho6
  obtain ⟨A6, c6, rfl⟩ := ownForm ho61
  have HO6 := Sl.mk ho61
  have hB1 := below_tr hb0 hE1
  clear hal HR0 ho6 hg6 hb6 hb0 hE1 ho61
  go_wp2_with fail
  refine (HPT.out _).mono ?_
  rintro e w2 ⟨A7, c7, rfl, ho7, hB2⟩
  have hE2 := below_tr hB1 hB2
  have hl7 : (partsF s).length ≤ 161 := by have := partsF_le s; omega
  have HO7 := Sl.mk ho7
  have HO62 := Sl.mk (own_below HO6.out hB2)
  obtain ⟨p0, hp0⟩ : ∃ p0, (if isAbs s = true then [] else fr) = p0 := ⟨_, rfl⟩
  obtain ⟨Q, hQ⟩ : ∃ Q, partsF (cutF s) = Q := ⟨_, rfl⟩
  rw [hp0, hQ] at HLR
  have HP0 := Sl.mk (And.intro hp0 hQ)
  have hQs : ∀ x ∈ Q, x.size ≤ 160 := fun x hx => by rw [← hQ] at hx; have h1 := partsF_size hx; have h2 := cutF_size s; omega
  have HQS := Sl.mk hQs
  obtain ⟨k7, hk7⟩ : ∃ k7, (partsF s).length = k7 := ⟨_, rfl⟩
  have HK7 := Sl.mk hk7
  rw [hk7] at hl7 HO7 ⊢
  clear hp0 hQ hk7 ho7 hB1 hB2 HO6 HPT hQs
  go_upto_region 7 with fail
  go_cut [27] (fun v27 wx => v27 = .bool (isAbs s) ∧ wx = w2)
  case first =>
    by_cases h0 : s.size = 0
    · have HA := Sl.mk (abs_nil h0)
      have h0' : ¬ (s.size : Int) > 0 := by omega
      clear h0
      go_wp2_with fail
      go_meet
      exact ⟨by rw [HA.out], rfl⟩
    · have hp : 0 < s.size := by omega
      have hp' : (s.size : Int) > 0 := by omega
      have HA := Sl.mk (abs_at hp)
      by_cases h47 : s[0] = 47
      · have hn : ((s[0].toNat : Int) == 47) = true := by rw [h47]; rfl
        have HA2 := Sl.mk (show isAbs s = true by rw [HA.out, h47]; rfl)
        clear h47 h0
        go_wp2_with fail
        go_meet
        exact ⟨by rw [HA2.out], rfl⟩
      · have hn : ((s[0].toNat : Int) == 47) = false := by
          simp only [beq_eq_false_iff_ne, ne_eq]
          exact fun e => h47 (UInt8.toNat_inj.1 (by have : (47 : UInt8).toNat = 47 := rfl; omega))
        have HA2 := Sl.mk (show isAbs s = false by rw [HA.out]; simpa using h47)
        clear h47 h0
        go_wp2_with fail
        go_meet
        exact ⟨by rw [HA2.out], rfl⟩
  case rest =>
    obtain ⟨rfl, rfl⟩ := hcut
    go_upto_if 27 with fail
    go_cut [6, 7] (fun v6 v7 wx => ∃ (A6 A7 : Option Addr) (c6 c7 n6 k : Nat), v6 = .slice A6 n6 c6 ∧ v7 = .slice A7 k c7 ∧ Sl (p0.length = n6) ∧ n6 ≤ 8 ∧ n6 ≤ c6 ∧ c6 ≤ 9223372036854775807 ∧ Reads wx wx.heap.size 1 A6 n6 (strV p0) ∧ Sl (Q.length = k) ∧ k ≤ 161 ∧ Reads wx wx.heap.size 1 A7 k (strV Q) ∧ Below w.heap.size w wx)
    case first =>
      cases eA : isAbs s
      · obtain ⟨hp, hq⟩ := HP0.out
        rw [eA] at hp
        rw [cut_not eA] at hq
        have HX := Sl.mk (And.intro hp hq)
        have hcap := rowCap HO62.out
        have HRR := Sl.mk (And.intro (Reads.of_own HO62.out) (Reads.of_own HO7.out))
        clear hp hq eA
        go_wp2_with fail
        go_meet
        obtain ⟨rfl, rfl⟩ := HX.out
        exact ⟨A6, A7, c6, c7, n, k7, rfl, rfl, HL, h8n, hcap.1, hcap.2, HRR.out.1, HK7, hl7, HRR.out.2, hE2⟩
      · obtain ⟨hp, hq⟩ := HP0.out
        rw [eA] at hp
        have ho := HO7.out
        have hk := HK7.out
        rw [parts_abs eA, hq] at ho hk
        have hpos := parts_pos (cutF s)
        rw [hq] at hpos
        obtain ⟨g, rfl, hnq, hRd, hc1, hc2, hc3⟩ := tail_reads ho hpos
        subst hnq
        obtain ⟨k, hk8⟩ : ∃ k, Q.length = k := ⟨_, rfl⟩
        rw [hk8] at hRd hc1 hc2 hl7 ⊢
        have HX := Sl.mk (And.intro hp (And.intro hk8 hRd))
        have hcne : ¬ c7 = 1 := by omega
        clear hp hq eA ho hk hpos hk8 hRd HO7 HK7 HP0
        go_wp2_with fail
        go_quiet (fail)
        go_wp2_with fail
        go_meet
        obtain ⟨rfl, hk, hr⟩ := HX.out
        exact ⟨none, some ⟨g, 1, none⟩, 0, c7 - 1, 0, k, rfl, rfl, ⟨rfl⟩, by omega, by omega, by omega, Reads.none_, ⟨hk⟩, by omega, hr.drewN _, below_drN hE2 _⟩
    case rest =>
      obtain ⟨A6, A7, c6, c7, n6, k, rfl, rfl, HN6, hn6, hc6, hc6b, hR6, HK, hk, hR7, hBc⟩ := hcut
      clear hE2 HO7 HO62 HK7 hl7 HP0
      go_wp2_with fail
      go_loopw [6, 8] (fun v6 v8 wr => ∃ (i : Nat) (A6 : Option Addr) (c6 n6 : Nat) (p : List ByteArray), i ≤ k ∧ v8 = .int .i64 i ∧ v6 = .slice A6 n6 c6 ∧ Sl (p.length = n6) ∧ n6 ≤ 8 ∧ n6 ≤ c6 ∧ c6 ≤ 9223372036854775807 ∧ Sl (leadR fr s = leadL p (Q.drop i)) ∧ Reads wr wr.heap.size 1 A6 n6 (strV p) ∧
        Reads wr wr.heap.size 1 A7 k (strV Q) ∧ Below w.heap.size w wr) (fun _ v8 _ => k - (intOf v8).toNat)
      case atStart => exact ⟨0, A6, c6, n6, p0, Nat.zero_le _, rfl, rfl, HN6, hn6, hc6, hc6b, ⟨HLR.out⟩, hR6, hR7, hBc⟩
      case round =>
        clear HN6 hn6 hc6 hc6b hR6 hR7 hBc HLR
        obtain ⟨i, A6, c6, n6, p, hi, rfl, rfl, HN6, hn6, hc6, hc6b, HLd, hR6, hR7, hB⟩ := hrel
        by_cases hil : i < k
        · obtain ⟨t, ht⟩ : ∃ t, Q[i]? = some t := ⟨_, List.getElem?_eq_getElem (by rw [HK.out]; exact hil)⟩
          obtain ⟨a7, rfl, hb7, hc7⟩ := strs_at hR7 ht
          have hts := HQS.out t (List.mem_of_getElem? ht)
          have HD := Sl.mk (drop_cons1 ht)
          have HR6 := Sl.mk hR6
          have HR7 := Sl.mk hR7
          clear ht hR6 hR7
          by_cases hdot : t.toList = [46]
          · have hd : (t.toList == [46]) = true := by simpa using hdot
            have HF := Sl.mk (show leadR fr s = leadL p (Q.drop (i + 1)) by rw [HLd.out, HD.out, leadL, step_dot hdot])
            clear hdot
            go_wp2_with fail
            go_roundw
            case rel => exact ⟨i + 1, A6, c6, n6, p, by omega, by go_num, rfl, HN6, hn6, hc6, hc6b, HF, HR6.out, HR7.out, hB⟩
            case measure => simp [intOf]; omega
          have hd : (t.toList == [46]) = false := by simpa using hdot
          by_cases hdd : t.toList = [46, 46]
          · have hd2 : (t.toList == [46, 46]) = true := by simpa using hdd
            by_cases h60 : n6 = 0
            · have HF := Sl.mk (show leadE fr s = 10 by rw [HE.out, HLd.out, HD.out, leadL, step_out hdd, if_pos (List.eq_nil_of_length_eq_zero (by rw [HN6.out]; exact h60))]; rfl)
              have h60' : ((n6 : Int) == 0) = true := by simpa using h60
              clear hdot hdd h60
              go_wp2_with fail
              go_ret2
              exact ⟨none, 0, 0, by rw [HF.out]; rfl, hB⟩
            · have h60' : ((n6 : Int) == 0) = false := by simpa using h60
              have HF := Sl.mk (show leadR fr s = leadL p.dropLast (Q.drop (i + 1)) by rw [HLd.out, HD.out, leadL, step_out hdd, if_neg (fun e => h60 (by rw [← HN6.out, e]; rfl))])
              have hal := (Below.refl wr.heap.size wr).alloc (Nat.le_refl _) (.cells #[] 9)
              have hRt : Reads wr wr.heap.size 1 A6 (n6 - 1) (strV p.dropLast) := by
                have := reads_take HR6.out (k := n6 - 1) (by omega)
                rw [strV_take, ← HN6.out, ← List.dropLast_eq_take] at this
                rwa [← HN6.out]
              have HR0 := Sl.mk (hRt.below hal)
              have HLD := Sl.mk (show p.dropLast.length = n6 - 1 by rw [List.length_dropLast, HN6.out])
              obtain ⟨m, hm⟩ : ∃ m, n6 = m + 1 := ⟨n6 - 1, by omega⟩
              subst hm
              rw [Nat.add_sub_cancel] at HR0 HLD
              clear hdot hdd h60 hRt
              go_wp2_with (at_builtin; refine wpList_append_anyG _ rfl (.tmp 60) (.tmp 65) 38 rfl wr.heap.size 9 i0 (.string ByteArray.empty) 1 16 Tryz.underlying38 hi0 hz0 hz1 hz2 rfl (by decide) (.slice (some ⟨wr.heap.size, 0, none⟩) 0 0) 0 [] rfl (own_empty wr _ 1) _ A6 m c6 (strV p.dropLast) rfl HR0.out (strV_one _) (by unfold maxLen; omega) (by omega) (by simp) ?_)
              intro v9 w9 ho9 hg9 hb9
              have hE9 : Below wr.heap.size wr w9 := hal.grown hg9 (by simp) (fun g hg => by simp [Value.ownBlock] at hg; omega)
              have ho91 : w9.ownsRow wr.heap.size 9 1 v9 m (strV p.dropLast) := by simpa using ho9
              obtain ⟨A9, c9, rfl⟩ := ownForm ho91
              have hcap := rowCap ho91
              have HO9 := Sl.mk (And.intro (Reads.of_own ho91) ((HR7.out.below hE9).more hE9.size))
              have hBE := below_tr hB hE9
              clear hal HR0 ho9 hg9 hb9 ho91 hE9
              go_wp2_with fail
              go_roundw
              case rel => exact ⟨i + 1, A9, c9, m, p.dropLast, by omega, by go_num, rfl, HLD, by omega, hcap.1, hcap.2, HF, HO9.out.1, HO9.out.2, hBE⟩
              case measure => simp [intOf]; omega
          have hd2 : (t.toList == [46, 46]) = false := by simpa using hdd
          have HNM := Sl.mk (rname_any t wr (by omega))
          cases eN : nameB t
          · have HF := Sl.mk (show leadE fr s = 10 by rw [HE.out, HLd.out, HD.out, leadL, step_bad hdot hdd eN]; rfl)
            rw [eN] at HNM
            clear hdot hdd eN
            go_wp2_with fail
            refine HNM.out.mono ?_
            rintro e w9 ⟨rfl, q9, rfl⟩
            go_wp2_with fail
            go_ret2
            exact ⟨none, 0, 0, by rw [HF.out]; rfl, below_drN hB q9⟩
          · rw [eN] at HNM
            by_cases h68 : n6 = 8
            · have HF := Sl.mk (show leadE fr s = 10 by rw [HE.out, HLd.out, HD.out, leadL, step_full hdot hdd (by rw [HN6.out]; omega)]; rfl)
              have h68' : ((n6 : Int) == 8) = true := by simp; omega
              clear hdot hdd eN h68
              go_wp2_with fail
              refine HNM.out.mono ?_
              rintro e w9 ⟨rfl, q9, rfl⟩
              go_wp2_with fail
              go_ret2
              exact ⟨none, 0, 0, by rw [HF.out]; rfl, below_drN hB q9⟩
            · have h68' : ((n6 : Int) == 8) = false := by simp; omega
              have HF := Sl.mk (show leadR fr s = leadL (p ++ [t]) (Q.drop (i + 1)) by rw [HLd.out, HD.out, leadL, step_name hdot hdd, if_pos ⟨eN, by rw [HN6.out]; omega⟩])
              clear hdot hdd eN
              go_wp2_with fail
              refine HNM.out.mono ?_
              rintro e w9 ⟨rfl, q9, rfl⟩
              go_wp2_with fail
              obtain ⟨wd, hwd⟩ : ∃ wd, (wr.drewN q9).drew = wd := ⟨_, rfl⟩
              have hbd : Below wr.heap.size wr wd := by rw [← hwd]; exact (below_drN (Below.refl _ _) q9).drew
              have hEd := below_tr hB hbd
              have HSF : Sl (∀ W, Below wd.heap.size wd W → W.cell? (a7.add i) = some (.string t)) := Sl.mk (fun W hW => ((below_tr hbd hW).cell (p := a7.add i) (by rw [block_of_add]; exact hb7)).trans hc7)
              have HR6d := Sl.mk (fun (W : World) (hW : Below wd.heap.size wd W) => (HR6.out.below (below_tr hbd hW)).more (below_tr hbd hW).size)
              have HR7d := Sl.mk (fun (W : World) (hW : Below wd.heap.size wd W) => (HR7.out.below (below_tr hbd hW)).more (below_tr hbd hW).size)
              clear hc7 hb7 HR6 HR7
              refine wp_region_X (fun W => Below wd.heap.size wd W) [8, 9] (by kernel_rfl) (by rw [hwd]; exact Below.refl _ _) (fun hS => ?_)
              rw [hwd] at hS ⊢
              clear hwd
              refine wpAnyX_S (i := 1) (v := ?_) rfl (by kernel_rfl) (by kernel_rfl) (by kernel_rfl) (by kernel_rfl) (fun _ _ _ h => h) (Or.inl ⟨by rfl, ?_⟩) hS ?_
              rotate_left 1
              · (intro w' hw'; (first | rw [hw'] | (have hw2 := HSF.out w' hw') | skip); go_simp; (try with_reducible rfl))
              simp only [Act.put, List.setIfInBounds_toArray, List.set_cons_zero, List.set_cons_succ]
              refine wpAnyX_S (i := 3) (v := ?_) rfl (by kernel_rfl) (by kernel_rfl) (by kernel_rfl) (by kernel_rfl) (fun _ _ _ h => h) (Or.inl ⟨by rfl, ?_⟩) hS ?_
              rotate_left 1
              · (intro w' hw'; (first | rw [hw'] | (have hw2 := HSF.out w' hw') | skip); go_simp; (try with_reducible rfl))
              simp only [Act.put, List.setIfInBounds_toArray, List.set_cons_zero, List.set_cons_succ]
              refine wpAnyX_S (i := 4) (v := ?_) rfl (by kernel_rfl) (by kernel_rfl) (by kernel_rfl) (by kernel_rfl) (fun _ _ _ h => h) (Or.inl ⟨by rfl, ?_⟩) hS ?_
              rotate_left 1
              · (intro w' hw'; (first | rw [hw'] | (have hw2 := HSF.out w' hw') | skip); go_simp; (try with_reducible rfl))
              simp only [Act.put, List.setIfInBounds_toArray, List.set_cons_zero, List.set_cons_succ]
              refine wpAnyX_S (i := 5) (v := ?_) rfl (by kernel_rfl) (by kernel_rfl) (by kernel_rfl) (by kernel_rfl) (fun _ _ _ h => h) (Or.inl ⟨by rfl, ?_⟩) hS ?_
              rotate_left 1
              · (intro w' hw'; (first | rw [hw'] | (have hw2 := HSF.out w' hw') | skip); go_simp; (try with_reducible rfl))
              simp only [Act.put, List.setIfInBounds_toArray, List.set_cons_zero, List.set_cons_succ]
              refine wpAnyX_S (i := 6) (v := ?_) rfl (by kernel_rfl) (by kernel_rfl) (by kernel_rfl) (by kernel_rfl) (fun _ _ _ h => h) (Or.inl ⟨by rfl, ?_⟩) hS ?_
              rotate_left 1
              · (intro w' hw'; (first | rw [hw'] | (have hw2 := HSF.out w' hw') | skip); go_simp; (try with_reducible rfl))
              simp only [Act.put, List.setIfInBounds_toArray, List.set_cons_zero, List.set_cons_succ]
              refine wpAnyX_web [0, 2, 7] (fun k => k + 36) (fun k => if k = 2 then [0] else []) (LeadP wd.heap.size n6 p t) _ _ 80 2 (by kernel_rfl) (by decide) (by decide) (by kernel_rfl) (by rfl) (by decide) ?_ ?_ ?_ _ hS
              · intro k hk v W W' _ hP hb
                simp only [List.mem_cons, List.not_mem_nil, or_false] at hk
                rcases hk with rfl | rfl | rfl
                · obtain ⟨g, rfl, hg, h⟩ := hP
                  exact ⟨g, rfl, hg, h.below hb h.lt⟩
                · obtain ⟨A', c', rfl, h⟩ := hP
                  exact ⟨A', c', rfl, own_below h hb⟩
                · obtain ⟨g, rfl, h⟩ := hP
                  exact ⟨g, rfl, (h.below hb).more hb.size⟩
              · intro k hk a W σ hW hag hdep
                simp only [List.mem_cons, List.not_mem_nil, or_false] at hk
                have e37 : a.tmps[37]?.getD undef = .slice A6 n6 c6 := ev_at ((hag 37 (by decide)).trans rfl)
                have e42 : a.tmps[42]?.getD undef = .string t := ev_at ((hag 42 (by decide)).trans rfl)
                rcases hk with rfl | rfl | rfl
                all_goals simp only [List.getElem?_cons_succ, List.getElem?_cons_zero, Option.getD_some]
                · exact wp_of_run (v := .slice (some ⟨W.heap.size, 0, none⟩) 0 0) (w' := W.alloc (.cells #[] 9)) (by go_simp) ⟨_, rfl, below_al (Below.refl _ _) _, _, rfl, hW.size, Blk.new _ _ _⟩
                · obtain ⟨e36, g, h36, hg, hBk⟩ := hdep 0 (by decide)
                  have e36 := ev_at (e36.trans h36)
                  obtain ⟨A', c', w', hrun, ho, hb⟩ := app_empty (P := Tryz.prog) W 38 38 9 i0 (.string ByteArray.empty) 1 16 Tryz.underlying38 hi0 hz0 hz1 hz2 rfl (by decide) wd.heap.size g hg hBk W.heap.size n6 c6 A6 (strV p) (HR6d.out W hW) (by unfold maxLen; omega) (by omega)
                  exact wp_app (s := .tmp 36) (x := .tmp 37) rfl (by simpa [Act.eval] using e36) (by simpa [Act.eval] using e37) hrun ⟨_, rfl, hb, A', c', rfl, ho⟩
                · exact wp_of_run (v := .slice (some ⟨W.heap.size, 0, none⟩) 1 1) (w' := W.alloc (.cells #[.string t] 9)) (by go_simp) ⟨_, rfl, below_al (Below.refl _ _) _, _, rfl, reads_new1 _ _ _ (by simp)⟩
              · intro σ W hW hP
                obtain ⟨g0, h0, -, -⟩ := hP 0 (by decide)
                obtain ⟨A2, c2, h2, ho2⟩ := hP 2 (by decide)
                obtain ⟨g7, h7, hr7⟩ := hP 7 (by decide)
                have hEW := below_tr hEd hW
                have hge := hEW.size
                simp only [putL, List.foldl]
                rw [h0, h2, h7]
                simp only [Nat.reduceAdd]
                simp only [Act.put, List.setIfInBounds_toArray, List.set_cons_zero, List.set_cons_succ]
                refine wpAnyX_tailF [8, 9] (by kernel_rfl) (by rfl) (by rfl) (by rfl) ?_
                simp only [List.filterMap_cons, List.filterMap_nil, List.getElem?_cons_succ, List.getElem?_cons_zero]
                refine wpList_append_anyG _ rfl (.tmp 38) (.tmp 43) 38 rfl wd.heap.size 9 i0 (.string ByteArray.empty) 1 16 Tryz.underlying38 hi0 hz0 hz1 hz2 rfl (by decide) (.slice A2 n6 c2) n6 (strV p) rfl ho2 W.heap.size (some ⟨g7, 0, none⟩) 1 1 [.string t] rfl hr7 (by intro u hu; simp at hu; subst hu; rfl) (by unfold maxLen; omega) (by omega) hW.size ?_
                intro v9 w9 ho9 hg9 hb9
                have hE9 : Below wd.heap.size wd w9 := hW.grown hg9 hW.size (fun g hg => ownGe ho2 hg)
                have ho91 : w9.ownsRow wd.heap.size 9 1 v9 (n6 + 1) (strV (p ++ [t])) := by rw [strV_app]; exact ho9
                obtain ⟨A9, c9, rfl⟩ := ownForm ho91
                have hcap := rowCap ho91
                have HO9 := Sl.mk (And.intro (Reads.of_own ho91) (HR7d.out w9 hE9))
                have HL9 := Sl.mk (show (p ++ [t]).length = n6 + 1 by rw [List.length_append, HN6.out]; rfl)
                have hBE := below_tr hEd hE9
                clear hP h0 h2 h7 ho2 hr7 ho9 hg9 hb9 ho91 hE9 HSF HR6d HR7d hEW hge hW
                go_wp2_with fail
                refine NoPanic.normal ?_
                go_wp2_with fail
                go_roundw
                case rel => exact ⟨i + 1, A9, c9, n6 + 1, p ++ [t], by omega, by go_num, rfl, HL9, by omega, hcap.1, hcap.2, HF, HO9.out.1, HO9.out.2, hBE⟩
                case measure => simp [intOf]; omega
        · obtain rfl : i = k := by omega
          have HF := Sl.mk (show leadE fr s = 0 by rw [HE.out, HLd.out, List.drop_of_length_le (by rw [HK.out]; omega)]; rfl)
          clear hR6 hR7
          go_wp2_with fail
          go_ret2
          exact ⟨A6, n6, c6, by rw [HF.out]; rfl, hB⟩

end Go.Proofs.YticcphppnmoogaaGreatDoor

namespace Go.Proofs.YticcphppnmoogaaGreatDoor
open Go.RowKit
attribute [local go_sem ↓] Go.wp_at_zero Go.wp_at_succ

theorem infob : (Tryz.prog.info? 5).map (fun i => (i.zero, i.size, i.bytes)) = some (some (.int .u8 0), 1, 1) := by kernel_rfl
/-- Headers of texts: a list of slice values that read as these texts. -/
def Heads (w : World) (S : Nat → Prop) (hs : List Value) (T : List (List Nat)) : Prop :=
  hs.length = T.length ∧ ∀ i, i < T.length → ∃ Ai ci, hs[i]? = some (.slice Ai (T.getD i []).length ci) ∧ RdS w S Ai (T.getD i [])
theorem Heads.nil_ (w : World) (S : Nat → Prop) : Heads w S [] [] := ⟨rfl, fun i hi => by simp at hi⟩
theorem Heads.snoc {w : World} {S : Nat → Prop} {hs : List Value} {T : List (List Nat)} (h : Heads w S hs T) {A : Option Addr} {c : Nat} {l : List Nat} (hr : RdS w S A l) : Heads w S (hs ++ [.slice A l.length c]) (T ++ [l]) :=
  ⟨by simp [h.1], fun i hi => by
    rw [List.length_append, List.length_singleton] at hi
    by_cases hl : i < T.length
    · obtain ⟨Ai, ci, e, hr⟩ := h.2 i hl
      have eT : (T ++ [l]).getD i [] = T.getD i [] := by simp [List.getD, List.getElem?_append_left hl]
      exact ⟨Ai, ci, by rw [eT, List.getElem?_append_left (by rw [h.1]; exact hl)]; exact e, by rw [eT]; exact hr⟩
    · obtain rfl : i = T.length := by omega
      have eT : (T ++ [l]).getD T.length [] = l := by simp [List.getD]
      exact ⟨A, c, by rw [eT, ← h.1]; simp, by rw [eT]; exact hr⟩⟩
/-- Bytes, as the append law wants them. -/
theorem reads_rds {w : World} {S : Nat → Prop} {A : Option Addr} {l : List Nat} {B : Nat} (h : RdS w S A l) (hS : ∀ b, S b → b < B) : Reads w B 1 A l.length (u8s l) :=
  ⟨by rw [u8s_len, Nat.mul_one], fun hn => by
    obtain ⟨ad, e, hb, -⟩ := h 0 hn
    refine ⟨ad, e, hS _ hb, fun j u hu => ?_⟩
    have hj : j < l.length := by have := (List.getElem?_eq_some_iff.1 hu).1; rwa [u8s_len] at this
    obtain ⟨ad', e', -, hc⟩ := h j hj
    rw [e] at e'
    injection e' with e'
    subst e'
    rw [hc, ← hu]
    simp [u8s, hj]⟩

end Go.Proofs.YticcphppnmoogaaGreatDoor
