/-
  The contract of path.Lead.
  Cutting at slashes and joining with them (plain).
  The contract of path.Parse.
  A path's text, parsed, is the path; a parsed text is the path's text (plain).
  The contracts of package mode's small functions: each returns what the plain function of the same place says; of old memory nothing turns.
  The contract of mode.Refusal.
  Entries: what they are, and how they lie in memory.
-/
import Derived.Test.YticcphppnmoogaaGreatDoorBy3
import Derived.Test.YticcphppnmoogaaGreatDoorRows
import Derived.WalkKit
import Derived.WalkSpells
import Derived.WalkLawsBesides
import Derived.Test.YticcphppnmoogaaGreatDoorBy1

namespace Go.Proofs.YticcphppnmoogaaGreatDoor
open Go.RowKit
attribute [local go_sem ↓] Go.wp_at_zero Go.wp_at_succ

def isAbs (s : ByteArray) : Bool := Lib.hasPrefix s.data.toList [47]
def cutF (s : ByteArray) : ByteArray := ⟨(Lib.trimPrefix s.data.toList [47]).toArray⟩
def partsF (s : ByteArray) : List ByteArray := Lib.splitB ⟨#[47]⟩ 0 (Lib.countB s ⟨#[47]⟩) s
def leadL : List ByteArray → List ByteArray → Option (List ByteArray)
  | p, [] => some p
  | p, s :: l => match stepF p s with
    | none => none
    | some q => leadL q l
def leadR (fr : List ByteArray) (s : ByteArray) : Option (List ByteArray) := if rightB fr = false ∨ 160 < s.size then none else leadL (if isAbs s = true then [] else fr) (partsF (cutF s))
def leadE (fr : List ByteArray) (s : ByteArray) : Int := if rightB fr = false then 10 else if 160 < s.size then 2 else if (leadR fr s).isSome = true then 0 else 10

theorem cutF_size (s : ByteArray) : (cutF s).size ≤ s.size := by
  show (Lib.trimPrefix s.data.toList [47]).toArray.size ≤ s.size
  unfold Lib.trimPrefix
  split
  · simp only [List.size_toArray, List.length_drop]
    have : s.data.toList.length = s.size := by simp
    omega
  · simp
theorem split_size (k : Nat) : ∀ s : ByteArray, ∀ x ∈ Lib.splitB ⟨#[47]⟩ 0 k s, x.size ≤ s.size := by
  induction k with
  | zero => intro s x hx; rw [Lib.splitB_zero] at hx; simp at hx; subst hx; exact Nat.le_refl _
  | succ k ih =>
    intro s x hx
    unfold Lib.splitB at hx
    split at hx
    · simp at hx; subst hx; exact Nat.le_refl _
    · rcases List.mem_cons.1 hx with rfl | hx
      · rw [ByteArray.size_extract]; omega
      · have := ih _ x hx
        rw [ByteArray.size_extract] at this
        omega
theorem partsF_size {s x : ByteArray} (h : x ∈ partsF s) : x.size ≤ s.size := split_size _ s x h
theorem partsF_len (s : ByteArray) : (partsF s).length = Lib.countB s ⟨#[47]⟩ + 1 := Lib.splitB_all ⟨#[47]⟩ (by decide) 0 _ s rfl
theorem partsF_le (s : ByteArray) : (partsF s).length ≤ s.size + 1 := by
  rw [partsF_len]
  have := Lib.countB_le ⟨#[47]⟩ (by decide) s.size s (Nat.le_refl _)
  omega

/-- The library's variable MaxLen holds some number. -/
def Mx (w : World) : Prop := ∃ m : Int, w.cell? ⟨1, 0, none⟩ = some (.int .i64 m)
theorem Mx.be {w w' : World} (h : Mx w) (hb : Below w.heap.size w w') : Mx w' := by
  obtain ⟨m, h⟩ := h
  exact ⟨m, (hb.cell (p := ⟨1, 0, none⟩) (cell_lt' h)).trans h⟩
theorem split_any (s : ByteArray) (w : World) (hs : s.size ≤ 1000000) (hM : Mx w) :
    Calls Tryz.prog 52 #[.string s, .string ⟨#[47]⟩] w fun e w' => e = .returned (.slice (some ⟨w.heap.size, 0, none⟩) (partsF s).length (partsF s).length) ∧ w' = w.alloc (.cells (strV (partsF s)).toArray 9) := by
  obtain ⟨m, hm⟩ := hM
  have h := strings_Split s ⟨#[47]⟩ m w (by omega) hm (by decide)
  rw [partsF_len]
  exact h
theorem cutp_any (s : ByteArray) (w : World) : Calls Tryz.prog 51 #[.string s, .string ⟨#[47]⟩] w fun e w' => e = .returned (.tuple #[.string (cutF s), .bool (isAbs s)]) ∧ w' = w := strings_CutPrefix s ⟨#[47]⟩ w

theorem ownNeLt' {w : World} {base n size : Nat} {e : TypeId} {v : Value} {xs : List Value} (h : w.ownsRow base e size v n xs) {g : Nat} (hg : w.heap.size ≤ g) : v.ownBlock ≠ some g := by
  rcases h.2 with ⟨rfl, _⟩ | ⟨g', cap, cur, rfl, hb, hh, _⟩
  · simp [Value.ownBlock]
  · intro e
    have e' : g' = g := by simpa [Value.ownBlock] using e
    have : g' < w.heap.size := Blk.lt (t := _) (cs := cur) hh
    omega

def LeadPost (w : World) (fr : List ByteArray) (s : ByteArray) (e : Ending) (w' : World) : Prop :=
  ∃ (A' : Option Addr) (k c' : Nat), e = .returned (.tuple #[.slice A' k c', .int .i64 (leadE fr s)]) ∧ Below w.heap.size w w' ∧ (leadR fr s = none → k = 0) ∧
    ∀ q, leadR fr s = some q → k = q.length ∧ k ≤ c' ∧ c' ≤ 9223372036854775807 ∧ q.length ≤ 8 ∧ Reads w' w'.heap.size 1 A' k (strV q)

theorem step_len {p q : List ByteArray} {s : ByteArray} (h : stepF p s = some q) (h8 : p.length ≤ 8) : q.length ≤ 8 := by
  unfold stepF at h
  split at h
  · injection h with h; subst h; exact h8
  · split at h
    · split at h
      · cases h
      · injection h with h; subst h; rw [List.length_dropLast]; omega
    · split at h
      · rename_i hc
        injection h with h; subst h; rw [List.length_append]; simp; omega
      · cases h

set_option maxHeartbeats 4000000 in
theorem lead_any (A : Option Addr) (n c : Nat) (fr : List ByteArray) (s : ByteArray) (w : World) (hn : n ≤ 1000) (hfs : ∀ x ∈ fr, x.size ≤ 1000000) (hss : s.size ≤ 1000000) (hR : Reads w w.heap.size 1 A n (strV fr)) (hM : Mx w) :
    Calls Tryz.prog 80 #[.slice A n c, .string s] w (LeadPost w fr s) := by
  have hl := strs_n hR
  have HRt := Sl.mk (right_any A n c fr w (by omega) (fun x hx => by have := hfs x hx; omega) hR)
  cases eR : rightB fr
  · have HE := Sl.mk (show leadE fr s = 10 by unfold leadE; rw [if_pos eR])
    have HR := Sl.mk (show leadR fr s = none by unfold leadR; rw [if_pos (.inl eR)])
    rw [eR] at HRt
    clear hR hM
    go_enter Tryz.func80, Tryz.ntmps80
    go_wp2_with fail
    refine HRt.out.mono ?_
    rintro e w' ⟨rfl, rfl⟩
    go_wp2_with fail
    go_ret2
    exact ⟨none, 0, 0, by rw [HE.out]; rfl, Below.refl _ _, fun _ => rfl, fun q hq => by rw [HR.out] at hq; cases hq⟩
  rw [eR] at HRt
  by_cases h160 : 160 < s.size
  · have HE := Sl.mk (show leadE fr s = 2 by unfold leadE; rw [if_neg (by rw [eR]; simp), if_pos h160])
    have HR := Sl.mk (show leadR fr s = none by unfold leadR; rw [if_pos (.inr h160)])
    have h160' : (160 : Int) < (s.size : Int) := by omega
    clear hR hM
    go_enter Tryz.func80, Tryz.ntmps80
    go_wp2_with fail
    refine HRt.out.mono ?_
    rintro e w' ⟨rfl, rfl⟩
    go_wp2_with fail
    go_ret2
    exact ⟨none, 0, 0, by rw [HE.out]; rfl, Below.refl _ _, fun _ => rfl, fun q hq => by rw [HR.out] at hq; cases hq⟩
  have h160' : ¬ (160 : Int) < (s.size : Int) := by omega
  have HE := Sl.mk (show leadE fr s = if (leadR fr s).isSome = true then 0 else 10 by unfold leadE; rw [if_neg (by rw [eR]; simp), if_neg h160])
  have HR := Sl.mk (show leadR fr s = leadL (if isAbs s = true then [] else fr) (partsF (cutF s)) by unfold leadR; rw [if_neg (by rw [eR]; simp; omega)])
  have h8 : fr.length ≤ 8 := by
    have : (decide (fr.length ≤ 8) && fr.all nameB) = true := eR
    simp only [Bool.and_eq_true, decide_eq_true_eq] at this
    exact this.1
  have HCL := Sl.mk (sclone_any A n c fr w (by omega) hR)
  have HM := Sl.mk hM
  have HL := Sl.mk hl
  have h8n : n ≤ 8 := by omega
  clear hR hM eR hl hfs
  go_enter Tryz.func80, Tryz.ntmps80
  go_wp2_with fail
  refine HRt.out.mono ?_
  rintro e w' ⟨rfl, rfl⟩
  go_wp2_with fail
  refine HCL.out.mono ?_
  rintro e w1 ⟨v1, rfl, hown1, hB1⟩
  obtain ⟨A1, c1, rfl⟩ := ownForm hown1
  go_wp2_with fail
  refine (cutp_any s _).mono ?_
  rintro e w2 ⟨rfl, rfl⟩
  obtain ⟨p0, hp0⟩ : ∃ p0, (if isAbs s = true then [] else fr) = p0 := ⟨_, rfl⟩
  obtain ⟨rs, hrs⟩ : ∃ rs, cutF s = rs := ⟨_, rfl⟩
  have hrsz : rs.size ≤ 160 := by rw [← hrs]; have := cutF_size s; omega
  rw [hp0, hrs] at HR
  rw [hrs]
  have HP0 := Sl.mk hp0
  clear hp0 hrs
  go_upto_if 26 with fail
  go_cut [6, 8] (fun v6 _ wx => ∃ A6 c6 n6, v6 = .slice A6 n6 c6 ∧ Sl (p0.length = n6) ∧ n6 ≤ 8 ∧ PP wx w.heap.size A6 c6 p0 ∧ Below w.heap.size w wx)
  case first =>
    cases eA : isAbs s
    · have hp : p0 = fr := by rw [← HP0.out, eA]; rfl
      have hown2 : w2.ownsRow w.heap.size 9 1 (.slice A1 fr.length c1) fr.length (strV fr) := by rw [HL.out]; exact hown1
      have HPP := Sl.mk (show PP w2 w.heap.size A1 c1 p0 by rw [hp]; exact PP.of_own hown2)
      have HN := Sl.mk (show p0.length = n by rw [hp]; exact HL.out)
      clear hp hown1 hown2
      go_wp2_with fail
      go_meet
      exact ⟨A1, c1, n, rfl, HN, h8n, HPP.out, hB1⟩
    · have hp : p0 = [] := by rw [← HP0.out, eA]; rfl
      have HPP := Sl.mk (show PP w2 w.heap.size none 0 p0 by rw [hp]; exact PP.of_own (World.ownsRow_nil _ _ _ _))
      have HN := Sl.mk (show p0.length = 0 by rw [hp]; rfl)
      clear hp hown1
      go_wp2_with fail
      go_meet
      exact ⟨none, 0, 0, rfl, HN, by omega, HPP.out, hB1⟩
  case rest =>
    obtain ⟨A6, c6, n6, rfl, HN6, hn6, hPP, hB6⟩ := hcut
    clear hown1 hB1
    have HMc := Sl.mk (HM.out.be hB6)
    go_wp2_with fail
    refine (split_any rs _ (by omega) HMc.out).mono ?_
    rintro e w3 ⟨rfl, hw3⟩
    have hBk : Blk w3 wc.heap.size 9 (strV (partsF rs)).toArray := by rw [hw3]; exact Blk.new _ _ _
    have hB3 : Below wc.heap.size wc w3 := by rw [hw3]; exact below_al (Below.refl _ _) _
    have hPP3 := hPP.below hB3
    have hE3 := below_tr hB6 hB3
    have hge := hB6.size
    have hnb : A6.map (·.block) ≠ some wc.heap.size := fun e => by
      rcases hPP.row with h | ⟨-, ad, rfl, -, h2, -⟩
      · have := (ownNeLt' h (Nat.le_refl wc.heap.size))
        rw [own_map] at this
        exact this e
      · have : ad.block = wc.heap.size := by simpa using e
        omega
    obtain ⟨Q, hQ⟩ : ∃ Q, partsF rs = Q := ⟨_, rfl⟩
    have hQs : ∀ x ∈ Q, x.size ≤ 160 := fun x hx => by rw [← hQ] at hx; have := partsF_size hx; omega
    have hQl : Q.length ≤ 161 := by rw [← hQ]; have := partsF_le rs; omega
    rw [hQ] at hBk HR
    rw [hQ]
    obtain ⟨k, hk⟩ : ∃ k, Q.length = k := ⟨_, rfl⟩
    have HK := Sl.mk hk
    rw [hk] at hQl
    rw [hk]
    have HQS := Sl.mk hQs
    obtain ⟨gb, hgb⟩ : ∃ gb, wc.heap.size = gb := ⟨_, rfl⟩
    rw [hgb] at hBk hnb hge
    rw [hgb]
    have HGE := Sl.mk hge
    clear hw3 hB3 hPP hB6 hQ hk hQs hgb HMc HM hge
    go_wp2_with fail
    go_loopw [6, 10, 11, 12, 30] (fun v6 _ _ _ v30 wr => ∃ (i : Nat) (A6 : Option Addr) (c6 n6 : Nat) (p : List ByteArray), i ≤ k ∧ v30 = .int .i64 i ∧ v6 = .slice A6 n6 c6 ∧ Sl (p.length = n6) ∧ n6 ≤ 8 ∧ Sl (leadR fr s = leadL p (Q.drop i)) ∧ PP wr w.heap.size A6 c6 p ∧
      Blk wr gb 9 (strV Q).toArray ∧ A6.map (·.block) ≠ some gb ∧ Below w.heap.size w wr) (fun _ _ _ _ v30 _ => k - (intOf v30).toNat)
    case atStart => exact ⟨0, A6, c6, n6, p0, Nat.zero_le _, rfl, rfl, HN6, hn6, ⟨HR.out⟩, hPP3, hBk, hnb, hE3⟩
    case round =>
      clear hPP3 hBk hnb hE3 HN6 hn6
      obtain ⟨i, A6, c6, n6, p, hi, rfl, rfl, HN6, hn6, HLd, hPP, hBk, hnb, hB⟩ := hrel
      by_cases hil : i < k
      · obtain ⟨nm, hnm⟩ : ∃ nm, Q[i]? = some nm := ⟨_, List.getElem?_eq_getElem (by rw [HK.out]; exact hil)⟩
        have hcell : wr.cell? ⟨gb, i, none⟩ = some (.string nm) := by rw [hBk.cell]; simpa using strV_at hnm
        have hnms := HQS.out nm (List.mem_of_getElem? hnm)
        have HD := Sl.mk (drop_cons1 hnm)
        have HST := Sl.mk (step_any w.heap.size A6 n6 c6 p nm wr HN6.out hn6 (by omega) hB.size hPP)
        have HPg := Sl.mk (fun g (hg : A6.map (·.block) = some g) => hPP.ge hg)
        have hbl := hBk.lt
        clear hnm
        go_wp2_with fail
        refine HST.out.mono ?_
        rintro e w4 ⟨A7, k7, c7, rfl, hg4, hnb4, hq⟩
        have hBk4 := hBk.grown hg4 (fun e => hnb e.symm)
        have hE4 : Below w.heap.size w w4 := hB.grown hg4 hB.size (fun q hq => HPg.out q hq)
        have hnb7 := hnb4 gb hbl hnb
        clear hPP hBk hg4 hnb4 hB hnb hcell hbl
        cases hS : stepF p nm with
        | none =>
          have HF := Sl.mk (show leadR fr s = none by rw [HLd.out, HD.out, leadL, hS])
          clear hq
          go_wp2_with fail
          go_ret2
          exact ⟨none, 0, 0, by rw [HE.out, HF.out]; rfl, hE4, fun _ => rfl, fun q hq => by rw [HF.out] at hq; cases hq⟩
        | some q =>
          have HF := Sl.mk (show leadR fr s = leadL q (Q.drop (i + 1)) by rw [HLd.out, HD.out, leadL, hS])
          obtain ⟨h1, h2⟩ := hq q hS
          have hql := step_len hS (by rw [HN6.out]; exact hn6)
          have HN7 := Sl.mk h1.symm
          have hk7 : k7 ≤ 8 := by omega
          clear hq h1 hql
          go_wp2_with fail
          go_roundw
          case rel => exact ⟨i + 1, A7, c7, k7, q, by omega, by go_num, rfl, HN7, hk7, HF, h2, hBk4, hnb7, hE4⟩
          case measure => simp [intOf]; omega
      · obtain rfl : i = k := by omega
        have HF := Sl.mk (show leadR fr s = some p by rw [HLd.out, List.drop_of_length_le (by rw [HK.out]; omega)]; rfl)
        have HPP := Sl.mk hPP
        clear hPP hBk hnb
        go_wp2_with fail
        go_ret2
        refine ⟨A6, n6, c6, by rw [HE.out, HF.out]; rfl, hB, (fun h => by rw [HF.out] at h; cases h), fun q hq => ?_⟩
        rw [HF.out] at hq
        injection hq with hq
        subst hq
        have hr := HPP.out.reads
        have hcap := HPP.out.cap
        rw [HN6.out] at hr hcap
        exact ⟨HN6.out.symm, hcap.1, hcap.2, by rw [HN6.out]; exact hn6, hr⟩

end Go.Proofs.YticcphppnmoogaaGreatDoor

namespace Go.Proofs.YticcphppnmoogaaGreatDoor
open Go.RowKit

theorem index_cons_eq (c : UInt8) (l : List UInt8) : Lib.index (c :: l) [c] = ((0 : Nat) : Int) := by rw [Lib.index]; simp [List.isPrefixOf]
theorem index_cons_ne {b c : UInt8} (l : List UInt8) (h : b ≠ c) : Lib.index (b :: l) [c] = if Lib.index l [c] == -1 then -1 else Lib.index l [c] + 1 := by
  have hp : ([c] : List UInt8).isPrefixOf (b :: l) = false := by simp [List.isPrefixOf, Ne.symm h]
  rw [Lib.index, hp]; simp
theorem split_nil (c : UInt8) : Lib.split [] [c] = [[]] := by
  unfold Lib.split
  rw [Lib.count_one]; rfl
theorem split_eq (c : UInt8) (l : List UInt8) : Lib.split (c :: l) [c] = [] :: Lib.split l [c] := by
  unfold Lib.split
  rw [Lib.count_cons_eq, Nat.add_comm, Lib.splitK, index_cons_eq]
  simp
theorem split_ne {b c : UInt8} (l : List UInt8) (h : b ≠ c) : ∃ x t, Lib.split l [c] = x :: t ∧ Lib.split (b :: l) [c] = (b :: x) :: t := by
  unfold Lib.split
  rw [Lib.count_cons_ne b c l h]
  by_cases hm : Lib.index l [c] = -1
  · rw [Lib.count_miss hm]
    exact ⟨l, [], rfl, rfl⟩
  · have hge := Lib.index_ge l [c]
    obtain ⟨j, hj⟩ : ∃ j : Nat, Lib.index l [c] = j := ⟨(Lib.index l [c]).toNat, by omega⟩
    have hix' : Lib.index (b :: l) [c] = ((j + 1 : Nat) : Int) := by rw [index_cons_ne l h, if_neg (fun e => hm (beq_iff_eq.1 e)), hj]; omega
    rw [Lib.count_hit (by simp) hj, Nat.add_comm]
    unfold Lib.splitK
    rw [hj, hix']
    have h1 : ¬ (((j : Nat) : Int) == -1) = true := fun e => by have := beq_iff_eq.1 e; omega
    have h2 : ¬ (((j + 1 : Nat) : Int) == -1) = true := fun e => by have := beq_iff_eq.1 e; omega
    rw [if_neg h1, if_neg h2]
    refine ⟨_, _, rfl, ?_⟩
    simp

theorem split_cons (c : UInt8) : ∀ l : List UInt8, ∃ x t, Lib.split l [c] = x :: t
  | [] => ⟨[], [], split_nil c⟩
  | b :: l => by
    by_cases h : b = c
    · subst h; exact ⟨_, _, split_eq b l⟩
    · obtain ⟨x, t, _, h2⟩ := split_ne l h
      exact ⟨_, _, h2⟩
theorem join_split (c : UInt8) : ∀ s : List UInt8, Lib.join (Lib.split s [c]) [c] = s
  | [] => by rw [split_nil]; simp [Lib.join, List.intercalate]
  | b :: l => by
    have ih := join_split c l
    by_cases h : b = c
    · subst h
      rw [split_eq]
      obtain ⟨x, t, e⟩ := split_cons b l
      rw [e] at ih ⊢
      rw [Lib.join_cons] at ih ⊢
      simp only [Lib.joinTail, List.map_cons, List.flatten_cons, List.nil_append, List.cons_append] at ih ⊢
      rw [ih]
    · obtain ⟨x, t, h1, h2⟩ := split_ne l h
      rw [h1] at ih
      rw [h2]
      rw [Lib.join_cons] at ih ⊢
      rw [List.cons_append, ih]

theorem split_app {c : UInt8} (r : List UInt8) : ∀ x : List UInt8, c ∉ x → Lib.split (x ++ c :: r) [c] = x :: Lib.split r [c]
  | [], _ => split_eq c r
  | b :: x, h => by
    simp only [List.mem_cons, not_or] at h
    have ih := split_app r x h.2
    obtain ⟨y, t, h1, h2⟩ := split_ne (x ++ c :: r) (Ne.symm h.1)
    rw [ih] at h1
    injection h1 with e1 e2
    rw [List.cons_append, h2, ← e1, ← e2]
theorem split_one {c : UInt8} : ∀ x : List UInt8, c ∉ x → Lib.split x [c] = [x]
  | [], _ => split_nil c
  | b :: x, h => by
    simp only [List.mem_cons, not_or] at h
    have ih := split_one x h.2
    obtain ⟨y, t, h1, h2⟩ := split_ne x (Ne.symm h.1)
    rw [ih] at h1
    injection h1 with e1 e2
    rw [h2, ← e1, ← e2]
theorem split_join {c : UInt8} : ∀ p : List (List UInt8), p ≠ [] → (∀ x ∈ p, c ∉ x) → Lib.split (Lib.join p [c]) [c] = p
  | [], h, _ => absurd rfl h
  | [x], _, h => by rw [Lib.join_one]; exact split_one x (h x (by simp))
  | x :: y :: p, _, h => by
    have ih := split_join (y :: p) (by simp) (fun z hz => h z (List.mem_cons_of_mem _ hz))
    have e : Lib.join (x :: y :: p) [c] = x ++ c :: Lib.join (y :: p) [c] := by
      rw [Lib.join_cons, Lib.join_cons]
      simp [Lib.joinTail]
    rw [e, split_app _ x (h x (by simp)), ih]

end Go.Proofs.YticcphppnmoogaaGreatDoor

namespace Go.Proofs.YticcphppnmoogaaGreatDoor
open Go.RowKit
attribute [local go_sem ↓] Go.wp_at_zero Go.wp_at_succ

def parseP (s : ByteArray) : List ByteArray := if cutF s = ⟨#[]⟩ then [] else partsF (cutF s)
def parseE (s : ByteArray) : Int := if 160 < s.size then 2 else if isAbs s = false then 10 else if rightB (parseP s) = true then 0 else 10
def ParsePost (w : World) (s : ByteArray) (e : Ending) (w' : World) : Prop :=
  Below w.heap.size w w' ∧ ((parseE s ≠ 0 ∧ e = .returned (.tuple #[.slice none 0 0, .int .i64 (parseE s)])) ∨
    (parseE s = 0 ∧ ∃ A c, e = .returned (.tuple #[.slice A (parseP s).length c, .int .i64 0]) ∧ w'.ownsRow w.heap.size 9 1 (.slice A (parseP s).length c) (parseP s).length (strV (parseP s))))

set_option maxRecDepth 100000 in
set_option maxHeartbeats 4000000 in
theorem parse_any (s : ByteArray) (w : World) (hs : s.size ≤ 1000000) (hM : Mx w) : Calls Tryz.prog 39 #[.string s] w (ParsePost w s) := by
  have HM := Sl.mk hM
  clear hM
  by_cases h160 : 160 < s.size
  · have HE := Sl.mk (show parseE s = 2 from if_pos h160)
    have hgt : (s.size : Int) > 160 := by omega
    clear h160
    go_enter Tryz.func39, Tryz.ntmps39
    go_wp2_with fail
    refine (cutp_any s _).mono ?_
    rintro e w1 ⟨rfl, rfl⟩
    go_wp2_with fail
    go_ret2
    exact ⟨Below.refl _ _, .inl ⟨by rw [HE.out]; decide, by rw [HE.out]; rfl⟩⟩
  · have hgt : ¬ (s.size : Int) > 160 := by omega
    cases hA : isAbs s
    · have HE := Sl.mk (show parseE s = 10 by unfold parseE; rw [if_neg h160, if_pos hA])
      clear h160
      go_enter Tryz.func39, Tryz.ntmps39
      go_wp2_with fail
      refine (cutp_any s _).mono ?_
      rintro e w1 ⟨rfl, rfl⟩
      rw [hA]
      go_wp2_with fail
      go_ret2
      exact ⟨Below.refl _ _, .inl ⟨by rw [HE.out]; decide, by rw [HE.out]; rfl⟩⟩
    · have hE0 : parseE s = if rightB (parseP s) = true then 0 else 10 := by unfold parseE; rw [if_neg h160, if_neg (by rw [hA]; decide)]
      have hcs := cutF_size s
      obtain ⟨C, hC⟩ : ∃ C, cutF s = C := ⟨_, rfl⟩
      have HC := Sl.mk hC
      by_cases h0 : C = ⟨#[]⟩
      · have hP : parseP s = [] := by unfold parseP; rw [hC, if_pos h0]
        have HE := Sl.mk (show parseE s = 0 by rw [hE0, hP]; decide)
        have HP := Sl.mk hP
        subst h0
        clear h160 hE0 hP hC hcs
        go_enter Tryz.func39, Tryz.ntmps39
        go_wp2_with fail
        refine (cutp_any s _).mono ?_
        rintro e w1 ⟨rfl, rfl⟩
        rw [hA, HC.out]
        go_wp2_with fail
        go_ret2
        exact ⟨Below.refl _ _, .inr ⟨HE.out, none, 0, by rw [HP.out]; rfl, by rw [HP.out]; exact World.ownsRow_nil _ _ _ _⟩⟩
      · have hP : parseP s = partsF C := by unfold parseP; rw [hC, if_neg h0]
        have HSP := Sl.mk (fun (W : World) (hW : Mx W) => split_any C W (by rw [← hC]; omega) hW)
        have hsz : ∀ x ∈ partsF C, x.size ≤ 9223372036854775807 := fun x hx => by have := partsF_size hx; rw [← hC] at this; omega
        have hpl : (partsF C).length ≤ 1000000 := by have := partsF_le C; rw [← hC] at this ⊢; omega
        rw [hP] at hE0
        have hne : (C.toList == []) = false := by have h := str_ne h0; rw [show (⟨#[]⟩ : ByteArray).toList = [] from by decide +kernel] at h; exact h
        have HP := Sl.mk hP
        have HE0 := Sl.mk hE0
        have HSZ := Sl.mk hsz
        clear h160 hE0 hP hC hcs hsz h0
        go_enter Tryz.func39, Tryz.ntmps39
        go_wp2_with fail
        refine (cutp_any s _).mono ?_
        rintro e w1 ⟨rfl, rfl⟩
        rw [hA, HC.out]
        go_wp2_with fail
        refine (HSP.out _ HM.out).mono ?_
        rintro e w2 ⟨rfl, rfl⟩
        have hown : (w1.alloc (.cells (strV (partsF C)).toArray 9)).ownsRow w1.heap.size 9 1 (.slice (some ⟨w1.heap.size, 0, none⟩) (partsF C).length (partsF C).length) (partsF C).length (strV (partsF C)) :=
          ⟨by rw [strV_len, Nat.mul_one], .inr ⟨w1.heap.size, (partsF C).length, (strV (partsF C)).toArray, rfl, Nat.le_refl _, heap_alloc_new w1 _, Nat.le_refl _, by unfold maxLen; omega, by simp [strV], List.take_of_length_le (by simp [strV])⟩⟩
        have HO := Sl.mk hown
        have HRT := Sl.mk (right_any _ _ (partsF C).length (partsF C) _ hpl HSZ.out (Reads.of_own hown))
        have HB := Sl.mk (below_al (Below.refl w1.heap.size w1) (.cells (strV (partsF C)).toArray 9))
        obtain ⟨Q, hQ⟩ : ∃ Q, partsF C = Q := ⟨_, rfl⟩
        rw [hQ] at HRT HO HB HP HE0 ⊢
        clear hown hQ HSZ hpl
        go_wp2_with fail
        refine HRT.out.mono ?_
        rintro e w2 ⟨rfl, rfl⟩
        cases eR : rightB Q
        · have HE := Sl.mk (show parseE s = 10 by rw [HE0.out, eR]; rfl)
          clear eR
          go_wp2_with fail
          go_ret2
          exact ⟨HB.out, .inl ⟨by rw [HE.out]; decide, by rw [HE.out]; rfl⟩⟩
        · have HE := Sl.mk (show parseE s = 0 by rw [HE0.out, eR]; rfl)
          clear eR
          go_wp2_with fail
          go_ret2
          exact ⟨HB.out, .inr ⟨HE.out, _, _, by rw [HP.out]; rfl, by rw [HP.out]; exact HO.out⟩⟩

end Go.Proofs.YticcphppnmoogaaGreatDoor

namespace Go.Proofs.YticcphppnmoogaaGreatDoor
open Go.RowKit

theorem ba_ext {s t : ByteArray} (h : s.data.toList = t.data.toList) : s = t := ByteArray.ext (Array.ext' h)
theorem parts_data (s : ByteArray) : (partsF s).map (·.data.toList) = Lib.split s.data.toList [47] := Lib.splitB_data ⟨#[47]⟩ 0 _ s
theorem map_data_inj : ∀ {p q : List ByteArray}, p.map (·.data.toList) = q.map (·.data.toList) → p = q
  | [], [], _ => rfl
  | [], _ :: _, h => by simp at h
  | _ :: _, [], h => by simp at h
  | s :: p, t :: q, h => by
    simp only [List.map_cons, List.cons.injEq] at h
    rw [ba_ext h.1, map_data_inj h.2]
theorem name_noslash {s : ByteArray} (h : nameB s = true) : (47 : UInt8) ∉ s.data.toList := fun hm => by
  unfold nameB at h
  simp only [Bool.and_eq_true, List.all_eq_true] at h
  have := h.2 47 hm
  revert this
  decide
theorem name_pos {s : ByteArray} (h : nameB s = true) : 1 ≤ s.size := by
  unfold nameB at h
  simp only [Bool.and_eq_true, decide_eq_true_eq] at h
  exact h.1.1.1.1
theorem parts_join {p : List ByteArray} (h : rightB p = true) (hp : p ≠ []) : partsF (joinF p) = p := by
  apply map_data_inj
  rw [parts_data]
  show Lib.split (Lib.join (p.map (·.data.toList)) [47]) [47] = _
  refine split_join _ (by simpa using hp) (fun x hx => ?_)
  obtain ⟨s, hs, rfl⟩ := List.mem_map.1 hx
  unfold rightB at h
  simp only [Bool.and_eq_true, List.all_eq_true] at h
  exact name_noslash (h.2 s hs)
theorem join_parts (s : ByteArray) : joinF (partsF s) = s := by
  apply ba_ext
  show Lib.join ((partsF s).map (·.data.toList)) [47] = _
  rw [parts_data, join_split]
theorem txt_data {p : List ByteArray} (hp : p ≠ []) : (txtF p).data.toList = 47 :: (joinF p).data.toList := by
  unfold txtF
  rw [if_neg hp]
  simp
theorem abs_slash (s : ByteArray) (r : List UInt8) (h : s.data.toList = 47 :: r) : isAbs s = true ∧ (cutF s).data.toList = r := by
  unfold isAbs cutF Lib.trimPrefix
  rw [h]
  simp [Lib.hasPrefix, List.isPrefixOf]
theorem abs_form {s : ByteArray} (h : isAbs s = true) : s.data.toList = 47 :: (cutF s).data.toList := by
  cases hs : s.data.toList with
  | nil => unfold isAbs at h; rw [hs] at h; simp [Lib.hasPrefix] at h
  | cons b r =>
    have hb : b = 47 := by
      unfold isAbs at h; rw [hs] at h
      simp [Lib.hasPrefix] at h
      exact h.symm
    subst hb
    rw [(abs_slash s r hs).2]

theorem parse_txt {p : List ByteArray} (h : rightB p = true) (hp : p ≠ []) (hs : (txtF p).size ≤ 160) : parseP (txtF p) = p ∧ parseE (txtF p) = 0 := by
  obtain ⟨h1, h2⟩ := abs_slash (txtF p) _ (txt_data hp)
  have h3 : cutF (txtF p) = joinF p := ba_ext h2
  have h4 : ¬ joinF p = ⟨#[]⟩ := fun e => by
    have h5 := parts_join h hp
    rw [e] at h5
    have h6 : partsF ⟨#[]⟩ = [⟨#[]⟩] := by decide +kernel
    rw [h6] at h5
    subst h5
    revert h; decide +kernel
  have h5 : parseP (txtF p) = p := by
    unfold parseP
    rw [h3, if_neg h4, parts_join h hp]
  refine ⟨h5, ?_⟩
  unfold parseE
  rw [if_neg (by omega), if_neg (by rw [h1]; decide), h5, if_pos h]
theorem txt_parse {S : ByteArray} (h : parseE S = 0) (hp : parseP S ≠ []) : txtF (parseP S) = S := by
  have hA : isAbs S = true := by
    unfold parseE at h
    split at h
    · cases h
    · split at h
      · cases h
      · rename_i h2; simpa using h2
  apply ba_ext
  rw [txt_data hp, abs_form hA]
  unfold parseP at hp ⊢
  split at hp
  · exact absurd rfl hp
  · rename_i h2
    rw [if_neg h2, join_parts]

end Go.Proofs.YticcphppnmoogaaGreatDoor

namespace Go.Proofs.YticcphppnmoogaaGreatDoor
open Go.RowKit

def bel (n lim : Int) : Bool := decide (0 ≤ n ∧ n < lim)

theorem below_any (n lim : Int) (w : World) :
    Calls Tryz.prog 107 #[.int .i64 n, .int .i64 lim] w fun e w' => e = .returned (.bool (bel n lim)) ∧ w = w' := by
  by_cases h : 0 ≤ n
  · by_cases h2 : n < lim
    · go_enter Tryz.func107, Tryz.ntmps107
      go_wp2
      go_ret
      exact ⟨by simp [bel, h, h2], rfl⟩
    · go_enter Tryz.func107, Tryz.ntmps107
      go_wp2
      go_ret
      exact ⟨by simp [bel, h, h2], rfl⟩
  · go_enter Tryz.func107, Tryz.ntmps107
    go_wp2
    go_ret
    exact ⟨ret_bool (by unfold bel; symm; rw [decide_eq_false_iff_not]; omega), rfl⟩

def chk (k m o g : Int) : Int := if bel k 5 = false then 17 else if bel m 4096 = false then 11 else if bel o 65536 = false then 1 else if bel g 65536 = false then 1 else 0

theorem check_any (k m o g : Int) (w : World) :
    Calls Tryz.prog 94 #[.agg #[.int .i64 k, .int .i64 m, .int .i64 o, .int .i64 g]] w fun e w' => e = .returned (.int .i64 (chk k m o g)) ∧ Below w.heap.size w w' := by
  cases hk : bel k 5
  · go_enter Tryz.func94, Tryz.ntmps94
    go_wp2_with (go_at_call 107; refine (below_any _ _ _).mono ?_; rintro e w' ⟨rfl, rfl⟩)
    go_ret
    exact ⟨by simp [chk, hk], (Below.refl _ _).alloc (Nat.le_refl _) _⟩
  cases hm : bel m 4096
  · go_enter Tryz.func94, Tryz.ntmps94
    go_wp2_with (go_at_call 107; refine (below_any _ _ _).mono ?_; rintro e w' ⟨rfl, rfl⟩)
    go_ret
    exact ⟨by simp [chk, hk, hm], (Below.refl _ _).alloc (Nat.le_refl _) _⟩
  cases ho : bel o 65536
  · go_enter Tryz.func94, Tryz.ntmps94
    go_wp2_with (go_at_call 107; refine (below_any _ _ _).mono ?_; rintro e w' ⟨rfl, rfl⟩)
    go_ret
    exact ⟨by simp [chk, hk, hm, ho], (Below.refl _ _).alloc (Nat.le_refl _) _⟩
  cases hg : bel g 65536
  · go_enter Tryz.func94, Tryz.ntmps94
    go_wp2_with (go_at_call 107; refine (below_any _ _ _).mono ?_; rintro e w' ⟨rfl, rfl⟩)
    go_ret
    exact ⟨by simp [chk, hk, hm, ho, hg], (Below.refl _ _).alloc (Nat.le_refl _) _⟩
  · go_enter Tryz.func94, Tryz.ntmps94
    go_wp2_with (go_at_call 107; refine (below_any _ _ _).mono ?_; rintro e w' ⟨rfl, rfl⟩)
    go_ret
    exact ⟨by simp [chk, hk, hm, ho, hg], (Below.refl _ _).alloc (Nat.le_refl _) _⟩

end Go.Proofs.YticcphppnmoogaaGreatDoor

namespace Go.Proofs.YticcphppnmoogaaGreatDoor
open Go.RowKit

def andB (x b : Int) : Bool := bits .and .i64 x b != 0
def refu (k m o g : Int) : Int :=
  if chk k m o g = 0 then (if k = 3 then 17 else if k = 4 then 17 else if andB m 3072 || ((k == 0 || k == 1) && andB m 18) then 11 else 0) else chk k m o g

theorem chk_k {k m o g : Int} (h : chk k m o g = 0) : 0 ≤ k ∧ k < 5 := by
  unfold chk at h
  by_cases h1 : bel k 5 = false
  · simp [h1] at h
  simpa [bel] using h1

theorem refusal_no (k m o g : Int) (w : World) (h : ¬ chk k m o g = 0) :
    Calls Tryz.prog 79 #[.agg #[.int .i64 k, .int .i64 m, .int .i64 o, .int .i64 g]] w fun e w' => e = .returned (.int .i64 (refu k m o g)) ∧ Below w.heap.size w w' := by
  have hr : refu k m o g = chk k m o g := if_neg h
  have hc : (chk k m o g != 0) = true := by simpa using h
  have HR := hide hr
  clear h hr
  go_enter Tryz.func79, Tryz.ntmps79
  go_wp2_with (go_at_call 94; refine (check_any _ _ _ _ _).mono ?_; rintro e w1 ⟨rfl, hb⟩)
  go_ret
  exact ⟨ret_int HR.out.symm, ((Below.refl _ _).alloc (Nat.le_refl _) _).trans (hb.mono (by simp))⟩

set_option maxHeartbeats 1000000 in
theorem refusal_yes (k m o g : Int) (w : World) (h : chk k m o g = 0) :
    Calls Tryz.prog 79 #[.agg #[.int .i64 k, .int .i64 m, .int .i64 o, .int .i64 g]] w fun e w' => e = .returned (.int .i64 (refu k m o g)) ∧ Below w.heap.size w w' := by
  have hc : (chk k m o g != 0) = false := by simpa using h
  have hk := chk_k h
  have hr : refu k m o g = if k = 3 then 17 else if k = 4 then 17 else if andB m 3072 || ((k == 0 || k == 1) && andB m 18) then 11 else 0 := if_pos h
  have HR := hide hr
  clear h hr
  have hk5 : k = 0 ∨ k = 1 ∨ k = 2 ∨ k = 3 ∨ k = 4 := by omega
  rcases hk5 with rfl | rfl | rfl | rfl | rfl
  all_goals
    cases e1 : (bits .and .i64 m 3072 != 0)
    all_goals
      cases e2 : (bits .and .i64 m 18 != 0)
      all_goals
        have f1 : andB m 3072 = _ := e1
        have f2 : andB m 18 = _ := e2
        have HF := hide (And.intro f1 f2)
        clear f1 f2
        go_enter Tryz.func79, Tryz.ntmps79
        go_wp2_with (go_at_call 94; refine (check_any _ _ _ _ _).mono ?_; rintro e w1 ⟨rfl, hb⟩; obtain ⟨hcc, -⟩ := bcell hb)
        go_ret
        exact ⟨ret_int (by rw [HR.out, (unhide HF).1, (unhide HF).2]; rfl), ((Below.refl _ _).alloc (Nat.le_refl _) _).trans (hb.mono (by simp))⟩

theorem refusal_any (k m o g : Int) (w : World) :
    Calls Tryz.prog 79 #[.agg #[.int .i64 k, .int .i64 m, .int .i64 o, .int .i64 g]] w fun e w' => e = .returned (.int .i64 (refu k m o g)) ∧ Below w.heap.size w w' := by
  by_cases h : chk k m o g = 0
  · exact refusal_yes k m o g w h
  · exact refusal_no k m o g w h

end Go.Proofs.YticcphppnmoogaaGreatDoor

namespace Go.Proofs.YticcphppnmoogaaGreatDoor
open Go.RowKit
attribute [local go_sem ↓] Go.wp_at_zero Go.wp_at_succ

/-- An entry. -/
structure En where
  path : List ByteArray
  kind : Int
  mode : Int
  data : List Nat
/-- .. with the headers of its two slices. -/
structure Ex where
  e : En
  pa : Option Addr
  pc : Nat
  da : Option Addr
  dc : Nat
def exC (x : Ex) : List Value := [.slice x.pa x.e.path.length x.pc, .int .i64 x.e.kind, .int .i64 x.e.mode, .slice x.da x.e.data.length x.dc]
theorem exC_len (x : Ex) : (exC x).length = 4 := rfl
theorem exC_one (x : Ex) : ∀ v ∈ exC x, v.oneCell' = true := by
  intro v hv
  simp only [exC, List.mem_cons, List.not_mem_nil, or_false] at hv
  rcases hv with rfl | rfl | rfl | rfl <;> rfl
def exsC (l : List Ex) : List Value := l.flatMap exC
theorem exsC_len (l : List Ex) : (exsC l).length = l.length * 4 := by
  induction l with
  | nil => rfl
  | cons r l ih => simp only [exsC, List.flatMap_cons, List.length_append, exC_len, List.length_cons] at *; omega
theorem exsC_one (l : List Ex) : ∀ v ∈ exsC l, v.oneCell' = true := by
  intro v hv
  obtain ⟨r, _, h⟩ := List.mem_flatMap.1 hv
  exact exC_one r v h
theorem exsC_at : ∀ (l : List Ex) (i : Nat) (r : Ex), l[i]? = some r → ∀ (j : Nat) (v : Value), (exC r)[j]? = some v → (exsC l)[i * 4 + j]? = some v
  | [], i, r, h, _, _, _ => by simp at h
  | x :: l, 0, r, h, j, v, hv => by
    simp at h; subst h
    have hj : j < (exC x).length := (List.getElem?_eq_some_iff.1 hv).1
    simp only [exsC, List.flatMap_cons, Nat.zero_mul, Nat.zero_add]
    rw [List.getElem?_append_left hj, hv]
  | x :: l, i + 1, r, h, j, v, hv => by
    have h' : l[i]? = some r := by simpa using h
    have e : (i + 1) * 4 + j = (exC x).length + (i * 4 + j) := by rw [exC_len]; omega
    simp only [exsC, List.flatMap_cons]
    rw [e, List.getElem?_append_right (by omega), Nat.add_sub_cancel_left]
    exact exsC_at l i r h' j v hv
theorem exsC_app (a b : List Ex) : exsC (a ++ b) = exsC a ++ exsC b := by simp [exsC]

/-- Its two slices read so. -/
structure ExOk (w : World) (B : Nat) (x : Ex) : Prop where
  path : Reads w B 1 x.pa x.e.path.length (strV x.e.path)
  data : Reads w B 1 x.da x.e.data.length (u8s x.e.data)
  pcap : x.e.path.length ≤ x.pc ∧ x.pc ≤ 9223372036854775807
  dcap : x.e.data.length ≤ x.dc ∧ x.dc ≤ 9223372036854775807
  plen : x.e.path.length ≤ 100
  slen : ∀ s ∈ x.e.path, s.size ≤ 1000
  dlen : x.e.data.length ≤ 100000
  byte : ∀ b ∈ x.e.data, b < 256
theorem ExOk.below {w w' : World} {B : Nat} {x : Ex} (h : ExOk w B x) (hb : Below B w w') : ExOk w' B x :=
  ⟨h.path.below hb, h.data.below hb, h.pcap, h.dcap, h.plen, h.slen, h.dlen, h.byte⟩
theorem ExOk.more {w : World} {B B' : Nat} {x : Ex} (h : ExOk w B x) (hb : B ≤ B') : ExOk w B' x :=
  ⟨h.path.more hb, h.data.more hb, h.pcap, h.dcap, h.plen, h.slen, h.dlen, h.byte⟩
theorem ExOk.be {w w' : World} {x : Ex} (h : ExOk w w.heap.size x) (hb : Below w.heap.size w w') : ExOk w' w'.heap.size x := (h.below hb).more hb.size

/-- A slice of entries. -/
structure Exs (w : World) (A : Option Addr) (n : Nat) (l : List Ex) : Prop where
  row : Reads w w.heap.size 4 A n (exsC l)
  ok : ∀ x ∈ l, ExOk w w.heap.size x
theorem Exs.n_ {w : World} {A : Option Addr} {n : Nat} {l : List Ex} (h : Exs w A n l) : l.length = n := by
  have hl := h.row.1
  rw [exsC_len] at hl
  omega
theorem Exs.be {w w' : World} {A : Option Addr} {n : Nat} {l : List Ex} (h : Exs w A n l) (hb : Below w.heap.size w w') : Exs w' A n l :=
  ⟨(h.row.below hb).more hb.size, fun x hx => (h.ok x hx).be hb⟩
theorem Exs.at_ {w : World} {A : Option Addr} {n : Nat} {l : List Ex} (h : Exs w A n l) {i : Nat} {x : Ex} (hi : l[i]? = some x) :
    ∃ ad, A = some ad ∧ ad.block < w.heap.size ∧ (∀ j v, (exC x)[j]? = some v → w.cell? ((ad.add (i * 4)).add j) = some v) ∧ ExOk w w.heap.size x := by
  have hl := h.n_
  have hil : i < l.length := (List.getElem?_eq_some_iff.1 hi).1
  obtain ⟨ad, e, hb, hc⟩ := h.row.2 (by omega)
  exact ⟨ad, e, hb, fun j v hv => by rw [add_of_add]; exact hc _ _ (exsC_at l i x hi j v hv), h.ok x (List.mem_of_getElem? hi)⟩
theorem exsC_take (l : List Ex) (k : Nat) : exsC (l.take k) = (exsC l).take (k * 4) := by
  induction l generalizing k with
  | nil => simp [exsC]
  | cons x l ih =>
    cases k with
    | zero => simp [exsC]
    | succ k =>
      have e : (k + 1) * 4 = (exC x).length + k * 4 := by rw [exC_len]; omega
      have h1 : exsC (x :: l) = exC x ++ exsC l := by simp [exsC]
      have h2 : exsC ((x :: l).take (k + 1)) = exC x ++ exsC (l.take k) := by simp [exsC]
      rw [h1, h2, e, List.take_length_add_append, ih]
theorem Exs.take_ {w : World} {A : Option Addr} {n k : Nat} {l : List Ex} (h : Exs w A n l) (hk : k ≤ n) : Exs w A k (l.take k) := by
  have hl := h.n_
  refine ⟨⟨by rw [exsC_len, List.length_take]; omega, fun hp => ?_⟩, fun x hx => h.ok x (List.mem_of_mem_take hx)⟩
  obtain ⟨ad, e, hb, hc⟩ := h.row.2 (by omega)
  refine ⟨ad, e, hb, fun j u hu => hc j u ?_⟩
  rw [exsC_take, List.getElem?_take] at hu
  split at hu
  · exact hu
  · cases hu

theorem enInfo : (Tryz.prog.info? 40).map (fun i => (i.zero, i.size, i.bytes)) = some (some (.agg #[.slice none 0 0, .int .i64 0, .int .i64 0, .slice none 0 0]), 4, 64) := by kernel_rfl
theorem enSize : (Tryz.prog.info? 40).map (·.size) = some 4 := by kernel_rfl

end Go.Proofs.YticcphppnmoogaaGreatDoor
