/-
  The contract of path.Lead.
-/
import Derived.Test.YticcphppnmoogaaDoorPthE
namespace Go.Proofs.YticcphppnmoogaaDoor
open Go.RowKit
attribute [local go_sem ↓] Go.wp_at_zero Go.wp_at_succ

def isAbs (s : ByteArray) : Bool := Lib.hasPrefix s.data.toList [47]
def cutF (s : ByteArray) : ByteArray := ⟨(Lib.trimPrefix s.data.toList [47]).toArray⟩
def partsF (s : ByteArray) : List ByteArray := Lib.splitB ⟨#[47]⟩ 0 (Lib.countB s ⟨#[47]⟩) s
def leadL : List ByteArray → List ByteArray → Option (List ByteArray)
  | p, [] => some p
  | p, s :: l => match stepF p s with
    | none => none
    | some q => leadL q l
def leadR (fr : List ByteArray) (s : ByteArray) : Option (List ByteArray) := if rightB fr = false ∨ 160 < s.size then none else leadL (if isAbs s = true then [] else fr) (partsF (cutF s))
def leadE (fr : List ByteArray) (s : ByteArray) : Int := if rightB fr = false then 10 else if 160 < s.size then 2 else if (leadR fr s).isSome = true then 0 else 10

theorem cutF_size (s : ByteArray) : (cutF s).size ≤ s.size := by
  show (Lib.trimPrefix s.data.toList [47]).toArray.size ≤ s.size
  unfold Lib.trimPrefix
  split
  · simp only [List.size_toArray, List.length_drop]
    have : s.data.toList.length = s.size := by simp
    omega
  · simp
theorem split_size (k : Nat) : ∀ s : ByteArray, ∀ x ∈ Lib.splitB ⟨#[47]⟩ 0 k s, x.size ≤ s.size := by
  induction k with
  | zero => intro s x hx; rw [Lib.splitB_zero] at hx; simp at hx; subst hx; exact Nat.le_refl _
  | succ k ih =>
    intro s x hx
    unfold Lib.splitB at hx
    split at hx
    · simp at hx; subst hx; exact Nat.le_refl _
    · rcases List.mem_cons.1 hx with rfl | hx
      · rw [ByteArray.size_extract]; omega
      · have := ih _ x hx
        rw [ByteArray.size_extract] at this
        omega
theorem partsF_size {s x : ByteArray} (h : x ∈ partsF s) : x.size ≤ s.size := split_size _ s x h
theorem partsF_len (s : ByteArray) : (partsF s).length = Lib.countB s ⟨#[47]⟩ + 1 := Lib.splitB_all ⟨#[47]⟩ (by decide) 0 _ s rfl
theorem partsF_le (s : ByteArray) : (partsF s).length ≤ s.size + 1 := by
  rw [partsF_len]
  have := Lib.countB_le ⟨#[47]⟩ (by decide) s.size s (Nat.le_refl _)
  omega

/-- The library's variable MaxLen holds some number. -/
def Mx (w : World) : Prop := ∃ m : Int, w.cell? ⟨2, 0, none⟩ = some (.int .i64 m)
theorem Mx.be {w w' : World} (h : Mx w) (hb : Below w.heap.size w w') : Mx w' := by
  obtain ⟨m, h⟩ := h
  exact ⟨m, (hb.cell (p := ⟨2, 0, none⟩) (cell_lt' h)).trans h⟩
theorem split_any (s : ByteArray) (w : World) (hs : s.size ≤ 1000000) (hM : Mx w) :
    Calls Tryd.prog 59 #[.string s, .string ⟨#[47]⟩] w fun e w' => e = .returned (.slice (some ⟨w.heap.size, 0, none⟩) (partsF s).length (partsF s).length) ∧ w' = w.alloc (.cells (strV (partsF s)).toArray 9) := by
  obtain ⟨m, hm⟩ := hM
  have h := strings_Split s ⟨#[47]⟩ m w (by omega) hm (by decide)
  rw [partsF_len]
  exact h
theorem cutp_any (s : ByteArray) (w : World) : Calls Tryd.prog 58 #[.string s, .string ⟨#[47]⟩] w fun e w' => e = .returned (.tuple #[.string (cutF s), .bool (isAbs s)]) ∧ w' = w := strings_CutPrefix s ⟨#[47]⟩ w

theorem ownNeLt' {w : World} {base n size : Nat} {e : TypeId} {v : Value} {xs : List Value} (h : w.ownsRow base e size v n xs) {g : Nat} (hg : w.heap.size ≤ g) : v.ownBlock ≠ some g := by
  rcases h.2 with ⟨rfl, _⟩ | ⟨g', cap, cur, rfl, hb, hh, _⟩
  · simp [Value.ownBlock]
  · intro e
    have e' : g' = g := by simpa [Value.ownBlock] using e
    have : g' < w.heap.size := Blk.lt (t := _) (cs := cur) hh
    omega

def LeadPost (w : World) (fr : List ByteArray) (s : ByteArray) (e : Ending) (w' : World) : Prop :=
  ∃ (A' : Option Addr) (k c' : Nat), e = .returned (.tuple #[.slice A' k c', .int .i64 (leadE fr s)]) ∧ Below w.heap.size w w' ∧ (leadR fr s = none → k = 0) ∧
    ∀ q, leadR fr s = some q → k = q.length ∧ k ≤ c' ∧ c' ≤ 9223372036854775807 ∧ q.length ≤ 8 ∧ Reads w' w'.heap.size 1 A' k (strV q)

theorem step_len {p q : List ByteArray} {s : ByteArray} (h : stepF p s = some q) (h8 : p.length ≤ 8) : q.length ≤ 8 := by
  unfold stepF at h
  split at h
  · injection h with h; subst h; exact h8
  · split at h
    · split at h
      · cases h
      · injection h with h; subst h; rw [List.length_dropLast]; omega
    · split at h
      · rename_i hc
        injection h with h; subst h; rw [List.length_append]; simp; omega
      · cases h

set_option maxHeartbeats 4000000 in
theorem lead_any (A : Option Addr) (n c : Nat) (fr : List ByteArray) (s : ByteArray) (w : World) (hn : n ≤ 1000) (hfs : ∀ x ∈ fr, x.size ≤ 1000000) (hss : s.size ≤ 1000000) (hR : Reads w w.heap.size 1 A n (strV fr)) (hM : Mx w) :
    Calls Tryd.prog 62 #[.slice A n c, .string s] w (LeadPost w fr s) := by
  have hl := strs_n hR
  have HRt := Sl.mk (right_any A n c fr w (by omega) (fun x hx => by have := hfs x hx; omega) hR)
  cases eR : rightB fr
  · have HE := Sl.mk (show leadE fr s = 10 by unfold leadE; rw [if_pos eR])
    have HR := Sl.mk (show leadR fr s = none by unfold leadR; rw [if_pos (.inl eR)])
    rw [eR] at HRt
    clear hR hM
    go_enter Tryd.func62, Tryd.ntmps62
    go_wp2_with fail
    refine HRt.out.mono ?_
    rintro e w' ⟨rfl, rfl⟩
    go_wp2_with fail
    go_ret2
    exact ⟨none, 0, 0, by rw [HE.out]; rfl, Below.refl _ _, fun _ => rfl, fun q hq => by rw [HR.out] at hq; cases hq⟩
  rw [eR] at HRt
  by_cases h160 : 160 < s.size
  · have HE := Sl.mk (show leadE fr s = 2 by unfold leadE; rw [if_neg (by rw [eR]; simp), if_pos h160])
    have HR := Sl.mk (show leadR fr s = none by unfold leadR; rw [if_pos (.inr h160)])
    have h160' : (160 : Int) < (s.size : Int) := by omega
    clear hR hM
    go_enter Tryd.func62, Tryd.ntmps62
    go_wp2_with fail
    refine HRt.out.mono ?_
    rintro e w' ⟨rfl, rfl⟩
    go_wp2_with fail
    go_ret2
    exact ⟨none, 0, 0, by rw [HE.out]; rfl, Below.refl _ _, fun _ => rfl, fun q hq => by rw [HR.out] at hq; cases hq⟩
  have h160' : ¬ (160 : Int) < (s.size : Int) := by omega
  have HE := Sl.mk (show leadE fr s = if (leadR fr s).isSome = true then 0 else 10 by unfold leadE; rw [if_neg (by rw [eR]; simp), if_neg h160])
  have HR := Sl.mk (show leadR fr s = leadL (if isAbs s = true then [] else fr) (partsF (cutF s)) by unfold leadR; rw [if_neg (by rw [eR]; simp; omega)])
  have h8 : fr.length ≤ 8 := by
    have : (decide (fr.length ≤ 8) && fr.all nameB) = true := eR
    simp only [Bool.and_eq_true, decide_eq_true_eq] at this
    exact this.1
  have HCL := Sl.mk (sclone_any A n c fr w (by omega) hR)
  have HM := Sl.mk hM
  have HL := Sl.mk hl
  have h8n : n ≤ 8 := by omega
  clear hR hM eR hl hfs
  go_enter Tryd.func62, Tryd.ntmps62
  go_wp2_with fail
  refine HRt.out.mono ?_
  rintro e w' ⟨rfl, rfl⟩
  go_wp2_with fail
  refine HCL.out.mono ?_
  rintro e w1 ⟨v1, rfl, hown1, hB1⟩
  obtain ⟨A1, c1, rfl⟩ := ownForm hown1
  go_wp2_with fail
  refine (cutp_any s _).mono ?_
  rintro e w2 ⟨rfl, rfl⟩
  obtain ⟨p0, hp0⟩ : ∃ p0, (if isAbs s = true then [] else fr) = p0 := ⟨_, rfl⟩
  obtain ⟨rs, hrs⟩ : ∃ rs, cutF s = rs := ⟨_, rfl⟩
  have hrsz : rs.size ≤ 160 := by rw [← hrs]; have := cutF_size s; omega
  rw [hp0, hrs] at HR
  rw [hrs]
  have HP0 := Sl.mk hp0
  clear hp0 hrs
  go_upto_if 26 with fail
  go_cut [6, 8] (fun v6 _ wx => ∃ A6 c6 n6, v6 = .slice A6 n6 c6 ∧ Sl (p0.length = n6) ∧ n6 ≤ 8 ∧ PP wx w.heap.size A6 c6 p0 ∧ Below w.heap.size w wx)
  case first =>
    cases eA : isAbs s
    · have hp : p0 = fr := by rw [← HP0.out, eA]; rfl
      have hown2 : w2.ownsRow w.heap.size 9 1 (.slice A1 fr.length c1) fr.length (strV fr) := by rw [HL.out]; exact hown1
      have HPP := Sl.mk (show PP w2 w.heap.size A1 c1 p0 by rw [hp]; exact PP.of_own hown2)
      have HN := Sl.mk (show p0.length = n by rw [hp]; exact HL.out)
      clear hp hown1 hown2
      go_wp2_with fail
      go_meet
      exact ⟨A1, c1, n, rfl, HN, h8n, HPP.out, hB1⟩
    · have hp : p0 = [] := by rw [← HP0.out, eA]; rfl
      have HPP := Sl.mk (show PP w2 w.heap.size none 0 p0 by rw [hp]; exact PP.of_own (World.ownsRow_nil _ _ _ _))
      have HN := Sl.mk (show p0.length = 0 by rw [hp]; rfl)
      clear hp hown1
      go_wp2_with fail
      go_meet
      exact ⟨none, 0, 0, rfl, HN, by omega, HPP.out, hB1⟩
  case rest =>
    obtain ⟨A6, c6, n6, rfl, HN6, hn6, hPP, hB6⟩ := hcut
    clear hown1 hB1
    have HMc := Sl.mk (HM.out.be hB6)
    go_wp2_with fail
    refine (split_any rs _ (by omega) HMc.out).mono ?_
    rintro e w3 ⟨rfl, hw3⟩
    have hBk : Blk w3 wc.heap.size 9 (strV (partsF rs)).toArray := by rw [hw3]; exact Blk.new _ _ _
    have hB3 : Below wc.heap.size wc w3 := by rw [hw3]; exact below_al (Below.refl _ _) _
    have hPP3 := hPP.below hB3
    have hE3 := below_tr hB6 hB3
    have hge := hB6.size
    have hnb : A6.map (·.block) ≠ some wc.heap.size := fun e => by
      rcases hPP.row with h | ⟨-, ad, rfl, -, h2, -⟩
      · have := (ownNeLt' h (Nat.le_refl wc.heap.size))
        rw [own_map] at this
        exact this e
      · have : ad.block = wc.heap.size := by simpa using e
        omega
    obtain ⟨Q, hQ⟩ : ∃ Q, partsF rs = Q := ⟨_, rfl⟩
    have hQs : ∀ x ∈ Q, x.size ≤ 160 := fun x hx => by rw [← hQ] at hx; have := partsF_size hx; omega
    have hQl : Q.length ≤ 161 := by rw [← hQ]; have := partsF_le rs; omega
    rw [hQ] at hBk HR
    rw [hQ]
    obtain ⟨k, hk⟩ : ∃ k, Q.length = k := ⟨_, rfl⟩
    have HK := Sl.mk hk
    rw [hk] at hQl
    rw [hk]
    have HQS := Sl.mk hQs
    obtain ⟨gb, hgb⟩ : ∃ gb, wc.heap.size = gb := ⟨_, rfl⟩
    rw [hgb] at hBk hnb hge
    rw [hgb]
    have HGE := Sl.mk hge
    clear hw3 hB3 hPP hB6 hQ hk hQs hgb HMc HM hge
    go_wp2_with fail
    go_loopw [6, 10, 11, 12, 30] (fun v6 _ _ _ v30 wr => ∃ (i : Nat) (A6 : Option Addr) (c6 n6 : Nat) (p : List ByteArray), i ≤ k ∧ v30 = .int .i64 i ∧ v6 = .slice A6 n6 c6 ∧ Sl (p.length = n6) ∧ n6 ≤ 8 ∧ Sl (leadR fr s = leadL p (Q.drop i)) ∧ PP wr w.heap.size A6 c6 p ∧
      Blk wr gb 9 (strV Q).toArray ∧ A6.map (·.block) ≠ some gb ∧ Below w.heap.size w wr) (fun _ _ _ _ v30 _ => k - (intOf v30).toNat)
    case atStart => exact ⟨0, A6, c6, n6, p0, Nat.zero_le _, rfl, rfl, HN6, hn6, ⟨HR.out⟩, hPP3, hBk, hnb, hE3⟩
    case round =>
      clear hPP3 hBk hnb hE3 HN6 hn6
      obtain ⟨i, A6, c6, n6, p, hi, rfl, rfl, HN6, hn6, HLd, hPP, hBk, hnb, hB⟩ := hrel
      by_cases hil : i < k
      · obtain ⟨nm, hnm⟩ : ∃ nm, Q[i]? = some nm := ⟨_, List.getElem?_eq_getElem (by rw [HK.out]; exact hil)⟩
        have hcell : wr.cell? ⟨gb, i, none⟩ = some (.string nm) := by rw [hBk.cell]; simpa using strV_at hnm
        have hnms := HQS.out nm (List.mem_of_getElem? hnm)
        have HD := Sl.mk (drop_cons1 hnm)
        have HST := Sl.mk (step_any w.heap.size A6 n6 c6 p nm wr HN6.out hn6 (by omega) hB.size hPP)
        have HPg := Sl.mk (fun g (hg : A6.map (·.block) = some g) => hPP.ge hg)
        have hbl := hBk.lt
        clear hnm
        go_wp2_with fail
        refine HST.out.mono ?_
        rintro e w4 ⟨A7, k7, c7, rfl, hg4, hnb4, hq⟩
        have hBk4 := hBk.grown hg4 (fun e => hnb e.symm)
        have hE4 : Below w.heap.size w w4 := hB.grown hg4 hB.size (fun q hq => HPg.out q hq)
        have hnb7 := hnb4 gb hbl hnb
        clear hPP hBk hg4 hnb4 hB hnb hcell hbl
        cases hS : stepF p nm with
        | none =>
          have HF := Sl.mk (show leadR fr s = none by rw [HLd.out, HD.out, leadL, hS])
          clear hq
          go_wp2_with fail
          go_ret2
          exact ⟨none, 0, 0, by rw [HE.out, HF.out]; rfl, hE4, fun _ => rfl, fun q hq => by rw [HF.out] at hq; cases hq⟩
        | some q =>
          have HF := Sl.mk (show leadR fr s = leadL q (Q.drop (i + 1)) by rw [HLd.out, HD.out, leadL, hS])
          obtain ⟨h1, h2⟩ := hq q hS
          have hql := step_len hS (by rw [HN6.out]; exact hn6)
          have HN7 := Sl.mk h1.symm
          have hk7 : k7 ≤ 8 := by omega
          clear hq h1 hql
          go_wp2_with fail
          go_roundw
          case rel => exact ⟨i + 1, A7, c7, k7, q, by omega, by go_num, rfl, HN7, hk7, HF, h2, hBk4, hnb7, hE4⟩
          case measure => simp [intOf]; omega
      · obtain rfl : i = k := by omega
        have HF := Sl.mk (show leadR fr s = some p by rw [HLd.out, List.drop_of_length_le (by rw [HK.out]; omega)]; rfl)
        have HPP := Sl.mk hPP
        clear hPP hBk hnb
        go_wp2_with fail
        go_ret2
        refine ⟨A6, n6, c6, by rw [HE.out, HF.out]; rfl, hB, (fun h => by rw [HF.out] at h; cases h), fun q hq => ?_⟩
        rw [HF.out] at hq
        injection hq with hq
        subst hq
        have hr := HPP.out.reads
        have hcap := HPP.out.cap
        rw [HN6.out] at hr hcap
        exact ⟨HN6.out.symm, hcap.1, hcap.2, by rw [HN6.out]; exact hn6, hr⟩

end Go.Proofs.YticcphppnmoogaaDoor
