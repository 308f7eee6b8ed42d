/-
  The contract of path.Lead.
  The contracts of package mode's small functions: each returns what the plain function of the same place says; of old memory nothing turns.
  The contract of mode.Refusal.
  Entries: what they are, and how they lie in memory.
  A region that draws its order: reads and quiet calls first, in any order; then a tail in which an operation either is the only one that may come up, or hands on a value without looking at the world.
-/
import Derived.Test.YticcphppnmoogaaDoorBm3
import Derived.Test.YticcphppnmoogaaDoorRows
import Derived.WalkKit
import Derived.WalkSpells
import Derived.WalkLawsBesides
import Derived.Test.YticcphppnmoogaaDoorBm1
import Derived.Test.YticcphppnmoogaaDoorBm2
import Derived.OrdersHeld

namespace Go.Proofs.YticcphppnmoogaaDoor
open Go.RowKit
attribute [local go_sem ↓] Go.wp_at_zero Go.wp_at_succ

def isAbs (s : ByteArray) : Bool := Lib.hasPrefix s.data.toList [47]
def cutF (s : ByteArray) : ByteArray := ⟨(Lib.trimPrefix s.data.toList [47]).toArray⟩
def partsF (s : ByteArray) : List ByteArray := Lib.splitB ⟨#[47]⟩ 0 (Lib.countB s ⟨#[47]⟩) s
def leadL : List ByteArray → List ByteArray → Option (List ByteArray)
  | p, [] => some p
  | p, s :: l => match stepF p s with
    | none => none
    | some q => leadL q l
def leadR (fr : List ByteArray) (s : ByteArray) : Option (List ByteArray) := if rightB fr = false ∨ 160 < s.size then none else leadL (if isAbs s = true then [] else fr) (partsF (cutF s))
def leadE (fr : List ByteArray) (s : ByteArray) : Int := if rightB fr = false then 10 else if 160 < s.size then 2 else if (leadR fr s).isSome = true then 0 else 10

theorem cutF_size (s : ByteArray) : (cutF s).size ≤ s.size := by
  show (Lib.trimPrefix s.data.toList [47]).toArray.size ≤ s.size
  unfold Lib.trimPrefix
  split
  · simp only [List.size_toArray, List.length_drop]
    have : s.data.toList.length = s.size := by simp
    omega
  · simp
theorem split_size (k : Nat) : ∀ s : ByteArray, ∀ x ∈ Lib.splitB ⟨#[47]⟩ 0 k s, x.size ≤ s.size := by
  induction k with
  | zero => intro s x hx; rw [Lib.splitB_zero] at hx; simp at hx; subst hx; exact Nat.le_refl _
  | succ k ih =>
    intro s x hx
    unfold Lib.splitB at hx
    split at hx
    · simp at hx; subst hx; exact Nat.le_refl _
    · rcases List.mem_cons.1 hx with rfl | hx
      · rw [ByteArray.size_extract]; omega
      · have := ih _ x hx
        rw [ByteArray.size_extract] at this
        omega
theorem partsF_size {s x : ByteArray} (h : x ∈ partsF s) : x.size ≤ s.size := split_size _ s x h
theorem partsF_len (s : ByteArray) : (partsF s).length = Lib.countB s ⟨#[47]⟩ + 1 := Lib.splitB_all ⟨#[47]⟩ (by decide) 0 _ s rfl
theorem partsF_le (s : ByteArray) : (partsF s).length ≤ s.size + 1 := by
  rw [partsF_len]
  have := Lib.countB_le ⟨#[47]⟩ (by decide) s.size s (Nat.le_refl _)
  omega

/-- The library's variable MaxLen holds some number. -/
def Mx (w : World) : Prop := ∃ m : Int, w.cell? ⟨2, 0, none⟩ = some (.int .i64 m)
theorem Mx.be {w w' : World} (h : Mx w) (hb : Below w.heap.size w w') : Mx w' := by
  obtain ⟨m, h⟩ := h
  exact ⟨m, (hb.cell (p := ⟨2, 0, none⟩) (cell_lt' h)).trans h⟩
theorem split_any (s : ByteArray) (w : World) (hs : s.size ≤ 1000000) (hM : Mx w) :
    Calls Tryd.prog 59 #[.string s, .string ⟨#[47]⟩] w fun e w' => e = .returned (.slice (some ⟨w.heap.size, 0, none⟩) (partsF s).length (partsF s).length) ∧ w' = w.alloc (.cells (strV (partsF s)).toArray 9) := by
  obtain ⟨m, hm⟩ := hM
  have h := strings_Split s ⟨#[47]⟩ m w (by omega) hm (by decide)
  rw [partsF_len]
  exact h
theorem cutp_any (s : ByteArray) (w : World) : Calls Tryd.prog 58 #[.string s, .string ⟨#[47]⟩] w fun e w' => e = .returned (.tuple #[.string (cutF s), .bool (isAbs s)]) ∧ w' = w := strings_CutPrefix s ⟨#[47]⟩ w

theorem ownNeLt' {w : World} {base n size : Nat} {e : TypeId} {v : Value} {xs : List Value} (h : w.ownsRow base e size v n xs) {g : Nat} (hg : w.heap.size ≤ g) : v.ownBlock ≠ some g := by
  rcases h.2 with ⟨rfl, _⟩ | ⟨g', cap, cur, rfl, hb, hh, _⟩
  · simp [Value.ownBlock]
  · intro e
    have e' : g' = g := by simpa [Value.ownBlock] using e
    have : g' < w.heap.size := Blk.lt (t := _) (cs := cur) hh
    omega

def LeadPost (w : World) (fr : List ByteArray) (s : ByteArray) (e : Ending) (w' : World) : Prop :=
  ∃ (A' : Option Addr) (k c' : Nat), e = .returned (.tuple #[.slice A' k c', .int .i64 (leadE fr s)]) ∧ Below w.heap.size w w' ∧ (leadR fr s = none → k = 0) ∧
    ∀ q, leadR fr s = some q → k = q.length ∧ k ≤ c' ∧ c' ≤ 9223372036854775807 ∧ q.length ≤ 8 ∧ Reads w' w'.heap.size 1 A' k (strV q)

theorem step_len {p q : List ByteArray} {s : ByteArray} (h : stepF p s = some q) (h8 : p.length ≤ 8) : q.length ≤ 8 := by
  unfold stepF at h
  split at h
  · injection h with h; subst h; exact h8
  · split at h
    · split at h
      · cases h
      · injection h with h; subst h; rw [List.length_dropLast]; omega
    · split at h
      · rename_i hc
        injection h with h; subst h; rw [List.length_append]; simp; omega
      · cases h

set_option maxHeartbeats 4000000 in
theorem lead_any (A : Option Addr) (n c : Nat) (fr : List ByteArray) (s : ByteArray) (w : World) (hn : n ≤ 1000) (hfs : ∀ x ∈ fr, x.size ≤ 1000000) (hss : s.size ≤ 1000000) (hR : Reads w w.heap.size 1 A n (strV fr)) (hM : Mx w) :
    Calls Tryd.prog 62 #[.slice A n c, .string s] w (LeadPost w fr s) := by
  have hl := strs_n hR
  have HRt := Sl.mk (right_any A n c fr w (by omega) (fun x hx => by have := hfs x hx; omega) hR)
  cases eR : rightB fr
  · have HE := Sl.mk (show leadE fr s = 10 by unfold leadE; rw [if_pos eR])
    have HR := Sl.mk (show leadR fr s = none by unfold leadR; rw [if_pos (.inl eR)])
    rw [eR] at HRt
    clear hR hM
    go_enter Tryd.func62, Tryd.ntmps62
    go_wp2_with fail
    refine HRt.out.mono ?_
    rintro e w' ⟨rfl, rfl⟩
    go_wp2_with fail
    go_ret2
    exact ⟨none, 0, 0, by rw [HE.out]; rfl, Below.refl _ _, fun _ => rfl, fun q hq => by rw [HR.out] at hq; cases hq⟩
  rw [eR] at HRt
  by_cases h160 : 160 < s.size
  · have HE := Sl.mk (show leadE fr s = 2 by unfold leadE; rw [if_neg (by rw [eR]; simp), if_pos h160])
    have HR := Sl.mk (show leadR fr s = none by unfold leadR; rw [if_pos (.inr h160)])
    have h160' : (160 : Int) < (s.size : Int) := by omega
    clear hR hM
    go_enter Tryd.func62, Tryd.ntmps62
    go_wp2_with fail
    refine HRt.out.mono ?_
    rintro e w' ⟨rfl, rfl⟩
    go_wp2_with fail
    go_ret2
    exact ⟨none, 0, 0, by rw [HE.out]; rfl, Below.refl _ _, fun _ => rfl, fun q hq => by rw [HR.out] at hq; cases hq⟩
  have h160' : ¬ (160 : Int) < (s.size : Int) := by omega
  have HE := Sl.mk (show leadE fr s = if (leadR fr s).isSome = true then 0 else 10 by unfold leadE; rw [if_neg (by rw [eR]; simp), if_neg h160])
  have HR := Sl.mk (show leadR fr s = leadL (if isAbs s = true then [] else fr) (partsF (cutF s)) by unfold leadR; rw [if_neg (by rw [eR]; simp; omega)])
  have h8 : fr.length ≤ 8 := by
    have : (decide (fr.length ≤ 8) && fr.all nameB) = true := eR
    simp only [Bool.and_eq_true, decide_eq_true_eq] at this
    exact this.1
  have HCL := Sl.mk (sclone_any A n c fr w (by omega) hR)
  have HM := Sl.mk hM
  have HL := Sl.mk hl
  have h8n : n ≤ 8 := by omega
  clear hR hM eR hl hfs
  go_enter Tryd.func62, Tryd.ntmps62
  go_wp2_with fail
  refine HRt.out.mono ?_
  rintro e w' ⟨rfl, rfl⟩
  go_wp2_with fail
  refine HCL.out.mono ?_
  rintro e w1 ⟨v1, rfl, hown1, hB1⟩
  obtain ⟨A1, c1, rfl⟩ := ownForm hown1
  go_wp2_with fail
  refine (cutp_any s _).mono ?_
  rintro e w2 ⟨rfl, rfl⟩
  obtain ⟨p0, hp0⟩ : ∃ p0, (if isAbs s = true then [] else fr) = p0 := ⟨_, rfl⟩
  obtain ⟨rs, hrs⟩ : ∃ rs, cutF s = rs := ⟨_, rfl⟩
  have hrsz : rs.size ≤ 160 := by rw [← hrs]; have := cutF_size s; omega
  rw [hp0, hrs] at HR
  rw [hrs]
  have HP0 := Sl.mk hp0
  clear hp0 hrs
  go_upto_if 26 with fail
  go_cut [6, 8] (fun v6 _ wx => ∃ A6 c6 n6, v6 = .slice A6 n6 c6 ∧ Sl (p0.length = n6) ∧ n6 ≤ 8 ∧ PP wx w.heap.size A6 c6 p0 ∧ Below w.heap.size w wx)
  case first =>
    cases eA : isAbs s
    · have hp : p0 = fr := by rw [← HP0.out, eA]; rfl
      have hown2 : w2.ownsRow w.heap.size 9 1 (.slice A1 fr.length c1) fr.length (strV fr) := by rw [HL.out]; exact hown1
      have HPP := Sl.mk (show PP w2 w.heap.size A1 c1 p0 by rw [hp]; exact PP.of_own hown2)
      have HN := Sl.mk (show p0.length = n by rw [hp]; exact HL.out)
      clear hp hown1 hown2
      go_wp2_with fail
      go_meet
      exact ⟨A1, c1, n, rfl, HN, h8n, HPP.out, hB1⟩
    · have hp : p0 = [] := by rw [← HP0.out, eA]; rfl
      have HPP := Sl.mk (show PP w2 w.heap.size none 0 p0 by rw [hp]; exact PP.of_own (World.ownsRow_nil _ _ _ _))
      have HN := Sl.mk (show p0.length = 0 by rw [hp]; rfl)
      clear hp hown1
      go_wp2_with fail
      go_meet
      exact ⟨none, 0, 0, rfl, HN, by omega, HPP.out, hB1⟩
  case rest =>
    obtain ⟨A6, c6, n6, rfl, HN6, hn6, hPP, hB6⟩ := hcut
    clear hown1 hB1
    have HMc := Sl.mk (HM.out.be hB6)
    go_wp2_with fail
    refine (split_any rs _ (by omega) HMc.out).mono ?_
    rintro e w3 ⟨rfl, hw3⟩
    have hBk : Blk w3 wc.heap.size 9 (strV (partsF rs)).toArray := by rw [hw3]; exact Blk.new _ _ _
    have hB3 : Below wc.heap.size wc w3 := by rw [hw3]; exact below_al (Below.refl _ _) _
    have hPP3 := hPP.below hB3
    have hE3 := below_tr hB6 hB3
    have hge := hB6.size
    have hnb : A6.map (·.block) ≠ some wc.heap.size := fun e => by
      rcases hPP.row with h | ⟨-, ad, rfl, -, h2, -⟩
      · have := (ownNeLt' h (Nat.le_refl wc.heap.size))
        rw [own_map] at this
        exact this e
      · have : ad.block = wc.heap.size := by simpa using e
        omega
    obtain ⟨Q, hQ⟩ : ∃ Q, partsF rs = Q := ⟨_, rfl⟩
    have hQs : ∀ x ∈ Q, x.size ≤ 160 := fun x hx => by rw [← hQ] at hx; have := partsF_size hx; omega
    have hQl : Q.length ≤ 161 := by rw [← hQ]; have := partsF_le rs; omega
    rw [hQ] at hBk HR
    rw [hQ]
    obtain ⟨k, hk⟩ : ∃ k, Q.length = k := ⟨_, rfl⟩
    have HK := Sl.mk hk
    rw [hk] at hQl
    rw [hk]
    have HQS := Sl.mk hQs
    obtain ⟨gb, hgb⟩ : ∃ gb, wc.heap.size = gb := ⟨_, rfl⟩
    rw [hgb] at hBk hnb hge
    rw [hgb]
    have HGE := Sl.mk hge
    clear hw3 hB3 hPP hB6 hQ hk hQs hgb HMc HM hge
    go_wp2_with fail
    go_loopw [6, 10, 11, 12, 30] (fun v6 _ _ _ v30 wr => ∃ (i : Nat) (A6 : Option Addr) (c6 n6 : Nat) (p : List ByteArray), i ≤ k ∧ v30 = .int .i64 i ∧ v6 = .slice A6 n6 c6 ∧ Sl (p.length = n6) ∧ n6 ≤ 8 ∧ Sl (leadR fr s = leadL p (Q.drop i)) ∧ PP wr w.heap.size A6 c6 p ∧
      Blk wr gb 9 (strV Q).toArray ∧ A6.map (·.block) ≠ some gb ∧ Below w.heap.size w wr) (fun _ _ _ _ v30 _ => k - (intOf v30).toNat)
    case atStart => exact ⟨0, A6, c6, n6, p0, Nat.zero_le _, rfl, rfl, HN6, hn6, ⟨HR.out⟩, hPP3, hBk, hnb, hE3⟩
    case round =>
      clear hPP3 hBk hnb hE3 HN6 hn6
      obtain ⟨i, A6, c6, n6, p, hi, rfl, rfl, HN6, hn6, HLd, hPP, hBk, hnb, hB⟩ := hrel
      by_cases hil : i < k
      · obtain ⟨nm, hnm⟩ : ∃ nm, Q[i]? = some nm := ⟨_, List.getElem?_eq_getElem (by rw [HK.out]; exact hil)⟩
        have hcell : wr.cell? ⟨gb, i, none⟩ = some (.string nm) := by rw [hBk.cell]; simpa using strV_at hnm
        have hnms := HQS.out nm (List.mem_of_getElem? hnm)
        have HD := Sl.mk (drop_cons1 hnm)
        have HST := Sl.mk (step_any w.heap.size A6 n6 c6 p nm wr HN6.out hn6 (by omega) hB.size hPP)
        have HPg := Sl.mk (fun g (hg : A6.map (·.block) = some g) => hPP.ge hg)
        have hbl := hBk.lt
        clear hnm
        go_wp2_with fail
        refine HST.out.mono ?_
        rintro e w4 ⟨A7, k7, c7, rfl, hg4, hnb4, hq⟩
        have hBk4 := hBk.grown hg4 (fun e => hnb e.symm)
        have hE4 : Below w.heap.size w w4 := hB.grown hg4 hB.size (fun q hq => HPg.out q hq)
        have hnb7 := hnb4 gb hbl hnb
        clear hPP hBk hg4 hnb4 hB hnb hcell hbl
        cases hS : stepF p nm with
        | none =>
          have HF := Sl.mk (show leadR fr s = none by rw [HLd.out, HD.out, leadL, hS])
          clear hq
          go_wp2_with fail
          go_ret2
          exact ⟨none, 0, 0, by rw [HE.out, HF.out]; rfl, hE4, fun _ => rfl, fun q hq => by rw [HF.out] at hq; cases hq⟩
        | some q =>
          have HF := Sl.mk (show leadR fr s = leadL q (Q.drop (i + 1)) by rw [HLd.out, HD.out, leadL, hS])
          obtain ⟨h1, h2⟩ := hq q hS
          have hql := step_len hS (by rw [HN6.out]; exact hn6)
          have HN7 := Sl.mk h1.symm
          have hk7 : k7 ≤ 8 := by omega
          clear hq h1 hql
          go_wp2_with fail
          go_roundw
          case rel => exact ⟨i + 1, A7, c7, k7, q, by omega, by go_num, rfl, HN7, hk7, HF, h2, hBk4, hnb7, hE4⟩
          case measure => simp [intOf]; omega
      · obtain rfl : i = k := by omega
        have HF := Sl.mk (show leadR fr s = some p by rw [HLd.out, List.drop_of_length_le (by rw [HK.out]; omega)]; rfl)
        have HPP := Sl.mk hPP
        clear hPP hBk hnb
        go_wp2_with fail
        go_ret2
        refine ⟨A6, n6, c6, by rw [HE.out, HF.out]; rfl, hB, (fun h => by rw [HF.out] at h; cases h), fun q hq => ?_⟩
        rw [HF.out] at hq
        injection hq with hq
        subst hq
        have hr := HPP.out.reads
        have hcap := HPP.out.cap
        rw [HN6.out] at hr hcap
        exact ⟨HN6.out.symm, hcap.1, hcap.2, by rw [HN6.out]; exact hn6, hr⟩

end Go.Proofs.YticcphppnmoogaaDoor

namespace Go.Proofs.YticcphppnmoogaaDoor
open Go.RowKit

def bel (n lim : Int) : Bool := decide (0 ≤ n ∧ n < lim)

theorem below_any (n lim : Int) (w : World) :
    Calls Tryd.prog 85 #[.int .i64 n, .int .i64 lim] w fun e w' => e = .returned (.bool (bel n lim)) ∧ w = w' := by
  by_cases h : 0 ≤ n
  · by_cases h2 : n < lim
    · go_enter Tryd.func85, Tryd.ntmps85
      go_wp2
      go_ret
      exact ⟨by simp [bel, h, h2], rfl⟩
    · go_enter Tryd.func85, Tryd.ntmps85
      go_wp2
      go_ret
      exact ⟨by simp [bel, h, h2], rfl⟩
  · go_enter Tryd.func85, Tryd.ntmps85
    go_wp2
    go_ret
    exact ⟨ret_bool (by unfold bel; symm; rw [decide_eq_false_iff_not]; omega), rfl⟩

def chk (k m o g : Int) : Int := if bel k 5 = false then 17 else if bel m 4096 = false then 11 else if bel o 65536 = false then 1 else if bel g 65536 = false then 1 else 0

theorem check_any (k m o g : Int) (w : World) :
    Calls Tryd.prog 75 #[.agg #[.int .i64 k, .int .i64 m, .int .i64 o, .int .i64 g]] w fun e w' => e = .returned (.int .i64 (chk k m o g)) ∧ Below w.heap.size w w' := by
  cases hk : bel k 5
  · go_enter Tryd.func75, Tryd.ntmps75
    go_wp2_with (go_at_call 85; refine (below_any _ _ _).mono ?_; rintro e w' ⟨rfl, rfl⟩)
    go_ret
    exact ⟨by simp [chk, hk], (Below.refl _ _).alloc (Nat.le_refl _) _⟩
  cases hm : bel m 4096
  · go_enter Tryd.func75, Tryd.ntmps75
    go_wp2_with (go_at_call 85; refine (below_any _ _ _).mono ?_; rintro e w' ⟨rfl, rfl⟩)
    go_ret
    exact ⟨by simp [chk, hk, hm], (Below.refl _ _).alloc (Nat.le_refl _) _⟩
  cases ho : bel o 65536
  · go_enter Tryd.func75, Tryd.ntmps75
    go_wp2_with (go_at_call 85; refine (below_any _ _ _).mono ?_; rintro e w' ⟨rfl, rfl⟩)
    go_ret
    exact ⟨by simp [chk, hk, hm, ho], (Below.refl _ _).alloc (Nat.le_refl _) _⟩
  cases hg : bel g 65536
  · go_enter Tryd.func75, Tryd.ntmps75
    go_wp2_with (go_at_call 85; refine (below_any _ _ _).mono ?_; rintro e w' ⟨rfl, rfl⟩)
    go_ret
    exact ⟨by simp [chk, hk, hm, ho, hg], (Below.refl _ _).alloc (Nat.le_refl _) _⟩
  · go_enter Tryd.func75, Tryd.ntmps75
    go_wp2_with (go_at_call 85; refine (below_any _ _ _).mono ?_; rintro e w' ⟨rfl, rfl⟩)
    go_ret
    exact ⟨by simp [chk, hk, hm, ho, hg], (Below.refl _ _).alloc (Nat.le_refl _) _⟩

end Go.Proofs.YticcphppnmoogaaDoor

namespace Go.Proofs.YticcphppnmoogaaDoor
open Go.RowKit

def andB (x b : Int) : Bool := bits .and .i64 x b != 0
def refu (k m o g : Int) : Int :=
  if chk k m o g = 0 then (if k = 3 then 17 else if k = 4 then 17 else if andB m 3072 || ((k == 0 || k == 1) && andB m 18) then 11 else 0) else chk k m o g

theorem chk_k {k m o g : Int} (h : chk k m o g = 0) : 0 ≤ k ∧ k < 5 := by
  unfold chk at h
  by_cases h1 : bel k 5 = false
  · simp [h1] at h
  simpa [bel] using h1

theorem refusal_no (k m o g : Int) (w : World) (h : ¬ chk k m o g = 0) :
    Calls Tryd.prog 61 #[.agg #[.int .i64 k, .int .i64 m, .int .i64 o, .int .i64 g]] w fun e w' => e = .returned (.int .i64 (refu k m o g)) ∧ Below w.heap.size w w' := by
  have hr : refu k m o g = chk k m o g := if_neg h
  have hc : (chk k m o g != 0) = true := by simpa using h
  have HR := hide hr
  clear h hr
  go_enter Tryd.func61, Tryd.ntmps61
  go_wp2_with (go_at_call 75; refine (check_any _ _ _ _ _).mono ?_; rintro e w1 ⟨rfl, hb⟩)
  go_ret
  exact ⟨ret_int HR.out.symm, ((Below.refl _ _).alloc (Nat.le_refl _) _).trans (hb.mono (by simp))⟩

set_option maxHeartbeats 1000000 in
theorem refusal_yes (k m o g : Int) (w : World) (h : chk k m o g = 0) :
    Calls Tryd.prog 61 #[.agg #[.int .i64 k, .int .i64 m, .int .i64 o, .int .i64 g]] w fun e w' => e = .returned (.int .i64 (refu k m o g)) ∧ Below w.heap.size w w' := by
  have hc : (chk k m o g != 0) = false := by simpa using h
  have hk := chk_k h
  have hr : refu k m o g = if k = 3 then 17 else if k = 4 then 17 else if andB m 3072 || ((k == 0 || k == 1) && andB m 18) then 11 else 0 := if_pos h
  have HR := hide hr
  clear h hr
  have hk5 : k = 0 ∨ k = 1 ∨ k = 2 ∨ k = 3 ∨ k = 4 := by omega
  rcases hk5 with rfl | rfl | rfl | rfl | rfl
  all_goals
    cases e1 : (bits .and .i64 m 3072 != 0)
    all_goals
      cases e2 : (bits .and .i64 m 18 != 0)
      all_goals
        have f1 : andB m 3072 = _ := e1
        have f2 : andB m 18 = _ := e2
        have HF := hide (And.intro f1 f2)
        clear f1 f2
        go_enter Tryd.func61, Tryd.ntmps61
        go_wp2_with (go_at_call 75; refine (check_any _ _ _ _ _).mono ?_; rintro e w1 ⟨rfl, hb⟩; obtain ⟨hcc, -⟩ := bcell hb)
        go_ret
        exact ⟨ret_int (by rw [HR.out, (unhide HF).1, (unhide HF).2]; rfl), ((Below.refl _ _).alloc (Nat.le_refl _) _).trans (hb.mono (by simp))⟩

theorem refusal_any (k m o g : Int) (w : World) :
    Calls Tryd.prog 61 #[.agg #[.int .i64 k, .int .i64 m, .int .i64 o, .int .i64 g]] w fun e w' => e = .returned (.int .i64 (refu k m o g)) ∧ Below w.heap.size w w' := by
  by_cases h : chk k m o g = 0
  · exact refusal_yes k m o g w h
  · exact refusal_no k m o g w h

end Go.Proofs.YticcphppnmoogaaDoor

namespace Go.Proofs.YticcphppnmoogaaDoor
open Go.RowKit
attribute [local go_sem ↓] Go.wp_at_zero Go.wp_at_succ

/-- An entry. -/
structure En where
  path : List ByteArray
  kind : Int
  mode : Int
  data : List Nat
/-- .. with the headers of its two slices. -/
structure Ex where
  e : En
  pa : Option Addr
  pc : Nat
  da : Option Addr
  dc : Nat
def exC (x : Ex) : List Value := [.slice x.pa x.e.path.length x.pc, .int .i64 x.e.kind, .int .i64 x.e.mode, .slice x.da x.e.data.length x.dc]
theorem exC_len (x : Ex) : (exC x).length = 4 := rfl
theorem exC_one (x : Ex) : ∀ v ∈ exC x, v.oneCell' = true := by
  intro v hv
  simp only [exC, List.mem_cons, List.not_mem_nil, or_false] at hv
  rcases hv with rfl | rfl | rfl | rfl <;> rfl
def exsC (l : List Ex) : List Value := l.flatMap exC
theorem exsC_len (l : List Ex) : (exsC l).length = l.length * 4 := by
  induction l with
  | nil => rfl
  | cons r l ih => simp only [exsC, List.flatMap_cons, List.length_append, exC_len, List.length_cons] at *; omega
theorem exsC_one (l : List Ex) : ∀ v ∈ exsC l, v.oneCell' = true := by
  intro v hv
  obtain ⟨r, _, h⟩ := List.mem_flatMap.1 hv
  exact exC_one r v h
theorem exsC_at : ∀ (l : List Ex) (i : Nat) (r : Ex), l[i]? = some r → ∀ (j : Nat) (v : Value), (exC r)[j]? = some v → (exsC l)[i * 4 + j]? = some v
  | [], i, r, h, _, _, _ => by simp at h
  | x :: l, 0, r, h, j, v, hv => by
    simp at h; subst h
    have hj : j < (exC x).length := (List.getElem?_eq_some_iff.1 hv).1
    simp only [exsC, List.flatMap_cons, Nat.zero_mul, Nat.zero_add]
    rw [List.getElem?_append_left hj, hv]
  | x :: l, i + 1, r, h, j, v, hv => by
    have h' : l[i]? = some r := by simpa using h
    have e : (i + 1) * 4 + j = (exC x).length + (i * 4 + j) := by rw [exC_len]; omega
    simp only [exsC, List.flatMap_cons]
    rw [e, List.getElem?_append_right (by omega), Nat.add_sub_cancel_left]
    exact exsC_at l i r h' j v hv
theorem exsC_app (a b : List Ex) : exsC (a ++ b) = exsC a ++ exsC b := by simp [exsC]

/-- Its two slices read so. -/
structure ExOk (w : World) (B : Nat) (x : Ex) : Prop where
  path : Reads w B 1 x.pa x.e.path.length (strV x.e.path)
  data : Reads w B 1 x.da x.e.data.length (u8s x.e.data)
  pcap : x.e.path.length ≤ x.pc ∧ x.pc ≤ 9223372036854775807
  dcap : x.e.data.length ≤ x.dc ∧ x.dc ≤ 9223372036854775807
  plen : x.e.path.length ≤ 100
  slen : ∀ s ∈ x.e.path, s.size ≤ 1000
  dlen : x.e.data.length ≤ 100000
  byte : ∀ b ∈ x.e.data, b < 256
theorem ExOk.below {w w' : World} {B : Nat} {x : Ex} (h : ExOk w B x) (hb : Below B w w') : ExOk w' B x :=
  ⟨h.path.below hb, h.data.below hb, h.pcap, h.dcap, h.plen, h.slen, h.dlen, h.byte⟩
theorem ExOk.more {w : World} {B B' : Nat} {x : Ex} (h : ExOk w B x) (hb : B ≤ B') : ExOk w B' x :=
  ⟨h.path.more hb, h.data.more hb, h.pcap, h.dcap, h.plen, h.slen, h.dlen, h.byte⟩
theorem ExOk.be {w w' : World} {x : Ex} (h : ExOk w w.heap.size x) (hb : Below w.heap.size w w') : ExOk w' w'.heap.size x := (h.below hb).more hb.size

/-- A slice of entries. -/
structure Exs (w : World) (A : Option Addr) (n : Nat) (l : List Ex) : Prop where
  row : Reads w w.heap.size 4 A n (exsC l)
  ok : ∀ x ∈ l, ExOk w w.heap.size x
theorem Exs.n_ {w : World} {A : Option Addr} {n : Nat} {l : List Ex} (h : Exs w A n l) : l.length = n := by
  have hl := h.row.1
  rw [exsC_len] at hl
  omega
theorem Exs.be {w w' : World} {A : Option Addr} {n : Nat} {l : List Ex} (h : Exs w A n l) (hb : Below w.heap.size w w') : Exs w' A n l :=
  ⟨(h.row.below hb).more hb.size, fun x hx => (h.ok x hx).be hb⟩
theorem Exs.at_ {w : World} {A : Option Addr} {n : Nat} {l : List Ex} (h : Exs w A n l) {i : Nat} {x : Ex} (hi : l[i]? = some x) :
    ∃ ad, A = some ad ∧ ad.block < w.heap.size ∧ (∀ j v, (exC x)[j]? = some v → w.cell? ((ad.add (i * 4)).add j) = some v) ∧ ExOk w w.heap.size x := by
  have hl := h.n_
  have hil : i < l.length := (List.getElem?_eq_some_iff.1 hi).1
  obtain ⟨ad, e, hb, hc⟩ := h.row.2 (by omega)
  exact ⟨ad, e, hb, fun j v hv => by rw [add_of_add]; exact hc _ _ (exsC_at l i x hi j v hv), h.ok x (List.mem_of_getElem? hi)⟩
theorem exsC_take (l : List Ex) (k : Nat) : exsC (l.take k) = (exsC l).take (k * 4) := by
  induction l generalizing k with
  | nil => simp [exsC]
  | cons x l ih =>
    cases k with
    | zero => simp [exsC]
    | succ k =>
      have e : (k + 1) * 4 = (exC x).length + k * 4 := by rw [exC_len]; omega
      have h1 : exsC (x :: l) = exC x ++ exsC l := by simp [exsC]
      have h2 : exsC ((x :: l).take (k + 1)) = exC x ++ exsC (l.take k) := by simp [exsC]
      rw [h1, h2, e, List.take_length_add_append, ih]
theorem Exs.take_ {w : World} {A : Option Addr} {n k : Nat} {l : List Ex} (h : Exs w A n l) (hk : k ≤ n) : Exs w A k (l.take k) := by
  have hl := h.n_
  refine ⟨⟨by rw [exsC_len, List.length_take]; omega, fun hp => ?_⟩, fun x hx => h.ok x (List.mem_of_mem_take hx)⟩
  obtain ⟨ad, e, hb, hc⟩ := h.row.2 (by omega)
  refine ⟨ad, e, hb, fun j u hu => hc j u ?_⟩
  rw [exsC_take, List.getElem?_take] at hu
  split at hu
  · exact hu
  · cases hu

theorem enInfo : (Tryd.prog.info? 34).map (fun i => (i.zero, i.size, i.bytes)) = some (some (.agg #[.slice none 0 0, .int .i64 0, .int .i64 0, .slice none 0 0]), 4, 64) := by kernel_rfl
theorem enSize : (Tryd.prog.info? 34).map (·.size) = some 4 := by kernel_rfl

end Go.Proofs.YticcphppnmoogaaDoor

namespace Go.Proofs.YticcphppnmoogaaDoor
open Go

section
variable {P : Program} {ops : Array Oper} {md : Region.Mode}

/-- Each operation of the tail waits for an earlier one of the tail. -/
def tailB (md : Region.Mode) (ops : Array Oper) (n : Nat) : Bool :=
  (List.range ops.size).all fun t => decide (t ≤ n) || (List.range t).any fun j => decide (n ≤ j) && Region.waitsFor md ops t j

theorem head_first {n : Nat} {listed : Array Bool} (hs : Region.sinkB md ops n = true) (hc : tailB md ops n = true) (inv : HeadInv md ops n listed) {i : Nat} (hi : i < n) (hun : listed.getD i true = false) : ∀ t, n ≤ t → t ∉ Region.ready md ops listed := by
  have hclosed : ∀ j k oj, ops[j]? = some oj → Region.waitsFor md ops j k = true → listed.getD j true = false ∨ listed.getD k false = true := fun j k oj hj hw => by
    obtain ⟨o', ho', e, he, hb, hon⟩ := Region.waitsFor_spec hw
    rw [hj] at ho'
    injection ho' with ho'
    subst ho'
    cases hl : listed.getD j false with
    | false => exact .inl (getD_in (by rw [inv.size]; exact (Array.getElem?_eq_some_iff.1 hj).1) hl)
    | true =>
      refine .inr ?_
      have h1 := inv.closed j oj hj hl e he hb
      rw [hon] at h1
      exact h1
  have hready : ∀ t k, t ∈ Region.ready md ops listed → Region.waitsFor md ops t k = true → listed.getD k false = true := fun t k ht hw => by
    obtain ⟨_, ot, hot, hall⟩ := mem_ready.1 ht
    obtain ⟨o', ho', e, he, hb, hon⟩ := Region.waitsFor_spec hw
    rw [hot] at ho'
    injection ho' with ho'
    subst ho'
    have := hall e he hb
    rw [hon] at this
    exact this
  have key : ∀ (d i : Nat), n - i = d → i < n → listed.getD i true = false → n ∉ Region.ready md ops listed := by
    intro d
    induction d using Nat.strongRecOn with
    | _ d ih =>
      intro i hd hi hun hr
      unfold Region.sinkB at hs
      have h1 := List.all_eq_true.1 hs i (by simpa using hi)
      obtain ⟨j, hj, h2⟩ := List.any_eq_true.1 h1
      simp only [List.mem_range] at hj
      simp only [Bool.and_eq_true, decide_eq_true_eq] at h2
      rcases Nat.lt_or_ge j n with hjn | hjn
      · obtain ⟨oj, hoj, -⟩ := Region.waitsFor_spec h2.2
        rcases hclosed j i oj hoj h2.2 with h3 | h3
        · exact ih (n - j) (by omega) j rfl hjn h3 hr
        · rw [getD_both hun] at h3; cases h3
      · have e : j = n := by omega
        subst e
        have h3 := hready _ i hr h2.2
        have h4 := getD_both hun
        rw [h4] at h3; cases h3
  intro t ht hr
  rcases Nat.lt_or_ge n t with hlt | hge
  · have hts : t < ops.size := by
      obtain ⟨_, ot, hot, _⟩ := mem_ready.1 hr
      exact (Array.getElem?_eq_some_iff.1 hot).1
    unfold tailB at hc
    have h1 := List.all_eq_true.1 hc t (by simpa using hts)
    simp only [Bool.or_eq_true, decide_eq_true_eq] at h1
    rcases h1 with h1 | h1
    · omega
    · obtain ⟨j, hj, h2⟩ := List.any_eq_true.1 h1
      simp only [List.mem_range] at hj
      simp only [Bool.and_eq_true, decide_eq_true_eq] at h2
      have h3 := hready t j hr h2.2
      have h4 := getD_both (inv.tail j h2.1 (by omega))
      rw [h4] at h3; cases h3
  · have e : t = n := by omega
    subst e
    exact key _ i rfl hi hun hr

/-- An operation that hands on a value without looking at the world. -/
def lightB (o : Oper) : Bool := o.guard.isNone && match o.op with
  | .move _ | .assign _ | .extract _ _ => true
  | _ => false

theorem light_pure {o : Oper} {a : Act} {w : World} {K : Act → World → Prop} {Q : Exit → Act → World → Prop} {v : Value} (e : execOp a.eval o = pure (.value v)) (hh : o.wp P a w K Q ∨ (o.asks P a w ∧ LetsOut Q)) :
    ∃ v, (∀ w', (execOp a.eval o).run P w' = .ok (.value v) w') ∧ K (a.put o.dst v) w := by
  refine ⟨v, fun w' => by rw [e]; rfl, ?_⟩
  rcases hh with hh | hh
  · unfold Oper.wp at hh; rw [e] at hh; exact hh
  · have h1 := hh.1.1
    rw [e] at h1
    have h0 : noRoomEvent ∈ (#[] : Array Event) := h1
    simp at h0

theorem light_stuck {o : Oper} {a : Act} {w : World} {K : Act → World → Prop} {Q : Exit → Act → World → Prop} {s : String} (e : execOp a.eval o = (do pure (Next.value (← (stuck s : Sem Value))))) (hh : o.wp P a w K Q ∨ (o.asks P a w ∧ LetsOut Q)) : False := by
  rcases hh with hh | hh
  · unfold Oper.wp at hh; rw [e] at hh; exact hh
  · have h1 := hh.1.1
    rw [e] at h1
    have h0 : noRoomEvent ∈ (#[] : Array Event) := h1
    simp at h0

theorem light_yields {o : Oper} (h : lightB o = true) {a : Act} {w : World} {K : Act → World → Prop} {Q : Exit → Act → World → Prop} (hh : o.wp P a w K Q ∨ (o.asks P a w ∧ LetsOut Q)) :
    ∃ v, (∀ w', (execOp a.eval o).run P w' = .ok (.value v) w') ∧ K (a.put o.dst v) w := by
  unfold lightB at h
  simp only [Bool.and_eq_true] at h
  obtain ⟨-, h⟩ := h
  split at h
  · rename_i x hx
    exact light_pure (v := a.eval x) (by unfold execOp; simp [hx]) hh
  · rename_i x hx
    exact light_pure (v := a.eval x) (by unfold execOp; simp [hx]) hh
  · rename_i x ix hx
    have e0 : execOp a.eval o = (do pure (Next.value (← Instr.extract (a.eval x) ix))) := by unfold execOp; simp only [hx]
    unfold Instr.extract at e0
    split at e0
    · split at e0
      · exact light_pure e0 hh
      · exact (light_stuck e0 hh).elim
    · exact (light_stuck e0 hh).elim
  · cases h

def lineB (md : Region.Mode) (ops : Array Oper) : Nat → Nat → Array Bool → Bool
  | 0, _, s => (Region.ready md ops s).isEmpty
  | g + 1, k, s => (decide (Region.ready md ops s = [k]) || (((ops[k]?).map lightB).getD false && (Region.ready md ops s).contains k && Region.free md ops s k)) && lineB md ops g (k + 1) (s.setIfInBounds k true)

theorem wpAnyH_of_line (hsel : Region.noSelect ops = true) {Q : Exit → Act → World → Prop} (hQ : ∀ c a d v w, Q (.panic c) (Act.put a d v) w → Q (.panic c) a w) : ∀ (l : List Oper) (k : Nat) (s : Array Bool) (a : Act) (w : World), (∀ j, l[j]? = ops[k + j]?) →
    lineB md ops l.length k s = true → wpList P ops Q l a w → wpAnyH P md ops Q (fun _ => True) l.length s a w
  | [], _, _, _, _, _, hB, h => ⟨by simpa [lineB] using hB, h⟩
  | o :: l, k, s, a, w, hl, hB, h => by
    have h0 : ops[k]? = some o := by simpa using (hl 0).symm
    have hl' : ∀ j, l[j]? = ops[k + 1 + j]? := fun j => by have := hl (j + 1); simpa [Nat.add_assoc, Nat.add_comm 1 j] using this
    simp only [List.length_cons, lineB, Bool.and_eq_true, Bool.or_eq_true, decide_eq_true_eq] at hB
    obtain ⟨hB1, hB2⟩ := hB
    rcases hB1 with hB1 | ⟨⟨hB1, hr⟩, hf⟩
    · refine wpAnyH_all hB1 (by simp) fun i hi => ?_
      obtain rfl : i = k := by simpa using hi
      have hw : wpOp P ops Q i (wpList P ops Q l) a w := by unfold wpOp; simp only [h0]; exact h
      exact wpOp_mono (fun a' w' h' => ⟨trivial, wpAnyH_of_line hsel hQ l (i + 1) _ a' w' hl' hB2 h'⟩) hw
    · have hlight : lightB o = true := by rw [h0] at hB1; simpa using hB1
      have hg : o.guard = none := by
        unfold lightB at hlight
        simp only [Bool.and_eq_true, Option.isNone_iff_eq_none] at hlight
        exact hlight.1
      have hwant : Region.wanted o (yielded ops a.tmps) = true := by simp [Region.wanted, hg]
      unfold wpList at h
      rw [if_pos hwant] at h
      obtain ⟨v, hv, hK⟩ := light_yields hlight h
      exact wpAnyH_take h0 hsel hf hr (fun c a w => hQ c a _ _ w) (.inl ⟨hwant, fun w' _ => hv w'⟩) trivial (wpAnyH_of_line hsel hQ l (k + 1) _ _ w hl' hB2 hK)

def lineHead (md : Region.Mode) (ops : Array Oper) (g : Nat) : Nat → Nat → Array Bool → Bool
  | 0, k, s => lineB md ops g k s && (Region.ready md ops s).all fun j => decide (k ≤ j)
  | f + 1, k, s => (Region.ready md ops s).contains k && Region.free md ops s k && lineHead md ops g f (k + 1) (s.setIfInBounds k true)

theorem headQ_firstT {C : World → Prop} {n i : Nat} {o : Oper} {v : Value} {L : Array Bool → Act → Prop} (hi : ops[i]? = some o) (hsel : ∀ (j : Nat) (o : Oper) cs b, ops[j]? = some o → o.op ≠ .select cs b)
    (hs : Region.sinkB md ops n = true) (hc : tailB md ops n = true) (hin : i < n) (hdone : ∀ s a, L s a → ∀ j ∈ Region.ready md ops s, n ≤ j) :
    ∀ (f : Nat) (s : Array Bool) (a : Act), HeadInv md ops n s →
      (∀ j oj, ops[j]? = some oj → j ≠ i → s.getD j true = false → (∀ e ∈ oj.after, Region.binds md e = true → e.on ≠ i) → o.apart ops oj = true) →
      i ∈ Region.ready md ops s → YieldsIn P ops C o v a → HeadQ P md ops C n L f (s.setIfInBounds i true) (a.put o.dst v) → HeadQ P md ops C n L (f + 1) s a := by
  intro f
  induction f with
  | zero =>
    intro s a inv _ hr hy H
    refine ⟨fun e => (by rw [e] at hr; cases hr), fun j hj => ?_⟩
    have hjn : j < n := Nat.lt_of_not_le fun h => head_first hs hc inv hin (mem_ready.1 hr).1 j h hj
    refine ⟨hjn, ?_⟩
    by_cases e : j = i
    · subst e; exact hy.qOp hi H
    · exact absurd (hdone _ _ H j (ready_mono hj e)) (by omega)
  | succ f ih =>
    intro s a inv free hr hy H
    refine ⟨fun e => (by rw [e] at hr; cases hr), fun j hj => ?_⟩
    have hjn : j < n := Nat.lt_of_not_le fun h => head_first hs hc inv hin (mem_ready.1 hr).1 j h hj
    refine ⟨hjn, ?_⟩
    by_cases e : j = i
    · subst e; exact hy.qOp hi H
    · obtain ⟨hun, oj, hoj, hall⟩ := mem_ready.1 hj
      have no : ∀ x ∈ oj.after, Region.binds md x = true → x.on ≠ i := fun x hx hb he => by
        have h1 := hall x hx hb
        rw [he, getD_both (mem_ready.1 hr).1] at h1
        cases h1
      have h2 := qOp_put hoj (free j oj hoj e hun no) (fun cs b => hsel i o cs b hi) (fun cs b => hsel j oj cs b hoj) hy (H.2 j (ready_mono hj e)).2
      refine qOp_mono (fun a' h3 => ih (s.setIfInBounds j true) a' (inv.set hj hjn) (fun k ok hk hki hku hno => free k ok hk hki ?_ hno) (ready_mono hr (Ne.symm e)) h3.1 ?_) h2
      · by_cases hjk : j = k
        · subst hjk; exact hun
        · rw [getD_set_ne true hjk] at hku; exact hku
      · rw [Array.setIfInBounds_comm _ _ e]; exact h3.2

theorem headQ_line {C : World → Prop} {n g : Nat} {K : Act → Prop} (hsel : Region.noSelect ops = true) (hs : Region.sinkB md ops n = true) (hc : tailB md ops n = true) :
    ∀ (l : List Oper) (k : Nat) (s : Array Bool) (a : Act), (∀ j, j < l.length → l[j]? = ops[k + j]?) → k + l.length = n → HeadInv md ops n s → lineHead md ops g l.length k s = true →
      wpQuiet P ops C K l a → HeadQ P md ops C n (fun s' a' => (lineB md ops g n s' = true ∧ ∀ j ∈ Region.ready md ops s', n ≤ j) ∧ K a') l.length s a := by
  intro l
  induction l with
  | nil =>
    intro k s a _ hk _ hB h
    have e : k = n := by simpa using hk
    subst e
    refine ⟨?_, h⟩
    simp only [List.length_nil, lineHead, Bool.and_eq_true, List.all_eq_true, decide_eq_true_eq] at hB
    exact hB
  | cons o l ih =>
    intro k s a hl hk inv hB h
    have h0 : ops[k]? = some o := by simpa using (hl 0 (by simp)).symm
    simp only [List.length_cons, lineHead, Bool.and_eq_true] at hB hk
    obtain ⟨⟨hr, hf⟩, hB⟩ := hB
    have hr' : k ∈ Region.ready md ops s := by simpa using hr
    have hq : qOp P ops C k (wpQuiet P ops C K l) a := by unfold qOp; simp only [h0]; exact h
    obtain ⟨v, hy, hK⟩ := yieldsIn_of_qOp h0 hq
    exact headQ_firstT h0 (Region.noSelect_spec hsel) hs hc (by omega) (fun _ _ hL => hL.1.2) l.length s a inv (Region.free_spec h0 hf) hr' hy
      (ih (k + 1) _ _ (fun j hj => by have := hl (j + 1) (by simp; omega); simpa [Nat.add_assoc, Nat.add_comm 1 j] using this) (by omega) (inv.set hr' (by omega)) hB hK)

def lineTailB (md : Region.Mode) (ops : Array Oper) (n : Nat) : Bool :=
  Region.noSelect ops && decide (n < ops.size) && Region.sinkB md ops n && tailB md ops n && lineHead md ops (ops.size - n) n 0 (Array.replicate ops.size false)

/-- Behind the head, the tail as a plain list, in every world of the class. -/
theorem wp_region_quiet_line {id : Nat} {Q : Exit → Act → World → Prop} {a : Act} {w : World} {l : List Oper} (n : Nat) (hm : P.follows .mixedOrders = true) (hB : lineTailB .any l.toArray n = true)
    (h : wpQuiet P l.toArray (fun w' => ∃ k, w' = w.drewN k) (fun a' => ∀ w', (∃ k, w' = w.drewN k) → wpList P l.toArray (NoPanic Q) (l.drop n) a' w') (l.take n) a) : (Code.region id l.toArray true).wp P Q a w := by
  simp only [lineTailB, Bool.and_eq_true, decide_eq_true_eq] at hB
  obtain ⟨⟨⟨⟨hsel, hn⟩, hs⟩, hc⟩, hlex⟩ := hB
  have hn' : n < l.length := by simpa using hn
  have htl : (l.take n).length = n := by simp; omega
  have hdl : (l.drop n).length = l.toArray.size - n := by simp
  have inv0 : HeadInv .any l.toArray n (Array.replicate l.toArray.size false) :=
    ⟨by simp, fun j oj _ hl => (by rw [getD_replicate_false] at hl; cases hl), fun t _ ht => getD_in (by simpa using ht) (getD_replicate_false _ _)⟩
  have H := headQ_line (md := .any) (g := l.toArray.size - n) hsel hs hc (l.take n) 0 _ a (fun j hj => by
    have hj' : j < n := by rw [htl] at hj; exact hj
    simp [hj']) (by simpa using htl) inv0 (by rw [htl]; exact hlex) h
  refine wp_region_noPanic ?_
  refine wp_region_any hm ?_
  have := headQ_any (C := fun w' => ∃ k, w' = w.drewN k) (Q := NoPanic Q) (g := l.toArray.size - n) (fun s a' w' hw' hL => by
    have := wpAnyH_of_line (md := .any) hsel (Q := NoPanic Q) (fun _ _ _ _ _ h => h) (l.drop n) n s a' w' (fun j => by simp [List.getElem?_drop]) (by rw [hdl]; exact hL.1.1) (hL.2 w' hw')
    rw [hdl] at this
    exact wpAny_of_held _ _ _ _ this) _ _ _ { w with drawn := w.drawn + 1 } ⟨1, rfl⟩ H
  rw [htl, show n + (l.toArray.size - n) = l.toArray.size by omega] at this
  exact this
end

end Go.Proofs.YticcphppnmoogaaDoor
