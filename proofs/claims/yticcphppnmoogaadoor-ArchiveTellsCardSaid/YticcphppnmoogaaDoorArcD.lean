/-
  The contracts of the six checks of an entry.
-/
import Derived.Test.YticcphppnmoogaaDoorArcC
import Derived.Laws.IdiomStrings
import Derived.Laws.BytesArg
namespace Go.Proofs.YticcphppnmoogaaDoor
open Go.RowKit
attribute [local go_sem ↓] Go.wp_at_zero Go.wp_at_succ

def strN (d : List Nat) : ByteArray := ⟨(d.map UInt8.ofNat).toArray⟩
theorem strN_size (d : List Nat) : (strN d).size = d.length := by simp [strN, ByteArray.size]
theorem conv_str {w : World} {B n c : Nat} {A : Option Addr} {d : List Nat} (h : Reads w B 1 A n (u8s d)) (hb : ∀ b ∈ d, b < 256) :
    (convert 32 9 (.slice A n c)).run Tryd.prog w = .ok (.string (strN d)) w := by
  have hl := bytes_n h
  cases A with
  | none =>
    have h0 : n = 0 := by
      rcases Nat.eq_zero_or_pos n with h0 | h0
      · exact h0
      · obtain ⟨ad, e, _⟩ := h.2 h0; cases e
    subst h0
    obtain rfl : d = [] := List.eq_nil_of_length_eq_zero hl
    exact run_convert_bytes_nil (P := Tryd.prog) w 32 5 Tryd.underlying32 Tryd.underlying5 0 c 9 Tryd.underlying9
  | some ad =>
    have hm : (d.map UInt8.ofNat).length = n := by simpa using hl
    have := run_convert_bytes_back (P := Tryd.prog) w 32 9 5 ad c (d.map UInt8.ofNat) Tryd.underlying32 Tryd.underlying5 Tryd.underlying9 (fun j hj => by
      have hj' : j < d.length := by simpa using hj
      have hn : 0 < n := by omega
      obtain ⟨ad', e, _, hc⟩ := h.2 hn
      have e' := Option.some.inj e
      subst e'
      have h1 := hc j (.int .u8 ((d[j] : Nat) : Int)) (by simp [u8s, hj'])
      rw [h1]
      have h2 := hb d[j] (List.getElem_mem hj')
      simp only [List.getElem_map, UInt8.toNat_ofNat']
      rw [Nat.mod_eq_of_lt (by omega)])
    rw [hm] at this
    exact this

/-- What a check takes: an entry and the slice of those ahead of it. -/
def askC (x : Ex) (A : Option Addr) (n c : Nat) : List Value := exC x ++ [.slice A n c]

def pathsE (p : List ByteArray) : Int := if rightB p = false then 10 else if p = [] then 10 else if 160 < (txtF p).size then 10 else 0
def kindE (k : Int) : Int := if k = 0 then 0 else if k = 1 then 0 else if k = 2 then 0 else 17
def modesE (k m : Int) : Int := refu k m 0 0
def sizeE (k : Int) (d : Nat) : Int := if k = 1 ∧ 0 < d then 3 else if 512 < d then 2 else 0
def linkE (e : En) : Int := if e.kind = 2 then (if leadE e.path.dropLast (strN e.data) = 0 ∧ isAbs (strN e.data) = false then 0 else 10) else 0

set_option maxHeartbeats 1000000 in
theorem paths_any (x : Ex) (A : Option Addr) (n c : Nat) (w : World) (hx : ExOk w w.heap.size x) :
    Calls Tryd.prog 48 #[.agg (askC x A n c).toArray] w fun e w' => e = .returned (.int .i64 (pathsE x.e.path)) ∧ Below w.heap.size w w' := by
  obtain ⟨⟨p, k, m, d⟩, pa, pc, da, dc⟩ := x
  have hp : Reads w w.heap.size 1 pa p.length (strV p) := hx.path
  have hpl : p.length ≤ 100 := hx.plen
  have hpc : p.length ≤ pc := hx.pcap.1
  have hps : ∀ s ∈ p, s.size ≤ 1000 := hx.slen
  clear hx
  show Calls Tryd.prog 48 #[.agg #[.slice pa p.length pc, .int .i64 k, .int .i64 m, .slice da d.length dc, .slice A n c]] w fun e w' => e = .returned (.int .i64 (pathsE p)) ∧ Below w.heap.size w w'
  obtain ⟨dl, hdle⟩ : ∃ dl, d.length = dl := ⟨_, rfl⟩
  rw [hdle]
  obtain ⟨pl, hple⟩ : ∃ pl, p.length = pl := ⟨_, rfl⟩
  have HPL := Sl.mk hple
  have hts := txtF_size p hps
  have hE := below_al (Below.refl w.heap.size w) (.cells #[.slice pa pl pc, .int .i64 k, .int .i64 m, .slice da dl dc, .slice A n c] 87)
  rw [hple] at hp hpl hpc hts ⊢
  have HR := Sl.mk (right_any pa pl pc p (w.alloc (.cells #[.slice pa pl pc, .int .i64 k, .int .i64 m, .slice da dl dc, .slice A n c] 87)) (by omega) (fun s hs => by have := hps s hs; omega) ((hp.below hE).more hE.size))
  have HT := Sl.mk (text_any pa pl pc p (w.alloc (.cells #[.slice pa pl pc, .int .i64 k, .int .i64 m, .slice da dl dc, .slice A n c] 87)) (by omega) hpc hps ((hp.below hE).more hE.size))
  clear hp hps hdle hple
  cases eR : rightB p
  · have HF := Sl.mk (show pathsE p = 10 by unfold pathsE; rw [if_pos eR])
    rw [eR] at HR
    go_enter Tryd.func48, Tryd.ntmps48
    go_wp2_with fail
    refine HR.out.mono ?_
    rintro e w' ⟨rfl, rfl⟩
    go_wp2_with fail
    go_ret
    exact ⟨by rw [HF.out]; rfl, hE⟩
  rw [eR] at HR
  by_cases h0 : pl = 0
  · subst h0
    have hp0 : p = [] := List.eq_nil_of_length_eq_zero HPL.out
    have HF := Sl.mk (show pathsE p = 10 by unfold pathsE; rw [if_neg (by rw [eR]; simp), if_pos hp0])
    clear hp0
    go_enter Tryd.func48, Tryd.ntmps48
    go_wp2_with fail
    refine HR.out.mono ?_
    rintro e w' ⟨rfl, rfl⟩
    go_wp2_with fail
    go_ret
    exact ⟨by rw [HF.out]; rfl, hE⟩
  · have hp0 : p ≠ [] := fun e => h0 (by rw [← HPL.out, e]; rfl)
    have h0' : ((pl : Int) == 0) = false := by simp; omega
    have HF := Sl.mk (show pathsE p = if 160 < (txtF p).size then 10 else 0 by unfold pathsE; rw [if_neg (by rw [eR]; simp), if_neg hp0])
    obtain ⟨T, hT⟩ : ∃ T, txtF p = T := ⟨_, rfl⟩
    rw [hT] at HF HT hts
    have hd : decide ((160 : Int) < (T.size : Int)) = decide (160 < T.size) := by rw [decide_eq_decide]; omega
    have htz : T.size ≤ 200000 := by omega
    clear hT hp0 h0 hts
    by_cases h160 : 160 < T.size
    · have h160' : (160 : Int) < (T.size : Int) := by omega
      go_enter Tryd.func48, Tryd.ntmps48
      go_wp2_with fail
      refine HR.out.mono ?_
      rintro e w' ⟨rfl, rfl⟩
      go_wp2_with fail
      refine HT.out.mono ?_
      rintro e w' ⟨rfl, hB⟩
      have hE2 := below_tr hE hB
      go_wp2_with fail
      go_ret
      exact ⟨by rw [HF.out, if_pos h160]; rfl, hE2⟩
    · have h160' : ¬ (160 : Int) < (T.size : Int) := by omega
      go_enter Tryd.func48, Tryd.ntmps48
      go_wp2_with fail
      refine HR.out.mono ?_
      rintro e w' ⟨rfl, rfl⟩
      go_wp2_with fail
      refine HT.out.mono ?_
      rintro e w' ⟨rfl, hB⟩
      have hE2 := below_tr hE hB
      go_wp2_with fail
      go_ret
      exact ⟨by rw [HF.out, if_neg h160]; rfl, hE2⟩

theorem kind_any (x : Ex) (A : Option Addr) (n c : Nat) (w : World) :
    Calls Tryd.prog 49 #[.agg (askC x A n c).toArray] w fun e w' => e = .returned (.int .i64 (kindE x.e.kind)) ∧ Below w.heap.size w w' := by
  obtain ⟨⟨p, k, m, d⟩, pa, pc, da, dc⟩ := x
  show Calls Tryd.prog 49 #[.agg #[.slice pa p.length pc, .int .i64 k, .int .i64 m, .slice da d.length dc, .slice A n c]] w fun e w' => e = .returned (.int .i64 (kindE k)) ∧ Below w.heap.size w w'
  obtain ⟨dl, hdle⟩ : ∃ dl, d.length = dl := ⟨_, rfl⟩
  obtain ⟨pl, hple⟩ : ∃ pl, p.length = pl := ⟨_, rfl⟩
  rw [hdle, hple]
  clear hdle hple
  have hE := below_al (Below.refl w.heap.size w) (.cells #[.slice pa pl pc, .int .i64 k, .int .i64 m, .slice da dl dc, .slice A n c] 87)
  by_cases h0 : k = 0
  · subst h0
    go_enter Tryd.func49, Tryd.ntmps49
    go_wp2_with fail
    go_ret
    exact ⟨rfl, hE⟩
  by_cases h1 : k = 1
  · subst h1
    go_enter Tryd.func49, Tryd.ntmps49
    go_wp2_with fail
    go_ret
    exact ⟨rfl, hE⟩
  by_cases h2 : k = 2
  · subst h2
    go_enter Tryd.func49, Tryd.ntmps49
    go_wp2_with fail
    go_ret
    exact ⟨rfl, hE⟩
  · have HF := Sl.mk (show kindE k = 17 by unfold kindE; rw [if_neg h0, if_neg h1, if_neg h2])
    have b0 : (k != 0) = true := by simpa using h0
    have b1 : (k != 1) = true := by simpa using h1
    have b2 : (k != 2) = true := by simpa using h2
    clear h0 h1 h2
    go_enter Tryd.func49, Tryd.ntmps49
    go_wp2_with fail
    go_ret
    exact ⟨by rw [HF.out]; rfl, hE⟩

theorem modes_any (x : Ex) (A : Option Addr) (n c : Nat) (w : World) :
    Calls Tryd.prog 50 #[.agg (askC x A n c).toArray] w fun e w' => e = .returned (.int .i64 (modesE x.e.kind x.e.mode)) ∧ Below w.heap.size w w' := by
  obtain ⟨⟨p, k, m, d⟩, pa, pc, da, dc⟩ := x
  show Calls Tryd.prog 50 #[.agg #[.slice pa p.length pc, .int .i64 k, .int .i64 m, .slice da d.length dc, .slice A n c]] w fun e w' => e = .returned (.int .i64 (refu k m 0 0)) ∧ Below w.heap.size w w'
  obtain ⟨dl, hdle⟩ : ∃ dl, d.length = dl := ⟨_, rfl⟩
  obtain ⟨pl, hple⟩ : ∃ pl, p.length = pl := ⟨_, rfl⟩
  rw [hdle, hple]
  clear hdle hple
  have hE := below_al (Below.refl w.heap.size w) (.cells #[.slice pa pl pc, .int .i64 k, .int .i64 m, .slice da dl dc, .slice A n c] 87)
  go_enter Tryd.func50, Tryd.ntmps50
  go_wp2_with fail
  refine (refusal_any k m 0 0 _).mono ?_
  rintro e w' ⟨rfl, hB⟩
  go_wp2_with fail
  go_ret
  exact ⟨rfl, below_tr hE hB⟩

theorem size_any (x : Ex) (A : Option Addr) (n c : Nat) (w : World) (hx : x.e.data.length ≤ 100000) :
    Calls Tryd.prog 51 #[.agg (askC x A n c).toArray] w fun e w' => e = .returned (.int .i64 (sizeE x.e.kind x.e.data.length)) ∧ Below w.heap.size w w' := by
  obtain ⟨⟨p, k, m, d⟩, pa, pc, da, dc⟩ := x
  have hdl : d.length ≤ 100000 := hx
  clear hx
  show Calls Tryd.prog 51 #[.agg #[.slice pa p.length pc, .int .i64 k, .int .i64 m, .slice da d.length dc, .slice A n c]] w fun e w' => e = .returned (.int .i64 (sizeE k d.length)) ∧ Below w.heap.size w w'
  obtain ⟨dl, hdle⟩ : ∃ dl, d.length = dl := ⟨_, rfl⟩
  obtain ⟨pl, hple⟩ : ∃ pl, p.length = pl := ⟨_, rfl⟩
  rw [hdle] at hdl ⊢
  rw [hple]
  clear hdle hple
  have hE := below_al (Below.refl w.heap.size w) (.cells #[.slice pa pl pc, .int .i64 k, .int .i64 m, .slice da dl dc, .slice A n c] 87)
  have main : ∀ E : Int, sizeE k dl = E → ((k = 1 ∧ 0 < dl ∧ E = 3) ∨ (¬ (k = 1 ∧ 0 < dl) ∧ 512 < dl ∧ E = 2) ∨ (¬ (k = 1 ∧ 0 < dl) ∧ ¬ 512 < dl ∧ E = 0)) := fun E h => by
    unfold sizeE at h
    split at h
    · rename_i h1; exact .inl ⟨h1.1, h1.2, h.symm⟩
    · split at h
      · rename_i h1 h2; exact .inr (.inl ⟨h1, h2, h.symm⟩)
      · rename_i h1 h2; exact .inr (.inr ⟨h1, h2, h.symm⟩)
  have hm := main _ rfl
  obtain ⟨E, hEE⟩ : ∃ E, sizeE k dl = E := ⟨_, rfl⟩
  rw [hEE] at hm ⊢
  clear main hEE
  by_cases h1 : k = 1
  · subst h1
    by_cases h0 : 0 < dl
    · have h0' : (0 : Int) < (dl : Int) := by omega
      have hE3 : E = 3 := by omega
      subst hE3
      clear hm
      go_enter Tryd.func51, Tryd.ntmps51
      go_wp2_with fail
      go_ret
      exact ⟨rfl, hE⟩
    · obtain rfl : dl = 0 := by omega
      have hE0 : E = 0 := by omega
      subst hE0
      clear hm
      go_enter Tryd.func51, Tryd.ntmps51
      go_wp2_with fail
      go_ret
      exact ⟨rfl, hE⟩
  · have b1 : (k == 1) = false := by simpa using h1
    by_cases h5 : 512 < dl
    · have h5' : (512 : Int) < (dl : Int) := by omega
      have hE2 : E = 2 := by omega
      subst hE2
      clear hm h1
      go_enter Tryd.func51, Tryd.ntmps51
      go_wp2_with fail
      go_ret
      exact ⟨rfl, hE⟩
    · have h5' : ¬ (512 : Int) < (dl : Int) := by omega
      have hE0 : E = 0 := by omega
      subst hE0
      clear hm h1
      go_enter Tryd.func51, Tryd.ntmps51
      go_wp2_with fail
      go_ret
      exact ⟨rfl, hE⟩

end Go.Proofs.YticcphppnmoogaaDoor
