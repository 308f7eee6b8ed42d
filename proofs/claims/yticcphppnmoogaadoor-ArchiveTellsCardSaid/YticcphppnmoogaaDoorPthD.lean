/-
  The contract of path.Text; where a link leads, as a function; the contract of path.step.
-/
import Derived.Test.YticcphppnmoogaaDoorPthC
import Derived.Test.YticcphppnmoogaaDoorArcLays
import Derived.ArgAppend
namespace Go.Proofs.YticcphppnmoogaaDoor
open Go.RowKit
attribute [local go_sem ↓] Go.wp_at_zero Go.wp_at_succ

theorem addr_lit {w : World} {ad : Addr} {v : Value} (h : w.cell? (ad.add 0) = some v) : ad = ⟨ad.block, ad.off, none⟩ := by
  obtain ⟨b, o, s⟩ := ad
  have : s = none := by simpa [Addr.add] using World.cell?_spot h
  subst this
  rfl
theorem reads_lit {w : World} {B n : Nat} {ad : Addr} {xs : List Value} (h : Reads w B 1 (some ad) n xs) (hn : 0 < n) : ∃ b o, ad = ⟨b, o, none⟩ ∧ b < B ∧ ∀ j u, xs[j]? = some u → w.cell? ⟨b, o + j, none⟩ = some u := by
  obtain ⟨ad', e, hb, hc⟩ := h.2 hn
  injection e with e
  subst e
  have hl : 0 < xs.length := by have := h.1; omega
  have e := addr_lit (hc 0 _ (List.getElem?_eq_getElem hl))
  refine ⟨ad.block, ad.off, e, hb, fun j u hu => ?_⟩
  have := hc j u hu
  rw [e, Addr.add_lit] at this
  exact this

def joinF (p : List ByteArray) : ByteArray := ⟨(Lib.join (p.map (·.data.toList)) [47]).toArray⟩
def txtF (p : List ByteArray) : ByteArray := if p = [] then ⟨#[47]⟩ else ⟨#[47]⟩ ++ joinF p
theorem lens_le {k : Nat} : ∀ (p : List ByteArray), (∀ s ∈ p, s.size ≤ k) → Lib.lens (p.map (·.data.toList)) ≤ p.length * k
  | [], _ => by simp [Lib.lens]
  | s :: p, h => by
    have h1 := lens_le p (fun t ht => h t (List.mem_cons_of_mem _ ht))
    have h2 := h s (List.mem_cons_self ..)
    have h3 : s.data.toList.length = s.size := by simp
    have h4 : Lib.lens ((s :: p).map (·.data.toList)) = s.data.toList.length + Lib.lens (p.map (·.data.toList)) := by simp [Lib.lens]
    rw [h4, h3, List.length_cons, Nat.add_mul]
    omega
theorem join_le {k : Nat} (p : List ByteArray) (h : ∀ s ∈ p, s.size ≤ k) : (Lib.join (p.map (·.data.toList)) [47]).length ≤ p.length * (k + 1) := by
  cases p with
  | nil => simp [Lib.join_nil]
  | cons s p =>
    rw [List.map_cons, Lib.join_length]
    have := lens_le (s :: p) h
    rw [List.map_cons] at this
    simp only [List.length_cons, List.length_nil, List.length_map, Nat.mul_add] at *
    omega
theorem joinF_size (p : List ByteArray) : (joinF p).size = (Lib.join (p.map (·.data.toList)) [47]).length := by simp [joinF, ByteArray.size]
theorem txtF_size {k : Nat} (p : List ByteArray) (h : ∀ s ∈ p, s.size ≤ k) : (txtF p).size ≤ p.length * (k + 1) + 1 := by
  unfold txtF
  split
  · show 1 ≤ _; omega
  · rw [ByteArray.size_append, joinF_size]
    have := join_le p h
    show 1 + _ ≤ _
    omega

set_option maxHeartbeats 1000000 in
theorem text_any (A : Option Addr) (n c : Nat) (p : List ByteArray) (w : World) (hn : n ≤ 1000) (hc : n ≤ c) (hs : ∀ s ∈ p, s.size ≤ 1000) (hR : Reads w w.heap.size 1 A n (strV p)) :
    Calls Tryd.prog 44 #[.slice A n c] w fun e w' => e = .returned (.string (txtF p)) ∧ Below w.heap.size w w' := by
  have hl := strs_n hR
  by_cases h0 : n = 0
  · subst h0
    obtain rfl : p = [] := List.eq_nil_of_length_eq_zero hl
    clear hR
    go_enter Tryd.func44, Tryd.ntmps44
    go_wp2_with fail
    go_ret
    exact ⟨rfl, Below.refl _ _⟩
  · have h0' : ((n : Int) == 0) = false := by simp; omega
    have hne : p ≠ [] := fun e => by subst e; simp at hl; omega
    have HT := Sl.mk (show txtF p = ⟨#[47]⟩ ++ joinF p from if_neg hne)
    have hjl := join_le p hs
    have hjs : (joinF p).size ≤ 1001000 := by rw [joinF_size]; have : p.length * (1000 + 1) ≤ 1000 * 1001 := Nat.mul_le_mul (by omega) (Nat.le_refl _); omega
    obtain ⟨ad, rfl, hb, -⟩ := hR.2 (by omega)
    obtain ⟨b, o, rfl, hbb, hcell⟩ := reads_lit hR (by omega)
    have H := Sl.mk (show Calls Tryd.prog 55 #[.slice (some ⟨b, o, none⟩) n c, .string ⟨#[47]⟩] w fun e w' => e = .returned (.string (joinF p)) ∧ Below w.heap.size w w' by
      have h := strings_Join b o c p ⟨#[47]⟩ w (fun j x hx => hcell j _ (strV_at hx)) hbb (by omega) (by omega) (by have : p.length * (1000 + 1) ≤ 1000 * 1001 := Nat.mul_le_mul (by omega) (Nat.le_refl _); exact Nat.le_trans hjl (by omega))
      rw [hl] at h
      exact h)
    obtain ⟨J, hJ⟩ : ∃ J, joinF p = J := ⟨_, rfl⟩
    rw [hJ] at H hjs HT
    have hsz : ((⟨#[47]⟩ : ByteArray) ++ J).size ≤ 1001001 := by rw [ByteArray.size_append]; show 1 + _ ≤ _; omega
    clear hjl hcell hl hne hJ hR hb
    go_enter Tryd.func44, Tryd.ntmps44
    go_wp2_with fail
    refine H.out.mono ?_
    rintro e w' ⟨rfl, hB⟩
    go_wp2_with fail
    go_ret
    exact ⟨by rw [HT.out]; rfl, hB⟩

end Go.Proofs.YticcphppnmoogaaDoor
