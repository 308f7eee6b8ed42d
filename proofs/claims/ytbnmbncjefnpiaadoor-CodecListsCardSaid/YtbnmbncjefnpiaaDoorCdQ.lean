/-
  Plain: strconv.Atoi of a number's digits.
-/
import Derived.Test.YtbnmbncjefnpiaaDoorCdP
namespace Go.Proofs.YtbnmbncjefnpiaaDoor

def foldU (acc : Nat) (l : List UInt8) : Nat := l.foldl (fun a c => a * 10 + (c.toNat - 48)) acc
theorem foldU_ge : ∀ (l : List UInt8) (acc : Nat), acc ≤ foldU acc l
  | [], acc => Nat.le_refl _
  | c :: r, acc => by
    have := foldU_ge r (acc * 10 + (c.toNat - 48))
    show acc ≤ foldU (acc * 10 + (c.toNat - 48)) r
    omega
theorem parse_fold : ∀ (l : List UInt8) (acc : Nat), (∀ c ∈ l, 48 ≤ c.toNat ∧ c.toNat ≤ 57) → foldU acc l < 18446744073709551616 → Lib.parseUint10 acc l = .ok (foldU acc l)
  | [], acc, _, _ => rfl
  | c :: r, acc, h, hlt => by
    have hc := h c (List.mem_cons_self ..)
    have e : foldU acc (c :: r) = foldU (acc * 10 + (c.toNat - 48)) r := rfl
    have hge := foldU_ge r (acc * 10 + (c.toNat - 48))
    rw [e] at hlt ⊢
    rw [Lib.parseUint10, if_pos hc, if_neg (by omega), if_neg (by omega)]
    exact parse_fold r _ (fun x hx => h x (List.mem_cons_of_mem _ hx)) hlt
theorem dec_dig (u : Nat) : ∀ c ∈ Lib.decDigits u, 48 ≤ c.toNat ∧ c.toNat ≤ 57 := fun c hc => by
  have h := dgN_dig u c.toNat (List.mem_map_of_mem hc)
  unfold isDg at h
  simpa using h
theorem foldU_map : ∀ (l : List UInt8) (acc : Nat), foldU acc l = (l.map (·.toNat)).foldl (fun a x => a * 10 + (x - 48)) acc
  | [], _ => rfl
  | _ :: r, _ => foldU_map r _
theorem mag_dec {u : Nat} (h : u < 18446744073709551616) : Lib.parseMag (Lib.decDigits u) = .ok u := by
  have hs : foldU 0 (Lib.decDigits u) = u := by rw [foldU_map]; exact spell_dgN u
  have hne : Lib.decDigits u ≠ [] := fun e => dgN_ne u (by unfold dgN; rw [e]; rfl)
  rw [Lib.parseMag, if_neg hne, parse_fold _ 0 (dec_dig u) (by rw [hs]; exact h), hs]
theorem atoi_itoa {n : Int} (h0 : -9223372036854775808 ≤ n) (h1 : n ≤ 9223372036854775807) : Lib.atoiAll (Lib.itoa n) = .ok n := by
  unfold Lib.itoa
  split
  · rw [Lib.atoiAll_minus, mag_dec (by omega)]
    unfold Lib.signed
    simp only []
    first | (rw [if_neg (by omega)]; congr 1; omega) | (rw [if_pos (by omega)]; congr 1; omega)
  · cases e : Lib.decDigits n.toNat with
    | nil => exact absurd e (fun e => dgN_ne n.toNat (by unfold dgN; rw [e]; rfl))
    | cons c r =>
      have hc := dec_dig n.toNat c (by rw [e]; exact List.mem_cons_self ..)
      rw [Lib.atoiAll_plain c r (by omega) (by omega), ← e, mag_dec (by omega)]
      unfold Lib.signless
      simp only []
      first | (rw [if_neg (by omega)]; congr 1; omega) | (rw [if_pos (by omega)]; congr 1; omega)

end Go.Proofs.YtbnmbncjefnpiaaDoor
