/-
  The contract of digest.Of at one text.
-/
import Derived.Test.YticcphppnmoogaaDoorDigSum
import Derived.Test.YticcphppnmoogaaDoorDigRd
namespace Go.Proofs.YticcphppnmoogaaDoor
open Go.RowKit

theorem rdss_one {w : World} {S : Nat → Prop} {A : Option Addr} {c : Nat} {l : List Nat} {g : Nat} {t : TypeId} (hB : Blk w g t #[.slice A l.length c]) (hg : S g) (hr : RdS w S A l) : RdSS w S (some ⟨g, 0, none⟩) [l] := fun i hi => by
  match i, hi with
  | 0, _ => exact ⟨_, A, c, rfl, hg, by rw [add_zero']; exact hB.cell 0, hr⟩
theorem rds_lt {w w' : World} {A : Option Addr} {l : List Nat} (h : RdS w (fun b => b < w.heap.size) A l) (hb : Below w.heap.size w w') : RdS w' (fun b => b < w'.heap.size) A l :=
  rds_mono (h.keep (fun _ hp => hb.cell hp)) (fun _ hb' => Nat.lt_of_lt_of_le hb' hb.size)
theorem rdss_lt {w w' : World} {A : Option Addr} {L : List (List Nat)} (h : RdSS w (fun b => b < w.heap.size) A L) (hb : Below w.heap.size w w') : RdSS w' (fun b => b < w'.heap.size) A L := fun i hi => by
  obtain ⟨ad, Ai, ci, e, hS, hc, hr⟩ := h i hi
  exact ⟨ad, Ai, ci, e, Nat.lt_of_lt_of_le hS hb.size, (hb.cell (p := ad.add i) (by rw [block_of_add]; exact hS)).trans hc, rds_lt hr hb⟩

theorem of_single (w : World) (A : Option Addr) (c k : Nat) (l : List Nat) (hk : l.length = k) (hr : RdS w (fun b => b < w.heap.size) A l) (hl : k ≤ 10000000000) (hT : Tabs w) :
    Calls Tryd.prog 15 #[.slice (some ⟨w.heap.size, 0, none⟩) 1 1] (w.alloc (.cells #[.slice A k c] 32)) fun e w' => e = .returned (.agg (u8s (shaF l)).toArray) ∧ Below w.heap.size w w' := by
  subst hk
  have hb : Below w.heap.size w (w.alloc (.cells #[.slice A l.length c] 32)) := below_al (Below.refl _ _) _
  have hs : (w.alloc (.cells #[.slice A l.length c] 32)).heap.size = w.heap.size + 1 := by simp
  have h := of_any (some ⟨w.heap.size, 0, none⟩) 1 [l] (fun b => b < (w.alloc (.cells #[.slice A l.length c] 32)).heap.size) _ (by simpa using hl) (by simp) (hT.below hb hT.1)
    (rdss_one (Blk.new w 32 #[.slice A l.length c]) (by rw [hs]; omega) (rds_lt hr hb)) (fun _ h => h)
  have hf : ([l] : List (List Nat)).flatten = l := by simp
  rw [hf] at h
  exact h.mono fun _ _ ⟨h1, h2⟩ => ⟨h1, below_tr hb h2⟩


end Go.Proofs.YticcphppnmoogaaDoor
