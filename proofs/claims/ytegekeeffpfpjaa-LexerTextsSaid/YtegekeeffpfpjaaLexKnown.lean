/-
  The contract of the law's known(): the chapter's example of package lexer.
-/
import Derived.Test.YtegekeeffpfpjaaLexTokens
namespace Go.Proofs.Ytegekeeffpfpjaa
open Go.RowKit

def S0 : ByteArray := ⟨#[97, 108, 108, 111, 119, 32, 114, 101, 97, 100, 32, 111, 110, 32, 47, 97, 47, 42, 59]⟩
def toks0 : List Tok := [(0, [97, 108, 108, 111, 119], 1), (0, [114, 101, 97, 100], 1), (0, [111, 110], 1), (2, [47, 97, 47, 42], 1), (4, [59], 1)]
theorem tok0 : tokF (S0.size + 1) S0.data.toList 1 = (toks0, 4, 1) := by decide +kernel

theorem own_cells {w : World} {base : Nat} {e : TypeId} {size n : Nat} {v : Value} {xs : List Value} (h : w.ownsRow base e size v n xs) (hn : 0 < n) :
    ∃ g c, v = .slice (some ⟨g, 0, none⟩) n c ∧ base ≤ g ∧ g < w.heap.size ∧ ∀ j u, xs[j]? = some u → w.cell? ⟨g, j, none⟩ = some u := by
  obtain ⟨g, c, hv, hb, hg⟩ := h.form hn
  subst hv
  refine ⟨g, c, rfl, hb, hg, fun j u hj => ?_⟩
  have := h.cells (g := g) rfl j u hj
  have hadd : (⟨g, 0, none⟩ : Addr).add j = ⟨g, j, none⟩ := by unfold Addr.add; split <;> simp_all
  rw [hadd] at this
  exact this

theorem tokens0 (w : World) : Calls Try.prog 6 #[.string S0] w fun e w' => ∃ g c, e = .returned (.tuple #[.slice (some ⟨g, 0, none⟩) 5 c, .int .i64 0, .int .i64 0]) ∧ Below w.heap.size w w' ∧
    ∀ j u, (cellsT toks0)[j]? = some u → w'.cell? ⟨g, j, none⟩ = some u :=
  (Tokens_any S0 w (by decide)).mono fun e w' ⟨hB, hc⟩ => by
    rw [tok0] at hc
    rcases hc with ⟨-, -, v, rfl, hown⟩ | ⟨h, -⟩ | ⟨t, h, -⟩
    · obtain ⟨g, c, rfl, -, -, hcell⟩ := own_cells hown (by decide)
      exact ⟨g, c, rfl, hB, hcell⟩
    · exact absurd rfl h
    · simp [toks0] at h

set_option maxHeartbeats 1000000 in
theorem known_any (w : World) : Calls Try.prog 7 #[] w fun e w' => e = .returned (.bool true) ∧ Below w.heap.size w w' := by
  go_enter Try.func7, Try.ntmps7
  go_wp2_with fail
  refine (tokens0 w).mono ?_
  rintro e w1 ⟨g, c, rfl, hB, hcell⟩
  have c0 := hcell 0 _ rfl
  have c9 := hcell 9 _ rfl
  have c10 := hcell 10 _ rfl
  have c12 := hcell 12 _ rfl
  have c14 := hcell 14 _ rfl
  clear hcell
  go_wp2_with fail
  go_ret
  exact ⟨rfl, hB⟩

end Go.Proofs.Ytegekeeffpfpjaa
