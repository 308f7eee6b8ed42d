/-
  What the law BlockKeeps needs beside the disk.
-/
import Derived.Test.YtpffdlnjpjoikaaBlkS
import Derived.Test.YtpffdlnjpjoikaaBlkT
namespace Go.Proofs.Ytpffdlnjpjoikaa
open Go.ChangeShapes Go.WideShapes Go.ChangeAt Go.RowKit Go.ChangeMaps Go.Deep Go.Joins

/-- A row of bytes that comes in. -/
structure RowI where
  A : Option Addr
  n : Nat
  c : Nat
  b : List Int
def RowAt (W : World) (A : Option Addr) (i : Nat) (x : RowI) : Prop := ∃ ad, A = some ad ∧ ad.block < W.heap.size ∧ W.cell? (ad.add i) = some (.slice x.A x.n x.c) ∧ Reads W W.heap.size 1 x.A x.n (bsC x.b)
theorem open_olds {H : Type} {enc : TypeId × Value → H} {W : World} {base : Nat} {v : Value} {d : DataW H} {p : List MemPlace}
    (h : DataW.Trod enc Try.prog W 0 (fun _ => true) true 27 v d p) (o : Value.okWide Try.prog W .any base 27 v) :
    ∃ (A : Option Addr) (n c : Nat) (D : Nat → RowI), v = .slice A n c ∧ ∀ i, i < n → RowAt W A i (D i) := by
  have hcR : Try.prog.cellsOf 30 = 1 := by kernel_rfl
  obtain ⟨A, n, c, rfl⟩ := okWide_slice Try.underlying27 o
  obtain ⟨fuel, hf⟩ := h
  rcases open_slice Try.underlying27 hf with ⟨hcs, -⟩ | ⟨a, len, cap, m, k, D, Pl, hcs, -, hl, hm, hmm, -, hi⟩
  · simp [Value.cells] at hcs
    obtain ⟨rfl, rfl, rfl⟩ := hcs
    exact ⟨none, 0, 0, fun _ => ⟨none, 0, 0, []⟩, rfl, fun i h => by omega⟩
  · simp [Value.cells] at hcs
    obtain ⟨rfl, rfl, rfl⟩ := hcs
    rw [if_pos rfl] at hmm
    rw [hcR] at hi
    have hex : ∀ i, ∃ y : RowI, i < n → RowAt W (some a) i y := fun i => by
      by_cases hin : i < n
      · obtain ⟨cs', hc, ht⟩ := hi i (by omega)
        obtain ⟨_, hcl, hat⟩ := World.cells?_some hc
        rw [Nat.mul_one] at hat
        match cs', hcl with
        | [c0], _ =>
          obtain ⟨A, len, c, l, rfl, -, -, hR⟩ := trod_ints Try.underlying30 Try.underlying5 (by kernel_rfl) ht
          have h0 : W.cell? (a.add i) = some (.slice A len c) := by
            have := hat 0 (by omega)
            rw [add_of_add] at this
            exact this
          exact ⟨⟨A, len, c, l⟩, fun _ => ⟨a, rfl, by have := cell_ltB h0; rw [block_of_add] at this; exact this, h0, hR⟩⟩
      · exact ⟨⟨none, 0, 0, []⟩, fun h => absurd h hin⟩
    exact ⟨some a, n, c, fun i => Classical.choose (hex i), rfl, fun i hi => Classical.choose_spec (hex i) hi⟩

def noN (x : Int) : Nat := ((x % 18446744073709551616) % 8).toNat
theorem noN_lt (x : Int) : noN x < 8 := by unfold noN; omega
theorem noN_of (x : Int) : wrap64 ((IntKind.u64.wrap x).tmod 8) = (noN x : Int) := by
  have h1 : IntKind.u64.wrap x = x % 18446744073709551616 := by simp [IntKind.wrap_u64]
  have h2 : (x % 18446744073709551616).tmod 8 = (x % 18446744073709551616) % 8 := Int.tmod_eq_emod_of_nonneg (by omega)
  rw [h1, h2]
  unfold wrap64 noN
  omega
/-- The first i writes. -/
def wl (D : Nat → ActI) (i : Nat) : List Wt := (List.range i).map fun j => ⟨noN (D j).no, fullF (D j).b, fullF_len _⟩
theorem wl_len (D : Nat → ActI) (i : Nat) : (wl D i).length = i := by simp [wl]
theorem wl_succ (D : Nat → ActI) (i : Nat) : wl D (i + 1) = wl D i ++ [⟨noN (D i).no, fullF (D i).b, fullF_len _⟩] := by simp [wl, List.range_succ]
theorem wl_ok (D : Nat → ActI) (i : Nat) : ∀ x ∈ wl D i, x.no < 8 := by
  intro x hx
  simp only [wl, List.mem_map] at hx
  obtain ⟨j, -, rfl⟩ := hx
  exact noN_lt _
/-- As a law asks: as it was, or as one of the first i writes has it. -/
def okF (D : Nat → ActI) (X Y : List Int) (s : Nat) (i : Nat) : Bool := sameB X Y || (List.range i).any fun j => noN (D j).no == s && sameB X (fullF (D j).b)
theorem okF_zero (D : Nat → ActI) (X Y : List Int) (s : Nat) : okF D X Y s 0 = sameB X Y := by simp [okF]
theorem okF_succ (D : Nat → ActI) (X Y : List Int) (s i : Nat) : okF D X Y s (i + 1) = (okF D X Y s i || (noN (D i).no == s && sameB X (fullF (D i).b))) := by
  unfold okF
  rw [List.range_succ, List.any_append, List.any_cons, List.any_nil, Bool.or_false, Bool.or_assoc]
theorem okF_true {D : Nat → ActI} {p : Nat → Bool} {B : List Int} {s n : Nat} (hB : B.length = 8 * 64) : okF D (secF (layF p B (wl D n) (wl D n).length) s) (secF B s) s n = true := by
  rcases sec_any (p := p) (no := s) hB (wl_ok D n) (wl D n).length with h | ⟨x, hx, hxs, h⟩
  · unfold okF; rw [h]; simp [sameB]
  · simp only [wl, List.mem_map, List.mem_range] at hx
    obtain ⟨j, hj, rfl⟩ := hx
    unfold okF
    rw [Bool.or_eq_true]
    refine .inr (List.any_eq_true.2 ⟨j, List.mem_range.2 hj, ?_⟩)
    simp only at hxs h
    rw [h, hxs]
    simp [sameB]

/-- A piece of a row of bytes. -/
theorem reads_part {W : World} {base n cap g o m : Nat} {L : List Int} (h : W.ownsRow base 5 1 (.slice (some ⟨g, 0, none⟩) n cap) n (bsC L)) (ho : o + m ≤ n) (hm : 0 < m) : Reads W W.heap.size 1 (some ⟨g, o, none⟩) m (bsC ((L.drop o).take m)) := by
  have hl : L.length = n := by have := h.1; rw [bsC_len] at this; omega
  have h0 := Reads.of_own h
  refine ⟨by simp [bsC_len, hl]; omega, fun _ => ⟨_, rfl, (own_lt' h rfl), fun j u hj => ?_⟩⟩
  obtain ⟨ad, e, -, hc⟩ := h0.2 (by omega)
  injection e with e
  subst e
  have hjm : j < m := by
    have := (List.getElem?_eq_some_iff.1 hj).1
    simp [bsC_len] at this; omega
  have := hc (o + j) u (by
    rw [← hj]
    simp [bsC, hjm, List.getElem?_drop])
  rw [add_mk, Nat.zero_add] at this
  rw [add_mk]
  exact this

section
variable {w W W' : World} {g : Nat} {s : DSt} {O : Nat → Prop}
/-- Blocks come into use that were not there. -/
theorem Ks.addset (h : Ks w W g s O) (hb : Below W.heap.size W W') {M : Nat → Prop} (hM : ∀ k, M k → W.heap.size ≤ k ∧ k < W'.heap.size) : Ks w W' g s (fun k => O k ∨ M k) := by
  obtain ⟨⟨vl, vq, hD, hO⟩, hB⟩ := h
  refine ⟨⟨vl, vq, hD.be hb, ?_⟩, hB.trans (hb.mono hB.size)⟩
  rintro k (hk | hk)
  · exact ⟨Nat.lt_of_lt_of_le (hO k hk).1 hb.size, (hO k hk).2⟩
  · exact ⟨(hM k hk).2, fun hm => by have := hD.lt k hm; have := (hM k hk).1; omega⟩
/-- What touches the others alone. -/
theorem Ks.touch (h : Ks w W g s O) {M : Nat → Prop} (ht : Touch W W' M) (hM : ∀ k, M k → O k ∧ w.heap.size ≤ k) : Ks w W' g s O := by
  obtain ⟨⟨vl, vq, hD, hO⟩, hB⟩ := h
  exact ⟨⟨vl, vq, hD.apart ht (fun k hm hk => (hO k (hM k hk).1).2 hm), fun k hk => ⟨Nat.lt_of_lt_of_le (hO k hk).1 ht.size, (hO k hk).2⟩⟩, hB.trans (ht.below hB.size (fun k hk => (hM k hk).2))⟩
theorem kcopy (h : Ks w W g s O) (hn : s.line.length ≤ 1000000) (hs : s.n ≤ 1000000) :
    Calls Try.prog 16 #[.pointer (some ⟨g, 0, none⟩)] W fun e W' => ∃ g' vl' vq', e = .returned (.pointer (some ⟨g', 0, none⟩)) ∧ Dk W' W.heap.size g' s vl' vq' ∧ Below W.heap.size W W' := by
  obtain ⟨⟨vl, vq, hD, hO⟩, hB⟩ := h
  obtain ⟨Al, cl, Aq, cq, rfl, rfl⟩ := hD.forms
  exact copy_any g s Al Aq cl cq w.heap.size W hD hn hs
end

end Go.Proofs.Ytpffdlnjpjoikaa
