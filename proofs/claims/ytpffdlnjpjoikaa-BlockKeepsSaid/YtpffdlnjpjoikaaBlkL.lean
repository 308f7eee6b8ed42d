/-
  The disk's calls as a law sees them: one disk, and blocks beside it that stay as they are.
-/
import Derived.Test.YtpffdlnjpjoikaaBlkI
namespace Go.Proofs.Ytpffdlnjpjoikaa
open Go.RowKit

theorem reads_blk {w : World} {g n : Nat} {l : List Int} (h : Blk w g 5 (bsC l).toArray) (hn : n = l.length) : Reads w w.heap.size 1 (some ⟨g, 0, none⟩) n (bsC l) :=
  ⟨by rw [bsC_len]; omega, fun _ => ⟨_, rfl, h.lt, fun j u hj => by rw [add_mk, Nat.zero_add, h.cell]; simpa using hj⟩⟩
/-- A disk's call, and a step beside it. -/
theorem DkTo.step {w w' w'' : World} {base g : Nat} {s : DSt} {vl vq : Value} (h : DkTo w w' base g s vl vq) (hb : Below w'.heap.size w' w'') : DkTo w w'' base g s vl vq := by
  obtain ⟨vl', vq', hD, ht, hm⟩ := h
  exact ⟨vl', vq', hD.be hb, ht.trans (Touch.of_below hb (fun _ => False)) (fun _ h => h.elim), hm⟩
theorem Dk.forms {w : World} {base g : Nat} {s : DSt} {vl vq : Value} (h : Dk w base g s vl vq) : ∃ Al cl Aq cq, vl = .slice Al s.n cl ∧ vq = .slice Aq s.line.length cq := by
  obtain ⟨Al, cl, rfl⟩ := ownForm h.laid
  obtain ⟨Aq, cq, rfl⟩ := ownForm h.line
  exact ⟨Al, cl, Aq, cq, rfl, rfl⟩

/-- A disk of the law's own; O: other blocks that are in use. -/
structure Ks (w W : World) (g : Nat) (s : DSt) (O : Nat → Prop) : Prop where
  ex : ∃ vl vq, Dk W w.heap.size g s vl vq ∧ ∀ k, O k → k < W.heap.size ∧ ¬ mine g vl vq k
  below : Below w.heap.size w W
def KeepO (W W' : World) (O : Nat → Prop) : Prop := ∀ k, O k → W'.heap[k]? = W.heap[k]?
section
variable {w W W' : World} {g : Nat} {s s' : DSt} {O : Nat → Prop}
theorem Ks.be (h : Ks w W g s O) (hb : Below W.heap.size W W') : Ks w W' g s O := by
  obtain ⟨⟨vl, vq, hD, hO⟩, hB⟩ := h
  exact ⟨⟨vl, vq, hD.be hb, fun k hk => ⟨Nat.lt_of_lt_of_le (hO k hk).1 hb.size, (hO k hk).2⟩⟩, hB.trans (hb.mono hB.size)⟩
theorem Ks.keep (h : Ks w W g s O) (hb : Below W.heap.size W W') : KeepO W W' O := fun k hk => by
  obtain ⟨⟨vl, vq, hD, hO⟩, hB⟩ := h
  exact hb.block k (hO k hk).1
/-- A new block comes into use. -/
theorem Ks.add (h : Ks w W g s O) (hb : Below W.heap.size W W') {b : Nat} (h1 : W.heap.size ≤ b) (h2 : b < W'.heap.size) : Ks w W' g s (fun k => O k ∨ k = b) := by
  obtain ⟨⟨vl, vq, hD, hO⟩, hB⟩ := h
  refine ⟨⟨vl, vq, hD.be hb, ?_⟩, hB.trans (hb.mono hB.size)⟩
  rintro k (hk | rfl)
  · exact ⟨Nat.lt_of_lt_of_le (hO k hk).1 hb.size, (hO k hk).2⟩
  · exact ⟨h2, fun hm => by have := hD.lt k hm; omega⟩
theorem Ks.reads {B n : Nat} {A : Option Addr} {xs : List Value} {size : Nat} {w0 : World} (hK : Ks w W' g s O) (h : Reads w0 B size A n xs) (hk : KeepO w0 W' O) (hA : ∀ ad, A = some ad → O ad.block) : Reads W' W'.heap.size size A n xs := by
  obtain ⟨h1, h2⟩ := h
  obtain ⟨⟨vl, vq, hD, hO⟩, hB⟩ := hK
  refine ⟨h1, fun hn => ?_⟩
  obtain ⟨ad, e, hb, hc⟩ := h2 hn
  exact ⟨ad, e, (hO _ (hA ad e)).1, fun j u hj => (World.cell?_of_block (by rw [block_of_add]; exact hk _ (hA ad e))).trans (hc j u hj)⟩
theorem Ks.sub {O' : Nat → Prop} (h : Ks w W g s O) (ho : ∀ k, O' k → O k) : Ks w W g s O' := by
  obtain ⟨⟨vl, vq, hD, hO⟩, hB⟩ := h
  exact ⟨⟨vl, vq, hD, fun k hk => hO k (ho k hk)⟩, hB⟩
theorem Ks.to {vl vq : Value} (hD : Dk W w.heap.size g s vl vq) (hO : ∀ k, O k → k < W.heap.size ∧ ¬ mine g vl vq k) (hB : Below w.heap.size w W) (h : DkTo W W' w.heap.size g s' vl vq) : Ks w W' g s' O ∧ KeepO W W' O := by
  have hb := h.below hD hB.size
  obtain ⟨vl', vq', hD', ht, hm⟩ := h
  refine ⟨⟨⟨vl', vq', hD', fun k hk => ⟨Nat.lt_of_lt_of_le (hO k hk).1 ht.size, fun hk' => ?_⟩⟩, hB.trans hb⟩, fun k hk => ht.block k (hO k hk).1 (hO k hk).2⟩
  rcases hm k hk' with h1 | h1
  · exact (hO k hk).2 h1
  · have := (hO k hk).1; omega

theorem kwrite (h : Ks w W g s O) (A : Option Addr) (c no : Nat) (b : List Int) (hb : b.length = 64) (hoff : s.off = false) (hno : no < s.n) (hn : s.line.length ≤ 1000000) (hw : 0 ≤ s.wr ∧ s.wr ≤ 1000000) (hR : Reads W W.heap.size 1 A 64 (bsC b)) :
    Calls Try.prog 9 #[.pointer (some ⟨g, 0, none⟩), .int .i64 no, .slice A 64 c] W fun e W' => e = .returned (.int .i64 0) ∧ Ks w W' g { s with line := s.line ++ [⟨no, b, hb⟩], wr := s.wr + 1 } O ∧ KeepO W W' O := by
  obtain ⟨⟨vl, vq, hD, hO⟩, hB⟩ := h
  obtain ⟨Al, cl, Aq, cq, rfl, rfl⟩ := hD.forms
  refine (write_any g s Al Aq A cl cq c w.heap.size no b hb W hoff hD hno hn hB.size hw hR).mono ?_
  rintro e W' ⟨rfl, hT⟩
  exact ⟨rfl, Ks.to hD hO hB hT⟩
theorem kread (h : Ks w W g s O) (no : Nat) (hoff : s.off = false) (hno : no < s.n) (hn : s.line.length ≤ 1000000) (hs : s.n ≤ 1000000) :
    Calls Try.prog 11 #[.pointer (some ⟨g, 0, none⟩), .int .i64 no] W fun e W' => ∃ (A : Option Addr) (c : Nat), e = .returned (.tuple #[.slice A 64 c, .int .i64 0]) ∧
      Reads W' W'.heap.size 1 A 64 (bsC (readF s no)) ∧ Below W.heap.size W W' ∧ ∀ ad, A = some ad → W.heap.size ≤ ad.block := by
  obtain ⟨⟨vl, vq, hD, hO⟩, hB⟩ := h
  obtain ⟨Al, cl, Aq, cq, rfl, rfl⟩ := hD.forms
  exact read_any g s Al Aq cl cq w.heap.size no W hoff hD hno hn hs
theorem kflush (h : Ks w W g s O) (hoff : s.off = false) (hok : ∀ x ∈ s.line, x.no < s.n) (hn : s.line.length ≤ 1000000) (hs : s.n ≤ 1000000) (hf : 0 ≤ s.fl ∧ s.fl ≤ 1000000) :
    Calls Try.prog 8 #[.pointer (some ⟨g, 0, none⟩)] W fun e W' => e = .returned (.int .i64 0) ∧
      Ks w W' g { s with laid := layF (fun _ => true) s.laid s.line s.line.length, line := [], fl := s.fl + 1 } O ∧ KeepO W W' O := by
  obtain ⟨⟨vl, vq, hD, hO⟩, hB⟩ := h
  obtain ⟨Al, cl, Aq, cq, rfl, rfl⟩ := hD.forms
  refine (flush_any g s Al Aq cl cq w.heap.size W hoff hD hok hn hs hf).mono ?_
  rintro e W' ⟨rfl, hT⟩
  exact ⟨rfl, Ks.to hD hO hB hT⟩
theorem kcrash (h : Ks w W g s O) (Ak : Option Addr) (nk ck : Nat) (ks : List Int) (hok : ∀ x ∈ s.line, x.no < s.n) (hn : s.line.length ≤ 1000000) (hs : s.n ≤ 1000000) (hnk : nk ≤ 1000000) (hR : Reads W W.heap.size 1 Ak nk (isC ks)) (hap : 0 < nk → ∀ ad, Ak = some ad → O ad.block ∨ ad.block < w.heap.size) :
    Calls Try.prog 13 #[.pointer (some ⟨g, 0, none⟩), .slice Ak nk ck] W fun e W' => e = .returned (.int .i64 (cntF (fun i => hasI ks i) s.line.length)) ∧
      Ks w W' g { s with off := true, laid := layF (fun i => hasI ks i) s.laid s.line s.line.length, line := [] } O ∧ KeepO W W' O := by
  obtain ⟨⟨vl, vq, hD, hO⟩, hB⟩ := h
  obtain ⟨Al, cl, Aq, cq, rfl, rfl⟩ := hD.forms
  refine (crash_any g s Al Aq Ak cl cq nk ck ks w.heap.size W hD hok hn hs hnk hR (fun h0 ad e => ?_)).mono ?_
  · rcases hap h0 ad e with h1 | h1
    · exact (hO _ h1).2
    · exact fun hm => by have := hD.ge _ hm; omega
  · rintro e W' ⟨rfl, hT⟩
    exact ⟨rfl, Ks.to hD hO hB hT⟩
theorem kpower (h : Ks w W g s O) :
    Calls Try.prog 14 #[.pointer (some ⟨g, 0, none⟩)] W fun e W' => e = .returned (.tuple #[]) ∧ Ks w W' g { s with off := false, line := [] } O ∧ KeepO W W' O := by
  obtain ⟨⟨vl, vq, hD, hO⟩, hB⟩ := h
  refine (power_any g s vl vq w.heap.size W hD).mono ?_
  rintro e W' ⟨rfl, hT⟩
  exact ⟨rfl, Ks.to hD hO hB hT⟩
theorem klaid (h : Ks w W g s O) (hs : s.n ≤ 1000000) :
    Calls Try.prog 17 #[.pointer (some ⟨g, 0, none⟩)] W fun e W' => ∃ A c, e = .returned (.slice A (s.n * 64) c) ∧ W'.ownsRow W.heap.size 5 1 (.slice A (s.n * 64) c) (s.n * 64) (bsC s.laid) ∧ Below W.heap.size W W' := by
  obtain ⟨⟨vl, vq, hD, hO⟩, hB⟩ := h
  obtain ⟨Al, cl, Aq, cq, rfl, rfl⟩ := hD.forms
  exact laid_any g s Al cl _ w.heap.size W hD hs
theorem kon (h : Ks w W g s O) : Calls Try.prog 19 #[.pointer (some ⟨g, 0, none⟩)] W fun e W' => e = .returned (.bool (!s.off)) ∧ W = W' := by
  obtain ⟨⟨vl, vq, hD, hO⟩, hB⟩ := h
  exact on_any g s.off W (hD.blk.cell 0)
theorem kwaiting (h : Ks w W g s O) : Calls Try.prog 18 #[.pointer (some ⟨g, 0, none⟩)] W fun e W' => e = .returned (.int .i64 s.line.length) ∧ W = W' := by
  obtain ⟨⟨vl, vq, hD, hO⟩, hB⟩ := h
  obtain ⟨Al, cl, Aq, cq, rfl, rfl⟩ := hD.forms
  exact waiting_any g Aq s.line.length cq W (hD.blk.cell 4)
theorem knew (n : Nat) (w : World) {w0 : World} (h1 : 1 ≤ n) (h2 : n ≤ 4096) (h0 : Below w0.heap.size w0 w) : Calls Try.prog 7 #[.int .i64 n] w fun e w' => ∃ g, e = .returned (.tuple #[.pointer (some ⟨g, 0, none⟩), .int .i64 0]) ∧
      Ks w0 w' g (new0 n) (fun _ => False) ∧ Below w.heap.size w w' := by
  refine (new_any n w h1 h2).mono ?_
  rintro e w' ⟨g, vl, rfl, hD, hB⟩
  exact ⟨g, rfl, ⟨⟨vl, _, ⟨hD.blk, own_mono hD.laid h0.size, own_mono hD.line h0.size, Nat.le_trans h0.size hD.lo⟩, fun k hk => hk.elim⟩, h0.trans (hB.mono h0.size)⟩, hB⟩
end

end Go.Proofs.Ytpffdlnjpjoikaa
