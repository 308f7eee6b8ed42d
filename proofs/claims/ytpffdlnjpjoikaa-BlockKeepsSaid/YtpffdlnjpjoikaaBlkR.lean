/-
  The walk of the law BlockLast.
-/
import Derived.Test.YtpffdlnjpjoikaaBlkQ
namespace Go.Proofs.Ytpffdlnjpjoikaa
open Go.RowKit
attribute [local go_sem ↓] Go.wp_at_zero Go.wp_at_succ

def lvV : Option (Nat × List Int) → Value
  | none => .slice none 0 0
  | some (b, _) => .slice (some ⟨b, 0, none⟩) 64 64
def lvC (LV : List (Option (Nat × List Int))) : List Value := LV.map lvV
def lvB : Option (Nat × List Int) → List Int
  | none => []
  | some (_, x) => x
def lv0 : List (Option (Nat × List Int)) := List.replicate 8 none
theorem mk8 (w : World) : (Instr.makeSlice 27 (.int .i64 8) (.int .i64 8)).run Try.prog w = .ok (.slice (some ⟨w.heap.size, 0, none⟩) 8 8) (w.alloc (.cells (lvC lv0).toArray 30)) := by kernel_rfl
theorem fullF_id {x : List Int} (h : x.length = 64) : fullF x = x := by
  unfold fullF
  rw [List.take_of_length_le (by omega), show 64 - x.length = 0 by omega]; simp

/-- What is in use beside the disk. -/
def LO (gl : Nat) (LV : List (Option (Nat × List Int))) (kv : Value) (x : Nat) : Prop := x = gl ∨ kv.ownBlock = some x ∨ ∃ y, some (x, y) ∈ LV
structure LS (w W : World) (g gl : Nat) (s : DSt) (LV : List (Option (Nat × List Int))) (kv : Value) (k : Nat) : Prop where
  ks : Ks w W g s (LO gl LV kv)
  last : Blk W gl 30 (lvC LV).toArray
  el : ∀ b x, some (b, x) ∈ LV → Blk W b 5 (bsC x).toArray ∧ x.length = 64
  keep : W.ownsRow w.heap.size 3 1 kv k (isC (upK k))
  gl0 : w.heap.size ≤ gl
theorem row_keep {W W' : World} {O : Nat → Prop} {base n size : Nat} {e : TypeId} {v : Value} {xs : List Value} (h : W.ownsRow base e size v n xs) (hk : KeepO W W' O) (hv : ∀ k, v.ownBlock = some k → O k) : W'.ownsRow base e size v n xs := by
  obtain ⟨h1, h2⟩ := h
  refine ⟨h1, ?_⟩
  rcases h2 with h2 | ⟨g, cap, cur, rfl, hb, hh, rest⟩
  · exact .inl h2
  · exact .inr ⟨g, cap, cur, rfl, hb, (hk g (hv g rfl)).trans hh, rest⟩
section
variable {w W W' : World} {g gl k : Nat} {s s' : DSt} {LV : List (Option (Nat × List Int))} {kv : Value}
theorem LS.disk (h : LS w W g gl s LV kv k) (hk : Ks w W' g s' (LO gl LV kv)) (hO : KeepO W W' (LO gl LV kv)) : LS w W' g gl s' LV kv k :=
  ⟨hk, (hO gl (.inl rfl)).trans h.last, fun b x hx => ⟨(hO b (.inr (.inr ⟨x, hx⟩))).trans (h.el b x hx).1, (h.el b x hx).2⟩, row_keep h.keep hO (fun _ hk => .inr (.inl hk)), h.gl0⟩
theorem LS.be (h : LS w W g gl s LV kv k) (hb : Below W.heap.size W W') : LS w W' g gl s LV kv k := h.disk (h.ks.be hb) (h.ks.keep hb)
/-- The keep's row goes. -/
theorem LS.nokeep (h : LS w W g gl s LV kv k) : LS w W g gl s LV (.slice none 0 0) 0 :=
  ⟨h.ks.sub (fun _ hk => by
    rcases hk with h | h | h
    · exact .inl h
    · simp [Value.ownBlock] at h
    · exact .inr (.inr h)), h.last, h.el, World.ownsRow_nil _ _ _ _, h.gl0⟩
/-- A new row of bytes takes its place in 'last'. -/
theorem LS.put (h : LS w W g gl s LV kv k) {b : Nat} {x : List Int} {no : Nat} (hb : Below W.heap.size W W') (hX : Blk W' b 5 (bsC x).toArray) (h1 : W.heap.size ≤ b) (hx : x.length = 64) : LS w (W'.setCell ⟨gl, no, none⟩ (.slice (some ⟨b, 0, none⟩) 64 64)) g gl s (LV.set no (some (b, x))) kv k := by
  have hL := h.be hb
  have hK := h.ks.add hb h1 hX.lt
  have hglt := h.last.lt
  have hT : Touch W' (W'.setCell ⟨gl, no, none⟩ (.slice (some ⟨b, 0, none⟩) 64 64)) (fun k => k = gl) := Touch.set (M := fun k => k = gl) rfl _
  have hne : ∀ c y, some (c, y) ∈ LV → c ≠ gl := fun c y hc e => by
    subst e
    exact Blk.ne_ (hL.el c y hc).1 hL.last (by decide) rfl
  refine ⟨?_, ?_, ?_, ?_, h.gl0⟩
  · obtain ⟨⟨vl, vq, hD, hO⟩, hB⟩ := hK
    refine ⟨⟨vl, vq, hD.apart hT (fun k hm e => (hO gl (.inl (.inl rfl))).2 (by rw [← e]; exact hm)), fun k hk => ?_⟩, hB.setCell (p := ⟨gl, no, none⟩) h.gl0 _⟩
    have hk' : (LO gl LV kv k ∨ k = b) := by
      rcases hk with h | h | ⟨y, h⟩
      · exact .inl (.inl h)
      · exact .inl (.inr (.inl h))
      · rcases List.mem_or_eq_of_mem_set h with h | h
        · exact .inl (.inr (.inr ⟨y, h⟩))
        · injection h with h; injection h with h _; exact .inr h
    have := hO k hk'
    exact ⟨by simpa [World.setCell] using this.1, this.2⟩
  · have := hL.last.set_ no (.slice (some ⟨b, 0, none⟩) 64 64)
    have e : (lvC LV).toArray.setIfInBounds no (.slice (some ⟨b, 0, none⟩) 64 64) = (lvC (LV.set no (some (b, x)))).toArray := by
      rw [List.setIfInBounds_toArray]; unfold lvC; rw [List.map_set]; rfl
    rw [e] at this
    exact this
  · intro c y hc
    rcases List.mem_or_eq_of_mem_set hc with h' | h'
    · exact ⟨hT.blk (hL.el c y h').1 (hne c y h'), (hL.el c y h').2⟩
    · injection h' with h'
      injection h' with h1' h2'
      subst h1' h2'
      exact ⟨hT.blk hX (by omega), hx⟩
  · refine hT.row hL.keep (fun c hc e => ?_)
    subst e
    obtain ⟨cs, hcs⟩ := own_typ hL.keep hc
    exact Blk.ne_ hcs hL.last (by decide) rfl
/-- One number more is kept. -/
theorem LS.more (h : LS w W g gl s LV kv k) {B' : World} {kv' : Value} (hb : Below W.heap.size W B') (hG : B'.grownBy W' kv.ownBlock) (hown : W'.ownsRow w.heap.size 3 1 kv' (k + 1) (isC (upK (k + 1)))) (hk : kv'.ownBlock = kv.ownBlock ∨ kv'.ownBlock = some B'.heap.size) : LS w W' g gl s LV kv' (k + 1) := by
  have hL := h.be hb
  have hT : Touch B' W' (fun k => kv.ownBlock = some k) := grown_touch hG (fun k e => e)
  have hlt' : ∀ b, kv'.ownBlock = some b → b < W'.heap.size := fun b e => own_lt' hown e
  refine ⟨?_, hT.blk hL.last (fun e => ?_), fun b x hx => ⟨hT.blk (hL.el b x hx).1 (fun e => ?_), (hL.el b x hx).2⟩, hown, h.gl0⟩
  · obtain ⟨⟨vl, vq, hD, hO⟩, hB⟩ := hL.ks
    refine ⟨⟨vl, vq, hD.apart hT (fun k hm e => (hO k (.inr (.inl e))).2 hm), fun b hb' => ?_⟩, hB.trans (hT.below hB.size (fun b e => ownGe hL.keep e))⟩
    rcases hb' with h' | h' | h'
    · exact ⟨Nat.lt_of_lt_of_le (hO b (.inl h')).1 hT.size, (hO b (.inl h')).2⟩
    · rcases hk with e | e
      · rw [e] at h'
        exact ⟨Nat.lt_of_lt_of_le (hO b (.inr (.inl h'))).1 hT.size, (hO b (.inr (.inl h'))).2⟩
      · refine ⟨hlt' b h', fun hm => ?_⟩
        rw [e] at h'
        injection h' with h'
        have := hD.lt b hm
        omega
    · exact ⟨Nat.lt_of_lt_of_le (hO b (.inr (.inr h'))).1 hT.size, (hO b (.inr (.inr h'))).2⟩
  · obtain ⟨cs, hcs⟩ := own_typ hL.keep e
    exact Blk.ne_ hcs hL.last (by decide) rfl
  · obtain ⟨cs, hcs⟩ := own_typ hL.keep e
    exact Blk.ne_ hcs (hL.el b x hx).1 (by decide) rfl
end

/-- What holds of the disk between two rounds. -/
structure Sem (s : DSt) (LV : List (Option (Nat × List Int))) (k i : Nat) : Prop where
  off : s.off = false
  n : s.n = 8
  ok : ∀ x ∈ s.line, x.no < s.n
  len : s.line.length = k
  ki : k ≤ i
  wr : 0 ≤ s.wr ∧ s.wr ≤ i
  fl : 0 ≤ s.fl ∧ s.fl ≤ i
  lv : LV.length = 8
  sem : ∀ j, j < 8 → readF s j = fullF (lvB (LV.getD j none))
theorem Sem.start : Sem (new0 8) lv0 0 0 :=
  ⟨rfl, rfl, fun x hx => (List.not_mem_nil hx).elim, rfl, Nat.le_refl _, ⟨Int.le_refl 0, Int.le_refl 0⟩, ⟨Int.le_refl 0, Int.le_refl 0⟩, List.length_replicate, by decide +kernel⟩
theorem Sem.flush {s : DSt} {LV : List (Option (Nat × List Int))} {k i : Nat} (h : Sem s LV k i) (hl : s.laid.length = s.n * 64) : Sem { s with laid := layF (fun _ => true) s.laid s.line s.line.length, line := [], fl := s.fl + 1 } LV 0 (i + 1) :=
  ⟨h.off, h.n, fun x hx => by simp at hx, rfl, Nat.zero_le _, ⟨h.wr.1, by have := h.wr.2; simp only; omega⟩, ⟨by have := h.fl.1; simp only; omega, by have := h.fl.2; simp only; omega⟩, h.lv, fun j hj => by
    rw [← h.sem j hj, readF_rd, readF_rd, rd_nil]
    have := sec_lay (p := fun _ => true) (no := j) hl h.ok s.line.length (Nat.le_refl _) (fun _ _ => rfl)
    rw [List.take_length] at this
    exact this⟩
theorem Sem.write {s : DSt} {LV : List (Option (Nat × List Int))} {k i b no : Nat} {x : List Int} (h : Sem s LV k i) (hx : x.length = 64) (hno : no < 8) (hk : k ≤ i) : Sem { s with line := s.line ++ [⟨no, x, hx⟩], wr := s.wr + 1 } (LV.set no (some (b, x))) (k + 1) (i + 1) :=
  ⟨h.off, h.n, fun y hy => by
    rcases List.mem_append.1 hy with h1 | h1
    · exact h.ok y h1
    · simp at h1; subst h1; simp only; rw [h.n]; exact hno, by simp [h.len], by omega, ⟨by have := h.wr.1; simp only; omega, by have := h.wr.2; simp only; omega⟩, ⟨h.fl.1, by have := h.fl.2; simp only; omega⟩, by simp [h.lv], fun j hj => by
    rw [readF_rd]
    by_cases e : no = j
    · subst e
      refine (rd_yes (B := s.laid) (l := s.line) (x := ⟨no, x, hx⟩) rfl).trans ?_
      have : (LV.set no (some (b, x))).getD no none = some (b, x) := by simp [h.lv, hj]
      rw [this, lvB, fullF_id hx]
    · refine (rd_no (B := s.laid) (l := s.line) (x := ⟨no, x, hx⟩) e).trans ?_
      rw [← readF_rd, h.sem j hj]
      have : (LV.set no (some (b, x))).getD j none = LV.getD j none := by simp [List.getD, List.getElem?_set_ne e]
      rw [this]⟩

end Go.Proofs.Ytpffdlnjpjoikaa
