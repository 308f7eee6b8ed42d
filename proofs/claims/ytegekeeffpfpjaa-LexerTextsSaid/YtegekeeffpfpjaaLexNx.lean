/-
  next once more, in one form for all its ends; and the contract of Next.
-/
import Derived.Test.YtegekeeffpfpjaaLexNext
namespace Go.Proofs.Ytegekeeffpfpjaa
open Go.RowKit

/-- What next comes to from a place and a line on: the token (kind, text, line), the error, the place and the line behind. -/
def Nx (s : ByteArray) (a ln : Nat) (K : Int) (T : ByteArray) (L err : Int) (a2 l2 : Nat) : Prop :=
  ∃ b : Nat, a ≤ b ∧ b ≤ s.size ∧ ln ≤ l2 ∧ l2 + a ≤ ln + b ∧ skipL false (s.data.toList.drop a) ln = (s.data.toList.drop b, l2) ∧
    ((b = s.size ∧ K = 0 ∧ T = ⟨#[]⟩ ∧ L = 0 ∧ err = 4 ∧ a2 = b) ∨
     (b < s.size ∧ (sizeL (s.data.toList.drop b)).1 = 0 ∧ K = 0 ∧ T = ⟨#[]⟩ ∧ L = 0 ∧ err = 3 ∧ a2 = b) ∨
     (b < s.size ∧ (sizeL (s.data.toList.drop b)).1 ≠ 0 ∧ longB (sizeL (s.data.toList.drop b)).1 (sizeL (s.data.toList.drop b)).2 = true ∧ K = 0 ∧ T = ⟨#[]⟩ ∧ L = 0 ∧ err = 2 ∧ a2 = b) ∨
     (b < s.size ∧ (sizeL (s.data.toList.drop b)).1 ≠ 0 ∧ longB (sizeL (s.data.toList.drop b)).1 (sizeL (s.data.toList.drop b)).2 = false ∧
       K = (sizeL (s.data.toList.drop b)).2 ∧ T = s.extract b (b + (sizeL (s.data.toList.drop b)).1) ∧ L = l2 ∧ err = 0 ∧ a2 = b + (sizeL (s.data.toList.drop b)).1))

def NextNx (w : World) (g : Nat) (s : ByteArray) (a ln : Nat) (e : Ending) (w' : World) : Prop :=
  ∃ (K : Int) (T : ByteArray) (L err : Int) (a2 l2 : Nat), Nx s a ln K T L err a2 l2 ∧ e = .returned (.tuple #[.agg #[.int .i64 K, .string T, .int .i64 L], .int .i64 err]) ∧ Rd w' g s a2 l2 ∧ w.grownBy w' (some g)

theorem next_nx (g : Nat) (s : ByteArray) (a ln : Nat) (w : World) (hR : Rd w g s a ln) (ha : a ≤ s.size) (hm : s.size ≤ 1000000) (hln : ln ≤ 1000000) :
    Calls Try.prog 14 #[.pointer (some ⟨g, 0, none⟩)] w (NextNx w g s a ln) :=
  (next_any g s a ln w hR ha hm hln).mono fun _ _ ⟨b, l, h1, h2, h3, h4, h5, hG, hc⟩ => by
    rcases hc with ⟨q, rfl, hR2⟩ | ⟨q, q1, rfl, hR2⟩ | ⟨q, q1, q2, rfl, hR2⟩ | ⟨q, q1, q2, rfl, hR2⟩
    · exact ⟨0, ⟨#[]⟩, 0, 4, b, l, ⟨b, h1, h2, h3, h4, h5, .inl ⟨q, rfl, rfl, rfl, rfl, rfl⟩⟩, rfl, hR2, hG⟩
    · exact ⟨0, ⟨#[]⟩, 0, 3, b, l, ⟨b, h1, h2, h3, h4, h5, .inr (.inl ⟨q, q1, rfl, rfl, rfl, rfl, rfl⟩)⟩, rfl, hR2, hG⟩
    · exact ⟨0, ⟨#[]⟩, 0, 2, b, l, ⟨b, h1, h2, h3, h4, h5, .inr (.inr (.inl ⟨q, q1, q2, rfl, rfl, rfl, rfl, rfl⟩))⟩, rfl, hR2, hG⟩
    · exact ⟨_, _, _, 0, _, l, ⟨b, h1, h2, h3, h4, h5, .inr (.inr (.inr ⟨q, q1, q2, rfl, rfl, rfl, rfl, rfl⟩))⟩, rfl, hR2, hG⟩

theorem Nx.le {s : ByteArray} {a ln : Nat} {K : Int} {T : ByteArray} {L err : Int} {a2 l2 : Nat} (h : Nx s a ln K T L err a2 l2) : a ≤ a2 ∧ a2 ≤ s.size ∧ ln ≤ l2 ∧ l2 + a ≤ ln + a2 := by
  obtain ⟨b, h1, h2, h3, h4, h5, hc⟩ := h
  rcases hc with ⟨q, _, _, _, _, rfl⟩ | ⟨q, _, _, _, _, _, rfl⟩ | ⟨q, _, _, _, _, _, _, rfl⟩ | ⟨q, q1, _, _, _, _, _, rfl⟩
  · exact ⟨h1, h2, h3, h4⟩
  · exact ⟨h1, h2, h3, h4⟩
  · exact ⟨h1, h2, h3, h4⟩
  · have := sizeL_le (s.data.toList.drop b) (by rw [len_drop]; omega)
    rw [len_drop] at this
    exact ⟨by omega, by omega, h3, by omega⟩

theorem res_cell_tmp2 {fn : Func} {p u v : Tmp} {ty : TypeId} (h : fn.results = #[.cell p ty, .tmp u, .tmp v]) (tmps : Array Value) (P : Program) (w : World) {g : Nat} {t : TypeId} {cs : Array Value} {fs : Array Field} {x y : Value}
    (hp : tmps.getD p undef = .pointer (some ⟨g, 0, none⟩)) (hB : Blk w g t cs) (hu : P.underlying ty = some (.struct fs))
    (hi : (P.info? ty).map (·.size) = some cs.size) (hx : tmps.getD u undef = x) (hy : tmps.getD v undef = y) :
    (results fn tmps).run P w = .ok (.tuple #[.agg cs, x, y]) w := by
  have hl := run_loadVar_row (P := P) w g t ty cs (0, 0) _ hB hu rfl hi
  subst hx hy
  have hp2 : tmps[p]?.getD undef = .pointer (some ⟨g, 0, none⟩) := by simpa using hp
  simp [results, h, hp2, asAddr, hl]

def NextPub (w : World) (s : ByteArray) (e : Ending) (w' : World) : Prop :=
  ∃ (K : Int) (T : ByteArray) (L err : Int) (a2 l2 : Nat), Nx s 0 1 K T L err a2 l2 ∧ e = .returned (.tuple #[.agg #[.int .i64 K, .string T, .int .i64 L], .int .i64 a2, .int .i64 err]) ∧ Below w.heap.size w w'

set_option maxHeartbeats 1000000 in
theorem Next_any (s : ByteArray) (w : World) (hm : s.size ≤ 1000000) :
    Calls Try.prog 8 #[.string s] w (NextPub w s) := by
  go_enter Try.func8, Try.ntmps8
  go_wp2_with fail
  refine (next_nx (w.heap.size + 1) s 0 1 _ (Blk.new' (by simp)) (by omega) hm (by omega)).mono ?_
  rintro e w1 ⟨K, T, L, err, a2, l2, hN, rfl, hR, hG⟩
  have hZ : Blk w1 w.heap.size 28 #[.int .i64 0, .string ⟨#[]⟩, .int .i64 0] := blk_only ((Blk.new w _ _).alloc _) hG (by omega)
  have hB : Below w.heap.size w w1 := below_only (below_al (below_al (Below.refl _ _) _) _) hG (by simp; omega) (by omega)
  obtain ⟨z0, z1, z2⟩ := hZ.c3
  obtain ⟨y0, y1, y2⟩ := hZ.f3
  obtain ⟨c0, c1, c2⟩ := Blk.c3 hR
  have hz3 := hZ.lt
  have hr3 := Blk.lt hR
  clear hG
  have hS3 := And.intro c0 (And.intro c1 c2)
  go_wp2_with fail
  have hne1 : ¬ w.heap.size = w1.heap.size := by omega
  have hne2 : ¬ w1.heap.size = w.heap.size := by omega
  go_region_held3 (fun w' => w'.cell? ⟨w1.heap.size, 0, none⟩ = some (.int .i64 K) ∧ w'.cell? ⟨w1.heap.size, 1, none⟩ = some (.string T) ∧ w'.cell? ⟨w1.heap.size, 2, none⟩ = some (.int .i64 L) ∧ w'.cell? ⟨w.heap.size + 1, 1, none⟩ = some (.int .i64 a2)) (first | assumption | go_simp) (fail)
  go_wp2_with fail
  refine bodyPost_ret (v := .tuple #[.agg #[.int .i64 K, .string T, .int .i64 L], .int .i64 a2, .int .i64 err]) (res_cell_tmp2 Try.results8 _ _ _ rfl (Blk.drew (Blk.alloc (blk_set3 hZ) _)) Try.underlying28 (by kernel_rfl) rfl rfl) rfl ?_
  exact ⟨K, T, L, err, a2, l2, hN, rfl, Below.drew (below_al (((hB.setCell (p := ⟨w.heap.size, 0, none⟩) (Nat.le_refl _) _).setCell (p := ⟨w.heap.size, 1, none⟩) (Nat.le_refl _) _).setCell (p := ⟨w.heap.size, 2, none⟩) (Nat.le_refl _) _) _)⟩

end Go.Proofs.Ytegekeeffpfpjaa
