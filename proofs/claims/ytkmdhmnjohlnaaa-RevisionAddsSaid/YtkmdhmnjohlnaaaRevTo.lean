/-
  The contract of creellaw10.To: a package of at most four revisions.
-/
import Derived.Test.YtkmdhmnjohlnaaaRevTT
namespace Go.Proofs.Ytkmdhmnjohlnaaa
open Go.RowKit

theorem cut_any (s : ByteArray) (w : World) (hs : s.size ≤ 9223372036854775807) : Calls Try.prog 27 #[.string s] w fun e w' => (∃ s' : ByteArray, s'.size ≤ 40 ∧ e = .returned (.string s')) ∧ w = w' := by
  by_cases h : s.size ≤ 40
  · go_enter Try.func27, Try.ntmps27
    go_wp2
    go_ret
    exact ⟨⟨_, by omega, rfl⟩, rfl⟩
  · have h' : ¬ (s.size : Int) ≤ 40 := by omega
    go_enter Try.func27, Try.ntmps27
    go_wp2
    go_ret
    exact ⟨⟨_, by simp; omega, rfl⟩, rfl⟩

theorem with4e {P : Program} {f : FuncId} {args : Array Value} {w : World} {R : Ending → Prop} {p0 p1 p2 p3 : Addr} {v0 v1 v2 v3 : Value} (hc : Calls P f args w fun e w' => R e ∧ w = w')
    (hS : w.cell? p0 = some v0 ∧ w.cell? p1 = some v1 ∧ w.cell? p2 = some v2 ∧ w.cell? p3 = some v3) :
    Calls P f args w fun e w' => R e ∧ w = w' ∧ (w'.cell? p0 = some v0 ∧ w'.cell? p1 = some v1 ∧ w'.cell? p2 = some v2 ∧ w'.cell? p3 = some v3) :=
  hc.mono fun e w' ⟨h1, h2⟩ => by subst h2; exact ⟨h1, rfl, hS⟩

/-- What region 5 reads of the source. -/
structure SrcS (g : Nat) (A : Option Addr) (n c : Nat) (E : Addr) (r : Rv) (W : World) : Prop where
  sl : W.cell? ⟨g, 3, none⟩ = some (.slice A n c)
  no : W.cell? E = some (.int .i64 r.no)
  seal_ : ∀ j v, (r.seal_.map (Value.int .u8))[j]? = some v → W.cell? ((⟨E.block, E.off + 1, none⟩ : Addr).add j) = some v
  size : W.cell? ⟨E.block, E.off + 33, none⟩ = some (.int .i64 r.size)
theorem SrcS.keep {g : Nat} {A : Option Addr} {n c : Nat} {E : Addr} {r : Rv} {W W' : World} {B : Nat} (h : SrcS g A n c E r W) (hb : Below B W W') (hg : g < B) (hE : E.block < B) : SrcS g A n c E r W' :=
  ⟨(hb.cell (p := ⟨g, 3, none⟩) hg).trans h.sl, (hb.cell hE).trans h.no, fun j v hv => (hb.cell (by rw [block_of_add]; exact hE)).trans (h.seal_ j v hv), (hb.cell (p := ⟨E.block, E.off + 33, none⟩) hE).trans h.size⟩
theorem src_of {g : Nat} {A : Option Addr} {n c : Nat} {E : Addr} {r : Rv} {W : World} (h3 : W.cell? ⟨g, 3, none⟩ = some (.slice A n c)) (hld : ∀ j v, (rvC r)[j]? = some v → W.cell? (E.add j) = some v) : SrcS g A n c E r W := by
  refine ⟨h3, by simpa [Addr.add] using hld 0 _ (rvC_0 r), fun j v hv => ?_, by simpa [Addr.add] using hld 33 _ (rvC_33 r)⟩
  have hj : j < 32 := by have := (List.getElem?_eq_some_iff.1 hv).1; simpa [r.h] using this
  have h1 : (rvC r)[1 + j]? = some v := by
    unfold rvC
    rw [Nat.add_comm, List.getElem?_cons_succ, List.getElem?_append_left (by simp [r.h]; exact hj)]
    exact hv
  have h2 := hld (1 + j) v h1
  have e : (⟨E.block, E.off + 1, none⟩ : Addr) = E.add 1 := by simp [Addr.add]
  rw [e, add_of_add]
  exact h2

theorem yieldsIf_load_at {P : Program} {ops : Array Oper} {S : World → Prop} {op : Oper} {a : Act} (hw : Region.wanted op (yielded ops a.tmps) = true) (ty : TypeId) (x : Operand) (ho : op.op = .load ty x)
    (ad : Addr) (hx : a.eval x = .pointer (some ad)) (cs : List Value) (d : TypeDesc) (hS : ∀ w, S w → ∀ j v, cs[j]? = some v → w.cell? (ad.add j) = some v)
    (hu : P.underlying ty = some d) (hd : d.isRow = true) (hi : (P.info? ty).map (·.size) = some cs.length) : YieldsIf P ops S op (.agg cs.toArray) a :=
  .inl ⟨hw, fun w hw' => by
    unfold execOp
    simp only [ho, hx, Instr.loadAt, Instr.sureAddr, Sem.run_bind, Sem.run_pure, Result.andThen_ok, run_loadVar_at w ad ty cs d (hS w hw') hu hd hi]⟩
theorem by_build {P : Program} {v : Value} {w : World} {m : Sem Value} (h : Sem.run P m w = .ok v w) : Sem.run P (do pure (Next.value (← m))) w = .ok (.value v) w := by
  rw [Sem.run_bind, h]; rfl
theorem infoSeal : (Try.prog.info? 25).map (·.size) = some 32 := by kernel_rfl

theorem infoRef : (Try.prog.info? 24).map (·.size) = some 4 := by kernel_rfl

set_option maxRecDepth 100000 in
set_option maxHeartbeats 4000000 in
theorem to10_any (s1 s2 : ByteArray) (a : Int) (A : Option Addr) (n c : Nat) (l : List Rv) (w : World) (h1 : s1.size ≤ 9223372036854775807) (h2 : s2.size ≤ 9223372036854775807) (hn : n ≤ 9223372036854775807) (hR : Reads w w.heap.size 34 A n (revC l)) :
    Calls Try.prog 7 #[.agg #[.string s1, .string s2, .int .i64 a, .slice A n c]] w fun e w' => ∃ (u1 u2 : ByteArray) (A' : Option Addr) (c' : Nat) (l' : List Rv), u1.size ≤ 40 ∧ u2.size ≤ 40 ∧ l'.length ≤ 4 ∧
      e = .returned (.agg #[.string u1, .string u2, .int .i64 a, .slice A' l'.length c']) ∧ w'.ownsRow w.heap.size 36 34 (.slice A' l'.length c') l'.length (revC l') ∧ Below w.heap.size w w' := by
  have hl := reads_n hR
  obtain ⟨w0, hw0⟩ : ∃ w0, (w.alloc (.cells #[.string s1, .string s2, .int .i64 a, .slice A n c] 24)).alloc (.cells #[.string { data := #[] }, .string { data := #[] }, .int .i64 0, .slice none 0 0] 30) = w0 := ⟨_, rfl⟩
  have hE0 := below_al (below_al (Below.refl w.heap.size w) (.cells #[.string s1, .string s2, .int .i64 a, .slice A n c] 24)) (.cells #[.string { data := #[] }, .string { data := #[] }, .int .i64 0, .slice none 0 0] 30)
  have hX0 := (Blk.new w 24 #[.string s1, .string s2, .int .i64 a, .slice A n c]).alloc (.cells #[.string { data := #[] }, .string { data := #[] }, .int .i64 0, .slice none 0 0] 30)
  have hZ0 := Blk.new' (w := w.alloc (.cells #[.string s1, .string s2, .int .i64 a, .slice A n c] 24)) (g := w.heap.size + 1) (t := 30) (cs := #[.string { data := #[] }, .string { data := #[] }, .int .i64 0, .slice none 0 0]) (by simp)
  have hs0 : ((w.alloc (.cells #[.string s1, .string s2, .int .i64 a, .slice A n c] 24)).alloc (.cells #[.string { data := #[] }, .string { data := #[] }, .int .i64 0, .slice none 0 0] 30)).heap.size = w.heap.size + 2 := by simp
  rw [hw0] at hE0 hX0 hZ0 hs0
  have HRw := Sl.mk hR
  clear hR
  go_enter Try.func7, Try.ntmps7
  go_wp2_with fail
  clear hw0
  go_cut [3] (fun v3 wx => v3 = .pointer (some ⟨w.heap.size + 2, 0, none⟩) ∧ (∃ u1 u2 : ByteArray, u1.size ≤ 40 ∧ u2.size ≤ 40 ∧ Blk wx (w.heap.size + 2) 30 #[.string u1, .string u2, .int .i64 a, .slice none 0 0]) ∧
    Blk wx w.heap.size 24 #[.string s1, .string s2, .int .i64 a, .slice A n c] ∧ Blk wx (w.heap.size + 1) 30 #[.string { data := #[] }, .string { data := #[] }, .int .i64 0, .slice none 0 0] ∧ Below w.heap.size w wx)
  case first =>
    obtain ⟨c0, c1, c2, c3⟩ := hX0.c4
    have hc1 := fun W => cut_any s1 W h1
    have hc2 := fun W => cut_any s2 W h2
    go_region_held3 (fun w' => w'.cell? ⟨w.heap.size, 0, none⟩ = some (.string s1) ∧ w'.cell? ⟨w.heap.size, 1, none⟩ = some (.string s2) ∧ w'.cell? ⟨w.heap.size, 2, none⟩ = some (.int .i64 a) ∧ w'.cell? ⟨w.heap.size, 3, none⟩ = some (.slice A n c)) (first | assumption | go_simp)
      (first
        | (go_at_call 27; refine (with4e (p0 := ⟨w.heap.size, 0, none⟩) (v0 := (.string s1)) (p1 := ⟨w.heap.size, 1, none⟩) (v1 := (.string s2)) (p2 := ⟨w.heap.size, 2, none⟩) (v2 := (.int .i64 a)) (p3 := ⟨w.heap.size, 3, none⟩) (v3 := (.slice A n c)) (hc1 _) ?_).mono ?_; (focus assumption); rintro e w4 ⟨⟨u1, hu1, rfl⟩, rfl, hS⟩)
        | (go_at_call 27; refine (with4e (p0 := ⟨w.heap.size, 0, none⟩) (v0 := (.string s1)) (p1 := ⟨w.heap.size, 1, none⟩) (v1 := (.string s2)) (p2 := ⟨w.heap.size, 2, none⟩) (v2 := (.int .i64 a)) (p3 := ⟨w.heap.size, 3, none⟩) (v3 := (.slice A n c)) (hc2 _) ?_).mono ?_; (focus assumption); rintro e w5 ⟨⟨u2, hu2, rfl⟩, rfl, hS⟩))
    all_goals
      (try go_wp2_with fail)
      go_meet
      exact ⟨rfl, ⟨u1, u2, hu1, hu2, (Blk.new' (by rw [hs0])).drew⟩, (hX0.alloc _).drew, (hZ0.alloc _).drew, (below_al hE0 _).drew⟩
  case rest =>
    obtain ⟨rfl, ⟨u1, u2, hu1, hu2, hP⟩, hX, hZ, hE⟩ := hcut
    clear hE0 hX0 hZ0 hs0
    go_wp2_with fail
    go_loopw [4] (fun s4 wr => ∃ (i : Nat) (A' : Option Addr) (c' : Nat), i ≤ 4 ∧ i ≤ n ∧ s4 = .int .i64 i ∧ Blk wr (w.heap.size + 2) 30 #[.string u1, .string u2, .int .i64 a, .slice A' i c'] ∧
      wr.ownsRow (w.heap.size + 3) 36 34 (.slice A' i c') i (revC (l.take i)) ∧ Blk wr w.heap.size 24 #[.string s1, .string s2, .int .i64 a, .slice A n c] ∧ Blk wr (w.heap.size + 1) 30 #[.string { data := #[] }, .string { data := #[] }, .int .i64 0, .slice none 0 0] ∧ Below w.heap.size w wr) (fun s4 _ => n - (intOf s4).toNat)
    case atStart => exact ⟨0, none, 0, by omega, by omega, rfl, hP, World.ownsRow_nil _ _ _ _, hX, hZ, hE⟩
    case round =>
      obtain ⟨i, A', c', hi4, hin, rfl, hP, hown, hX, hZ, hE⟩ := hrel
      obtain ⟨c0, c1, c2, c3⟩ := hX.c4
      by_cases hin' : i < n
      · by_cases hi4' : i < 4
        · have e1 : decide ((i : Int) < n) = true := by simp; omega
          have e2 : decide ((i : Int) < 4) = true := by simp; omega
          obtain ⟨r, hr⟩ : ∃ r, l[i]? = some r := ⟨_, List.getElem?_eq_getElem (by rw [hl]; exact hin')⟩
          obtain ⟨ad, rfl, hbl, hld, hd0⟩ := reads_load (HRw.out.below hE) hr
          have HT := Sl.mk (take_snoc hr)
          have hSr := src_of c3 hld
          clear hr hd0 hld
          go_wp2_with fail
          obtain ⟨i0, hi0, hz0, hz1, hz2⟩ := info_parts rvInfo
          have hzs : zeroRv.cells.size = 34 := by rfl
          have h63 : i + 1 ≤ maxLen := by unfold maxLen; omega
          have hby : (i + 1) * 48 ≤ 140737488355328 := by omega
          have hsz := hP.lt
          have hbase : w.heap.size + 3 ≤ (wr.drew.alloc (.cells (rvC r).toArray 36)).heap.size := by
            show _ ≤ (wr.alloc (.cells (rvC r).toArray 36)).heap.size
            simp; omega
          have hEb : (ad.add (i * 34)).block < w.heap.size := by rw [block_of_add]; exact hbl
          have hown8 : (wr.drew.alloc (.cells (rvC r).toArray 36)).ownsRow (w.heap.size + 3) 36 34 (.slice A' i c') i (revC (l.take i)) := own_below (own_below hown (Below.refl wr.heap.size wr).drew) (below_al (Below.refl _ _) _)
          have hP8 : Blk (wr.drew.alloc (.cells (rvC r).toArray 36)) (w.heap.size + 2) 30 #[.string u1, .string u2, .int .i64 a, .slice A' i c'] := hP.drew.alloc _
          have hB8 : Below (w.heap.size + 2) wr.drew (wr.drew.alloc (.cells (rvC r).toArray 36)) := (Below.refl _ wr.drew).alloc (by show w.heap.size + 2 ≤ wr.heap.size; omega) _
          have c3p := hP.drew.cell 3
          have c3q := hP8.cell 3
          have c3w := hP.cell 3
          have h34 := rvC_len r
          have hfold := fold_rv r #[.int .i64 0, .int .u8 0, .int .u8 0, .int .u8 0, .int .u8 0, .int .u8 0, .int .u8 0, .int .u8 0, .int .u8 0, .int .u8 0, .int .u8 0, .int .u8 0, .int .u8 0, .int .u8 0, .int .u8 0, .int .u8 0, .int .u8 0, .int .u8 0, .int .u8 0, .int .u8 0, .int .u8 0, .int .u8 0, .int .u8 0, .int .u8 0, .int .u8 0, .int .u8 0, .int .u8 0, .int .u8 0, .int .u8 0, .int .u8 0, .int .u8 0, .int .u8 0, .int .u8 0, .int .i64 0] (by rfl)
          have hik : (0 : Int) ≤ (i : Int) := by omega
          have hik2 : (i : Int) < (n : Int) := by omega
          have hS8 := (hSr.keep (B := w.heap.size + 2) (Below.refl _ wr).drew (by omega) (by omega)).keep (B := w.heap.size + 2) (W' := wr.drew.alloc (.cells (rvC r).toArray 36)) hB8 (by omega) (by omega)
          refine wp_region_noPanic ?_
          refine wp_region_held_drew (S := SrcS w.heap.size (some ad) n c (ad.add (i * 34)) r) (by kernel_rfl) (hSr.keep (B := w.heap.size + 2) (Below.refl _ wr).drew (by omega) (by omega)) (fun hSd => ?_)
          refine wpAnyH_takeL (i := 0) (v := .pointer (some ⟨w.heap.size + 2, 3, none⟩)) rfl (by kernel_rfl) (by kernel_rfl) (by kernel_rfl) (fun _ _ _ h => h) (.inl ⟨by rfl, fun w' hw' => by go_simp⟩) hSd ?_
          simp only [Act.put, List.setIfInBounds_toArray, List.set_cons_zero, List.set_cons_succ]
          refine wpAnyH_takeL (i := 2) (v := .pointer (some ⟨w.heap.size, 3, none⟩)) rfl (by kernel_rfl) (by kernel_rfl) (by kernel_rfl) (fun _ _ _ h => h) (.inl ⟨by rfl, fun w' hw' => by go_simp⟩) hSd ?_
          simp only [Act.put, List.setIfInBounds_toArray, List.set_cons_zero, List.set_cons_succ]
          refine wpAnyH_takeL (i := 3) (v := .slice (some ad) n c) rfl (by kernel_rfl) (by kernel_rfl) (by kernel_rfl) (fun _ _ _ h => h) (.inl ⟨by rfl, fun w' hw' => by have q1 := hw'.sl; have q2 := hw'.no; have q3 := hw'.size; clear hw'; go_simp⟩) hSd ?_
          simp only [Act.put, List.setIfInBounds_toArray, List.set_cons_zero, List.set_cons_succ]
          refine wpAnyH_takeL (i := 4) (v := .int .i64 i) rfl (by kernel_rfl) (by kernel_rfl) (by kernel_rfl) (fun _ _ _ h => h) (.inl ⟨by rfl, fun w' hw' => by go_simp⟩) hSd ?_
          simp only [Act.put, List.setIfInBounds_toArray, List.set_cons_zero, List.set_cons_succ]
          refine wpAnyH_takeL (i := 5) (v := .pointer (some (ad.add (i * 34)))) rfl (by kernel_rfl) (by kernel_rfl) (by kernel_rfl) (fun _ _ _ h => h) (.inl ⟨by rfl, fun w' hw' => by go_simp⟩) hSd ?_
          simp only [Act.put, List.setIfInBounds_toArray, List.set_cons_zero, List.set_cons_succ]
          refine wpAnyH_takeL (i := 6) (v := .pointer (some (ad.add (i * 34)))) rfl (by kernel_rfl) (by kernel_rfl) (by kernel_rfl) (fun _ _ _ h => h) (.inl ⟨by rfl, fun w' hw' => by go_simp⟩) hSd ?_
          simp only [Act.put, List.setIfInBounds_toArray, List.set_cons_zero, List.set_cons_succ]
          refine wpAnyH_takeL (i := 7) (v := .int .i64 r.no) rfl (by kernel_rfl) (by kernel_rfl) (by kernel_rfl) (fun _ _ _ h => h) (.inl ⟨by rfl, fun w' hw' => by have q1 := hw'.sl; have q2 := hw'.no; have q3 := hw'.size; clear hw'; go_simp⟩) hSd ?_
          simp only [Act.put, List.setIfInBounds_toArray, List.set_cons_zero, List.set_cons_succ]
          refine wpAnyH_takeL (i := 8) (v := .pointer (some ⟨w.heap.size, 3, none⟩)) rfl (by kernel_rfl) (by kernel_rfl) (by kernel_rfl) (fun _ _ _ h => h) (.inl ⟨by rfl, fun w' hw' => by go_simp⟩) hSd ?_
          simp only [Act.put, List.setIfInBounds_toArray, List.set_cons_zero, List.set_cons_succ]
          refine wpAnyH_takeL (i := 9) (v := .slice (some ad) n c) rfl (by kernel_rfl) (by kernel_rfl) (by kernel_rfl) (fun _ _ _ h => h) (.inl ⟨by rfl, fun w' hw' => by have q1 := hw'.sl; have q2 := hw'.no; have q3 := hw'.size; clear hw'; go_simp⟩) hSd ?_
          simp only [Act.put, List.setIfInBounds_toArray, List.set_cons_zero, List.set_cons_succ]
          refine wpAnyH_takeL (i := 10) (v := .int .i64 i) rfl (by kernel_rfl) (by kernel_rfl) (by kernel_rfl) (fun _ _ _ h => h) (.inl ⟨by rfl, fun w' hw' => by go_simp⟩) hSd ?_
          simp only [Act.put, List.setIfInBounds_toArray, List.set_cons_zero, List.set_cons_succ]
          refine wpAnyH_takeL (i := 11) (v := .pointer (some (ad.add (i * 34)))) rfl (by kernel_rfl) (by kernel_rfl) (by kernel_rfl) (fun _ _ _ h => h) (.inl ⟨by rfl, fun w' hw' => by go_simp⟩) hSd ?_
          simp only [Act.put, List.setIfInBounds_toArray, List.set_cons_zero, List.set_cons_succ]
          refine wpAnyH_takeL (i := 12) (v := .pointer (some ⟨(ad.add (i * 34)).block, (ad.add (i * 34)).off + 1, none⟩)) rfl (by kernel_rfl) (by kernel_rfl) (by kernel_rfl) (fun _ _ _ h => h) (.inl ⟨by rfl, fun w' hw' => by go_simp⟩) hSd ?_
          simp only [Act.put, List.setIfInBounds_toArray, List.set_cons_zero, List.set_cons_succ]
          refine wpAnyH_takeL (i := 13) (v := .agg (r.seal_.map (Value.int .u8)).toArray) rfl (by kernel_rfl) (by kernel_rfl) (by kernel_rfl) (fun _ _ _ h => h) (yieldsIf_load_at (by rfl) 25 (.tmp 37) rfl _ rfl (r.seal_.map (Value.int .u8)) _ (fun _ hw' => hw'.seal_) Try.underlying25 rfl (by rw [infoSeal]; simp [r.h])) hSd ?_
          simp only [Act.put, List.setIfInBounds_toArray, List.set_cons_zero, List.set_cons_succ]
          refine wpAnyH_takeL (i := 14) (v := .pointer (some ⟨w.heap.size, 3, none⟩)) rfl (by kernel_rfl) (by kernel_rfl) (by kernel_rfl) (fun _ _ _ h => h) (.inl ⟨by rfl, fun w' hw' => by go_simp⟩) hSd ?_
          simp only [Act.put, List.setIfInBounds_toArray, List.set_cons_zero, List.set_cons_succ]
          refine wpAnyH_takeL (i := 15) (v := .slice (some ad) n c) rfl (by kernel_rfl) (by kernel_rfl) (by kernel_rfl) (fun _ _ _ h => h) (.inl ⟨by rfl, fun w' hw' => by have q1 := hw'.sl; have q2 := hw'.no; have q3 := hw'.size; clear hw'; go_simp⟩) hSd ?_
          simp only [Act.put, List.setIfInBounds_toArray, List.set_cons_zero, List.set_cons_succ]
          refine wpAnyH_takeL (i := 16) (v := .int .i64 i) rfl (by kernel_rfl) (by kernel_rfl) (by kernel_rfl) (fun _ _ _ h => h) (.inl ⟨by rfl, fun w' hw' => by go_simp⟩) hSd ?_
          simp only [Act.put, List.setIfInBounds_toArray, List.set_cons_zero, List.set_cons_succ]
          refine wpAnyH_takeL (i := 17) (v := .pointer (some (ad.add (i * 34)))) rfl (by kernel_rfl) (by kernel_rfl) (by kernel_rfl) (fun _ _ _ h => h) (.inl ⟨by rfl, fun w' hw' => by go_simp⟩) hSd ?_
          simp only [Act.put, List.setIfInBounds_toArray, List.set_cons_zero, List.set_cons_succ]
          refine wpAnyH_takeL (i := 18) (v := .pointer (some ⟨(ad.add (i * 34)).block, (ad.add (i * 34)).off + 33, none⟩)) rfl (by kernel_rfl) (by kernel_rfl) (by kernel_rfl) (fun _ _ _ h => h) (.inl ⟨by rfl, fun w' hw' => by go_simp⟩) hSd ?_
          simp only [Act.put, List.setIfInBounds_toArray, List.set_cons_zero, List.set_cons_succ]
          refine wpAnyH_takeL (i := 19) (v := .int .i64 r.size) rfl (by kernel_rfl) (by kernel_rfl) (by kernel_rfl) (fun _ _ _ h => h) (.inl ⟨by rfl, fun w' hw' => by have q1 := hw'.sl; have q2 := hw'.no; have q3 := hw'.size; clear hw'; go_simp⟩) hSd ?_
          simp only [Act.put, List.setIfInBounds_toArray, List.set_cons_zero, List.set_cons_succ]
          refine wpAnyH_takeL (i := 20) (v := .agg (rvC r).toArray) rfl (by kernel_rfl) (by kernel_rfl) (by kernel_rfl) (fun _ _ _ h => h) (.inl ⟨by rfl, fun w' _ => by unfold execOp; simp only [List.map_toArray, List.map_cons, List.map_nil]; exact by_build (build_rv r w')⟩) hSd ?_
          simp only [Act.put, List.setIfInBounds_toArray, List.set_cons_zero, List.set_cons_succ]
          refine wpAnyH_twoL (i := 1) (j := 21) rfl rfl (by kernel_rfl) rfl rfl ?_ ?_
          · refine wp_of_run (v := .slice A' i c') (w' := wr.drew) (by go_simp) ⟨hSd, ?_⟩
            simp only [Act.put, List.setIfInBounds_toArray, List.set_cons_zero, List.set_cons_succ]
            refine wpAnyH_oneL (k := 21) rfl (by kernel_rfl) rfl ?_
            refine wp_of_run (v := .slice (some ⟨wr.heap.size, 0, none⟩) 1 1) (w' := wr.drew.alloc (.cells (rvC r).toArray 36)) (by go_simp) ⟨hS8, ?_⟩
            simp only [Act.put, List.setIfInBounds_toArray, List.set_cons_zero, List.set_cons_succ]
            refine wpAnyH_oneL (k := 22) rfl (by kernel_rfl) rfl ?_
            refine wp_append_any _ (.tmp 26) (.tmp 46) 28 rfl (w.heap.size + 3) 36 i0 zeroRv 34 48 Try.underlying28 hi0 hz0 hz1 hz2 hzs (by decide) _ _ _ rfl hown8 (wr.heap.size + 1) _ 1 1 (rvC r) rfl (reads_one wr.drew r) (rvC_one r) h63 hby hbase ?_
            intro v9 w9 hown9 hG9 hb9
            obtain ⟨A9, c9, rfl⟩ := ownForm hown9
            have hB9 : Below (w.heap.size + 2) wr.drew w9 := hB8.grown hG9 (by have := hB8.size; omega) (fun x hx => by have := ownGe hown8 hx; omega)
            have hP9 := hP8.grown hG9 (fun e => by have := ownGe hown8 e.symm; omega)
            have q3 := hP9.cell 3
            have p3 := hP9.frozen 3
            have hP10 : Blk (w9.setCell ⟨w.heap.size + 2, 3, none⟩ (.slice A9 (i + 1) c9)) (w.heap.size + 2) 30 #[.string u1, .string u2, .int .i64 a, .slice A9 (i + 1) c9] := blk_set _ _ _ _ 3 _ _ hP9 rfl
            have hO10 := hown9.kept (only_setCell (only_refl w9 (some (w.heap.size + 2))) 3 (.slice A9 (i + 1) c9)) (ownNe hown9 (by omega))
            have hB10 : Below (w.heap.size + 2) wr.drew (w9.setCell ⟨w.heap.size + 2, 3, none⟩ (.slice A9 (i + 1) c9)) := below_only hB9 (only_setCell (only_refl w9 (some (w.heap.size + 2))) 3 _) (by have := hB9.size; have := hP.lt; show w.heap.size + 2 ≤ w9.heap.size; have h5 : wr.drew.heap.size = wr.heap.size := rfl; omega) (Nat.le_refl _)
            have hS9 := hSd.keep hB9 (by omega) (by omega)
            have hS10 := hSd.keep hB10 (by omega) (by omega)
            refine ⟨hS9, ?_⟩
            simp only [Act.put, List.setIfInBounds_toArray, List.set_cons_zero, List.set_cons_succ]
            refine wpAnyH_oneL (k := 23) rfl (by kernel_rfl) rfl ?_
            refine wp_of_run (v := .pointer (some ⟨w.heap.size + 2, 3, none⟩)) (w' := w9) (by go_simp) ⟨hS9, ?_⟩
            simp only [Act.put, List.setIfInBounds_toArray, List.set_cons_zero, List.set_cons_succ]
            refine wpAnyH_oneL (k := 24) rfl (by kernel_rfl) rfl ?_
            refine wp_of_skip (w' := w9.setCell ⟨w.heap.size + 2, 3, none⟩ (.slice A9 (i + 1) c9)) (by go_simp) ⟨hS10, ?_⟩
            simp only [Act.put]
            refine wpAnyH_done (by kernel_rfl) ?_ _
            refine NoPanic.normal ?_
            have hX10 := hX.drew.below hB10 (by omega)
            have hZ10 := hZ.drew.below hB10 (by omega)
            have hE10 := hE.drew.trans (hB10.mono (by omega))
            clear hSd hS9 hS10 hB9 hB10 hP9 hown9 hown8 hG9 hb9 q3 p3
            go_wp2_with fail
            go_roundw
            case rel => exact ⟨i + 1, A9, c9, by omega, by omega, by go_num, hP10, by rw [HT.out, revC_append]; simpa [revC] using hO10, hX10, hZ10, hE10⟩
            case measure => simp [intOf]; omega
          · refine wp_of_run (v := .slice (some ⟨wr.heap.size, 0, none⟩) 1 1) (w' := wr.drew.alloc (.cells (rvC r).toArray 36)) (by go_simp) ⟨hS8, ?_⟩
            simp only [Act.put, List.setIfInBounds_toArray, List.set_cons_zero, List.set_cons_succ]
            refine wpAnyH_oneL (k := 1) rfl (by kernel_rfl) rfl ?_
            refine wp_of_run (v := .slice A' i c') (w' := wr.drew.alloc (.cells (rvC r).toArray 36)) (by go_simp) ⟨hS8, ?_⟩
            simp only [Act.put, List.setIfInBounds_toArray, List.set_cons_zero, List.set_cons_succ]
            refine wpAnyH_oneL (k := 22) rfl (by kernel_rfl) rfl ?_
            refine wp_append_any _ (.tmp 26) (.tmp 46) 28 rfl (w.heap.size + 3) 36 i0 zeroRv 34 48 Try.underlying28 hi0 hz0 hz1 hz2 hzs (by decide) _ _ _ rfl hown8 (wr.heap.size + 1) _ 1 1 (rvC r) rfl (reads_one wr.drew r) (rvC_one r) h63 hby hbase ?_
            intro v9 w9 hown9 hG9 hb9
            obtain ⟨A9, c9, rfl⟩ := ownForm hown9
            have hB9 : Below (w.heap.size + 2) wr.drew w9 := hB8.grown hG9 (by have := hB8.size; omega) (fun x hx => by have := ownGe hown8 hx; omega)
            have hP9 := hP8.grown hG9 (fun e => by have := ownGe hown8 e.symm; omega)
            have q3 := hP9.cell 3
            have p3 := hP9.frozen 3
            have hP10 : Blk (w9.setCell ⟨w.heap.size + 2, 3, none⟩ (.slice A9 (i + 1) c9)) (w.heap.size + 2) 30 #[.string u1, .string u2, .int .i64 a, .slice A9 (i + 1) c9] := blk_set _ _ _ _ 3 _ _ hP9 rfl
            have hO10 := hown9.kept (only_setCell (only_refl w9 (some (w.heap.size + 2))) 3 (.slice A9 (i + 1) c9)) (ownNe hown9 (by omega))
            have hB10 : Below (w.heap.size + 2) wr.drew (w9.setCell ⟨w.heap.size + 2, 3, none⟩ (.slice A9 (i + 1) c9)) := below_only hB9 (only_setCell (only_refl w9 (some (w.heap.size + 2))) 3 _) (by have := hB9.size; have := hP.lt; show w.heap.size + 2 ≤ w9.heap.size; have h5 : wr.drew.heap.size = wr.heap.size := rfl; omega) (Nat.le_refl _)
            have hS9 := hSd.keep hB9 (by omega) (by omega)
            have hS10 := hSd.keep hB10 (by omega) (by omega)
            refine ⟨hS9, ?_⟩
            simp only [Act.put, List.setIfInBounds_toArray, List.set_cons_zero, List.set_cons_succ]
            refine wpAnyH_oneL (k := 23) rfl (by kernel_rfl) rfl ?_
            refine wp_of_run (v := .pointer (some ⟨w.heap.size + 2, 3, none⟩)) (w' := w9) (by go_simp) ⟨hS9, ?_⟩
            simp only [Act.put, List.setIfInBounds_toArray, List.set_cons_zero, List.set_cons_succ]
            refine wpAnyH_oneL (k := 24) rfl (by kernel_rfl) rfl ?_
            refine wp_of_skip (w' := w9.setCell ⟨w.heap.size + 2, 3, none⟩ (.slice A9 (i + 1) c9)) (by go_simp) ⟨hS10, ?_⟩
            simp only [Act.put]
            refine wpAnyH_done (by kernel_rfl) ?_ _
            refine NoPanic.normal ?_
            have hX10 := hX.drew.below hB10 (by omega)
            have hZ10 := hZ.drew.below hB10 (by omega)
            have hE10 := hE.drew.trans (hB10.mono (by omega))
            clear hSd hS9 hS10 hB9 hB10 hP9 hown9 hown8 hG9 hb9 q3 p3
            go_wp2_with fail
            go_roundw
            case rel => exact ⟨i + 1, A9, c9, by omega, by omega, by go_num, hP10, by rw [HT.out, revC_append]; simpa [revC] using hO10, hX10, hZ10, hE10⟩
            case measure => simp [intOf]; omega
        · obtain rfl : i = 4 := by omega
          have e1 : decide (((4 : Nat) : Int) < n) = true := by simp; omega
          have hX' := Sl.mk hX
          clear hX HRw
          go_wp2_with (first | refine ld_pk hP rfl (.tmp 3) rfl rfl rfl ?_ | refine st_pk hZ rfl (.tmp 2) (.tmp 49) rfl u1 u2 a A' 4 c' rfl rfl rfl ?_)
          intro w5 hZ5 hG5 _
          have hO5 := hown.kept hG5 (ownNe hown (by omega))
          have hE5 := below_only hE hG5 hE.size (by omega)
          go_wp2_with fail
          refine bodyPost_ret (v := .agg #[.string u1, .string u2, .int .i64 a, .slice A' 4 c']) (res_cell Try.results7 _ _ _ rfl hZ5 Try.underlying30 infoPk) rfl ?_
          have ht : (l.take 4).length = 4 := by rw [List.length_take, hl]; omega
          exact ⟨u1, u2, A', c', l.take 4, hu1, hu2, by omega, by rw [ht], by rw [ht]; exact own_mono hO5 (by omega), hE5⟩
      · obtain rfl : i = n := by omega
        have hX' := Sl.mk hX
        clear hX HRw
        go_wp2_with (first | refine ld_pk hP rfl (.tmp 3) rfl rfl rfl ?_ | refine st_pk hZ rfl (.tmp 2) (.tmp 49) rfl u1 u2 a A' i c' rfl rfl rfl ?_)
        intro w5 hZ5 hG5 _
        have hO5 := hown.kept hG5 (ownNe hown (by omega))
        have hE5 := below_only hE hG5 hE.size (by omega)
        go_wp2_with fail
        refine bodyPost_ret (v := .agg #[.string u1, .string u2, .int .i64 a, .slice A' i c']) (res_cell Try.results7 _ _ _ rfl hZ5 Try.underlying30 infoPk) rfl ?_
        have ht : (l.take i).length = i := by rw [List.length_take, hl]; omega
        exact ⟨u1, u2, A', c', l.take i, hu1, hu2, by omega, by rw [ht], by rw [ht]; exact own_mono hO5 (by omega), hE5⟩

end Go.Proofs.Ytkmdhmnjohlnaaa
