/-
  The contract of creellaw12.To.
-/
import Derived.Test.YticcphppnmoogaaGreatDoorBy8

namespace Go.Proofs.YticcphppnmoogaaGreatDoor
open Go.RowKit
attribute [local go_sem ↓] Go.wp_at_zero Go.wp_at_succ

/-- An entry that comes in: as ExOk, of any size. -/
structure InOk (w : World) (B : Nat) (x : Ex) : Prop where
  path : Reads w B 1 x.pa x.e.path.length (strV x.e.path)
  data : Reads w B 1 x.da x.e.data.length (u8s x.e.data)
  pcap : x.e.path.length ≤ x.pc ∧ x.pc ≤ 9223372036854775807
  dcap : x.e.data.length ≤ x.dc ∧ x.dc ≤ 9223372036854775807
  slen : ∀ s ∈ x.e.path, s.size ≤ 9223372036854775807
  byte : ∀ b ∈ x.e.data, b < 256
structure Ins (w : World) (A : Option Addr) (n : Nat) (l : List Ex) : Prop where
  row : Reads w w.heap.size 4 A n (exsC l)
  ok : ∀ x ∈ l, InOk w w.heap.size x
theorem InOk.be {w w' : World} {x : Ex} (h : InOk w w.heap.size x) (hb : Below w.heap.size w w') : InOk w' w'.heap.size x :=
  ⟨(h.path.below hb).more hb.size, (h.data.below hb).more hb.size, h.pcap, h.dcap, h.slen, h.byte⟩
theorem Ins.be {w w' : World} {A : Option Addr} {n : Nat} {l : List Ex} (h : Ins w A n l) (hb : Below w.heap.size w w') : Ins w' A n l :=
  ⟨(h.row.below hb).more hb.size, fun x hx => (h.ok x hx).be hb⟩
theorem Ins.n_ {w : World} {A : Option Addr} {n : Nat} {l : List Ex} (h : Ins w A n l) : l.length = n := by
  have hl := h.row.1
  rw [exsC_len] at hl
  omega
theorem Ins.at_ {w : World} {A : Option Addr} {n : Nat} {l : List Ex} (h : Ins w A n l) {i : Nat} {x : Ex} (hi : l[i]? = some x) :
    ∃ ad, A = some ad ∧ ad.block < w.heap.size ∧ (∀ j v, (exC x)[j]? = some v → w.cell? ((ad.add (i * 4)).add j) = some v) ∧ InOk w w.heap.size x := by
  have hl := h.n_
  have hil : i < l.length := (List.getElem?_eq_some_iff.1 hi).1
  obtain ⟨ad, e, hb, hc⟩ := h.row.2 (by omega)
  exact ⟨ad, e, hb, fun j v hv => by rw [add_of_add]; exact hc _ _ (exsC_at l i x hi j v hv), h.ok x (List.mem_of_getElem? hi)⟩

theorem Ins.lit {w : World} {A : Option Addr} {n : Nat} {l : List Ex} (h : Ins w A n l) {i : Nat} {x : Ex} (hi : l[i]? = some x) :
    ∃ b o, A = some ⟨b, o, none⟩ ∧ b < w.heap.size ∧ (∀ j v, (exC x)[j]? = some v → w.cell? ⟨b, o + i * 4 + j, none⟩ = some v) ∧ InOk w w.heap.size x := by
  obtain ⟨ad, rfl, hb, hc, hok⟩ := h.at_ hi
  have hil : i < l.length := (List.getElem?_eq_some_iff.1 hi).1
  have hl := h.n_
  obtain ⟨ad', e', _, hcc⟩ := h.row.2 (by omega)
  have e'' := Option.some.inj e'
  subst e''
  have hlen : 0 < (exsC l).length := by rw [exsC_len]; omega
  have e := addr_lit (hcc 0 _ (List.getElem?_eq_getElem hlen))
  refine ⟨ad.block, ad.off, by rw [← e], hb, fun j v hv => ?_, hok⟩
  have h1 := hc j v hv
  rw [add_of_add, e, Addr.add_lit] at h1
  rw [Nat.add_assoc]
  exact h1

theorem ownApart {w : World} {b b' n n' s s' : Nat} {e e' : TypeId} {v v' : Value} {xs xs' : List Value} (h : w.ownsRow b e s v n xs) (h' : w.ownsRow b' e' s' v' n' xs') (hne : e ≠ e') : v.ownBlock = none ∨ v.ownBlock ≠ v'.ownBlock := by
  rcases h.2 with ⟨rfl, _⟩ | ⟨g, cap, cur, rfl, _, hh, _⟩
  · exact .inl rfl
  · refine .inr fun e => ?_
    rcases h'.2 with ⟨rfl, _⟩ | ⟨g', cap', cur', rfl, _, hh', _⟩
    · simp [Value.ownBlock] at e
    · have : g = g' := by simpa [Value.ownBlock] using e
      subst this
      rw [hh] at hh'
      injection hh' with hh'
      injection hh' with _ ht
      exact hne ht
theorem ExOwn.grown {w w' : World} {b base size n : Nat} {x : Ex} {T : TypeId} {v : Value} {xs : List Value} (h : ExOwn w b x) (ho : w.ownsRow base T size v n xs) (h1 : 9 ≠ T) (h2 : 5 ≠ T) (hg : w.grownBy w' v.ownBlock) : ExOwn w' b x :=
  ⟨h.path.kept hg (ownApart h.path ho h1), h.data.kept hg (ownApart h.data ho h2), h.plen, h.slen, h.dlen, h.byte⟩

theorem addz (a : Addr) : a.add 0 = a := by simp [Addr.add]
theorem reads_row4 (w : World) (a b c d : Value) (T : TypeId) : Reads (w.alloc (.cells #[a, b, c, d] T)) (w.heap.size + 1) 4 (some ⟨w.heap.size, 0, none⟩) 1 [a, b, c, d] :=
  ⟨rfl, fun _ => ⟨_, rfl, Nat.lt_succ_self _, fun j u hj => by
    have hadd : (⟨w.heap.size, 0, none⟩ : Addr).add j = ⟨w.heap.size, j, none⟩ := by unfold Addr.add; split <;> simp_all
    rw [hadd, (Blk.new w T #[a, b, c, d]).cell j]
    simpa using hj⟩⟩
def Small (x : Ex) : Prop := x.e.path.length ≤ 12 ∧ (∀ s ∈ x.e.path, s.size ≤ 40) ∧ x.e.data.length ≤ 520
theorem refInfo : (Tryz.prog.info? 64).map (fun i => (i.zero, i.size, i.bytes)) = some (some (.agg #[.slice none 0 0, .int .i64 0, .int .i64 0, .slice none 0 0]), 4, 64) := by kernel_rfl

/-- What To has made so far. -/
structure ToSt (w : World) (base : Nat) (v4 v5 : Value) (i : Nat) (l m : List Ex) : Prop where
  o4 : w.ownsRow base 40 4 v4 i (exsC l)
  o5 : w.ownsRow base 64 4 v5 i (exsC m)
  same : l.map (·.e) = m.map (·.e)
  k4 : ∀ x ∈ l, ExOwn w base x ∧ Small x
  k5 : ∀ x ∈ m, ExOwn w base x
theorem ToSt.be {w w' : World} {base i : Nat} {v4 v5 : Value} {l m : List Ex} (h : ToSt w base v4 v5 i l m) (hb : Below w.heap.size w w') : ToSt w' base v4 v5 i l m :=
  ⟨own_below h.o4 hb, own_below h.o5 hb, h.same, fun x hx => ⟨(h.k4 x hx).1.be hb, (h.k4 x hx).2⟩, fun x hx => (h.k5 x hx).be hb⟩
def ToPost (w : World) (e : Ending) (w' : World) : Prop :=
  ∃ (A A' : Option Addr) (n c c' : Nat) (l m : List Ex), e = .returned (.tuple #[.slice A n c, .slice A' n c']) ∧ n ≤ 41 ∧ ToSt w' w.heap.size (.slice A n c) (.slice A' n c') n l m ∧ Below w.heap.size w w'

theorem to_step {w w' w2 w3 : World} {base i : Nat} {v4 v5 v4' : Value} {l m : List Ex} {x : Ex} (h : ToSt w base v4 v5 i l m) (hw : Below w.heap.size w w') (o4 : w2.ownsRow base 40 4 v4' (i + 1) (exsC l ++ exC x)) (g4 : w'.grownBy w2 v4.ownBlock)
    (hb : Below w2.heap.size w2 w3) (hx : ExOwn w3 base x) (hs : Small x) : w3.ownsRow base 40 4 v4' (i + 1) (exsC (l ++ [x])) ∧ w3.ownsRow base 64 4 v5 i (exsC m) ∧ (∀ z ∈ l ++ [x], ExOwn w3 base z ∧ Small z) ∧ ∀ z ∈ m, ExOwn w3 base z := by
  have h' := h.be hw
  refine ⟨?_, own_below (h'.o5.kept g4 (ownApart h'.o5 h'.o4 (by decide))) hb, fun z hz => ?_, fun z hz => ((h'.k5 z hz).grown h'.o4 (by decide) (by decide) g4).be hb⟩
  · rw [exsC_app]
    have : exsC [x] = exC x := by simp [exsC]
    rw [this]
    exact own_below o4 hb
  · rcases List.mem_append.1 hz with h1 | h1
    · exact ⟨((h'.k4 z h1).1.grown h'.o4 (by decide) (by decide) g4).be hb, (h'.k4 z h1).2⟩
    · simp at h1; subst h1; exact ⟨hx, hs⟩
theorem to_step2 {w w' w2 : World} {base i : Nat} {v4 v5 v5' : Value} {l m : List Ex} {y : Ex} (o4 : w.ownsRow base 40 4 v4 (i + 1) (exsC l)) (o5 : w.ownsRow base 64 4 v5 i (exsC m)) (k4 : ∀ z ∈ l, ExOwn w base z ∧ Small z) (k5 : ∀ z ∈ m, ExOwn w base z)
    (same : l.map (·.e) = (m ++ [y]).map (·.e)) (hw : Below w.heap.size w w') (hy : ExOwn w' base y) (n5 : w2.ownsRow base 64 4 v5' (i + 1) (exsC m ++ exC y)) (g5 : w'.grownBy w2 v5.ownBlock) : ToSt w2 base v4 v5' (i + 1) l (m ++ [y]) := by
  have o4' := own_below o4 hw
  have o5' := own_below o5 hw
  refine ⟨o4'.kept g5 (ownApart o4' o5' (by decide)), ?_, same, fun z hz => ⟨(((k4 z hz).1.be hw).grown o5' (by decide) (by decide) g5), (k4 z hz).2⟩, fun z hz => ?_⟩
  · rw [exsC_app]
    have : exsC [y] = exC y := by simp [exsC]
    rw [this]
    exact n5
  · rcases List.mem_append.1 hz with h1 | h1
    · exact ((k5 z h1).be hw).grown o5' (by decide) (by decide) g5
    · simp at h1; subst h1; exact hy.grown o5' (by decide) (by decide) g5
theorem ex_own2 {w w0 : World} {base q k : Nat} {qs : List ByteArray} {k0 m0 : Int} {d : List Nat} {A7 A8 Aq Ad : Option Addr} {c7 c8 cq cd : Nat} (hq : qs.length = q) (hk : d.length = k) (h1 : w.ownsRow base 9 1 (.slice Aq q cq) q (strV qs)) (h2 : w.ownsRow base 5 1 (.slice Ad k cd) k (u8s d)) (h : ExOwn w0 base ⟨⟨qs, k0, m0, d⟩, A7, c7, A8, c8⟩) :
    ExOwn w base ⟨⟨qs, k0, m0, d⟩, Aq, cq, Ad, cd⟩ := by
  subst hq hk
  exact ⟨h1, h2, h.plen, h.slen, h.dlen, h.byte⟩
theorem u8s_take (d : List Nat) (k : Nat) : (u8s d).take k = u8s (d.take k) := by simp [u8s, List.map_take]

set_option maxRecDepth 100000 in
set_option maxHeartbeats 16000000 in
theorem to_any (A : Option Addr) (n c : Nat) (l0 : List Ex) (w : World) (hn : n ≤ 9223372036854775807) (hI : Ins w A n l0) :
    Calls Tryz.prog 14 #[.slice A n c] w (ToPost w) := by
  have HN := Sl.mk hI.n_
  have HI := Sl.mk hI
  obtain ⟨i0, hi0, hz0, hz1, hz2⟩ := info_parts strInfo
  obtain ⟨j0, hj0, hy0, hy1, hy2⟩ := info_parts u8Info
  obtain ⟨e0, he0, hx0, hx1, hx2⟩ := info_parts enInfo
  obtain ⟨r0, hr0, hw0, hw1, hw2⟩ := info_parts refInfo
  clear hI
  go_enter Tryz.func14, Tryz.ntmps14
  go_wp2_with fail
  go_loopw [4, 5, 6, 7, 8] (fun v4 v5 v6 _ _ wr => ∃ (i : Nat) (l m : List Ex), i ≤ n ∧ i ≤ 41 ∧ v6 = .int .i64 i ∧ ToSt wr w.heap.size v4 v5 i l m ∧ Below w.heap.size w wr) (fun _ _ v6 _ _ _ => 41 - (intOf v6).toNat)
  case atStart => exact ⟨0, [], [], by omega, by omega, rfl, ⟨World.ownsRow_nil _ _ _ _, World.ownsRow_nil _ _ _ _, rfl, (fun x hx => by cases hx), (fun x hx => by cases hx)⟩, Below.refl _ _⟩
  case round =>
    obtain ⟨i, l, m, hi, hi41, rfl, hT, hB⟩ := hrel
    obtain ⟨A4, c4, rfl⟩ := ownForm hT.o4
    obtain ⟨A5, c5, rfl⟩ := ownForm hT.o5
    by_cases hlt : i < n
    · by_cases h41 : i < 41
      · obtain ⟨x, hx⟩ : ∃ x, l0[i]? = some x := ⟨_, List.getElem?_eq_getElem (by rw [HN.out]; exact hlt)⟩
        obtain ⟨ab, ao, rfl, hbl, hld, hok⟩ := HI.out.lit hx
        obtain ⟨⟨p, k0, m0, d⟩, pa, pc, da, dc⟩ := x
        have hpl : p.length ≤ 9223372036854775807 := Nat.le_trans hok.pcap.1 hok.pcap.2
        have HF := Sl.mk (few_any pa p.length pc p wr hpl hok.slen ((hok.path.below hB).more hB.size))
        have hdc : d.length ≤ dc ∧ dc ≤ 9223372036854775807 := hok.dcap
        have hby : ∀ b ∈ d, b < 256 := hok.byte
        obtain ⟨pl, hple⟩ : ∃ pl, p.length = pl := ⟨_, rfl⟩
        obtain ⟨dl, hdle⟩ : ∃ dl, d.length = dl := ⟨_, rfl⟩
        have HC : Sl (∀ W, Below w.heap.size w W → W.cell? ⟨ab, ao + i * 4, none⟩ = some (.slice pa pl pc) ∧ W.cell? (⟨ab, ao + i * 4 + 1, none⟩) = some (.int .i64 k0) ∧ W.cell? (⟨ab, ao + i * 4 + 2, none⟩) = some (.int .i64 m0) ∧ W.cell? (⟨ab, ao + i * 4 + 3, none⟩) = some (.slice da dl dc)) := Sl.mk (fun W hW => by
          refine ⟨?_, ?_, ?_, ?_⟩
          · rw [hW.cell (p := ⟨ab, ao + i * 4, none⟩) hbl, ← hple]; exact hld 0 _ rfl
          · rw [hW.cell (p := ⟨ab, ao + i * 4 + 1, none⟩) hbl]; exact hld 1 _ rfl
          · rw [hW.cell (p := ⟨ab, ao + i * 4 + 2, none⟩) hbl]; exact hld 2 _ rfl
          · rw [hW.cell (p := ⟨ab, ao + i * 4 + 3, none⟩) hbl, ← hdle]; exact hld 3 _ rfl)
        have HDD : Sl (∀ W, Below w.heap.size w W → Reads W W.heap.size 1 da dl (u8s d)) := Sl.mk (fun W hW => by
          have h := (hok.data.below hW).more hW.size
          simp only at h
          rw [hdle] at h
          exact h)
        rw [hple] at HF
        rw [hdle] at hdc
        have HDL := Sl.mk hdle
        have HTT := Sl.mk hT
        have HSAME := Sl.mk hT.same
        unfold FewPost at HF
        have b0 := (HC.out _ hB).1
        clear hx hok hld hpl hple hdle hT
        go_wp2_with fail
        refine HF.out.mono ?_
        rintro e w1 ⟨A7, q7, c7, qs, rfl, ho7, hq7, hqs, hB1⟩
        have HQL := Sl.mk (strs_n (Reads.of_own ho7))
        have hE1 := below_tr hB hB1
        have hT1 := Sl.mk (HTT.out.be hB1)
        have ho71 := own_mono (b' := w.heap.size) ho7 hB.size
        clear b0 ho7 HF HTT hB hB1
        go_wp2_with fail
        obtain ⟨k, hk⟩ : ∃ k, (min (dl : Int) 520).toNat = k := ⟨_, rfl⟩
        have hk1 : k ≤ 520 := by omega
        have hk2 : k ≤ dl := by omega
        have hm0 : (0 : Int) ≤ min (dl : Int) 520 := by omega
        have hm1 : ¬ ((dc : Int) < min (dl : Int) 520) := by omega
        obtain ⟨wd, hwd⟩ : ∃ wd, w1.drew = wd := ⟨_, rfl⟩
        have hwb : Below w1.heap.size w1 wd := by rw [← hwd]; exact (Below.refl _ _).drew
        have hEd := below_tr hE1 hwb
        have HSF : Sl (∀ W, Below wd.heap.size wd W → W.cell? (⟨ab, ao + i * 4 + 3, none⟩) = some (.slice da dl dc)) := Sl.mk (fun W hW => (HC.out W (below_tr hEd hW)).2.2.2)
        have HDW : Sl (∀ W, Below wd.heap.size wd W → Reads W W.heap.size 1 da k (u8s (d.take k))) := Sl.mk (fun W hW => by
          have := reads_take (k := k) (HDD.out W (below_tr hEd hW)) hk2
          rw [u8s_take] at this
          exact this)
        refine wp_region_X (fun W => Below wd.heap.size wd W) [14, 15] (by kernel_rfl) (by rw [hwd]; exact Below.refl _ _) (fun hS => ?_)
        rw [hwd] at hS ⊢
        clear hwd
        refine wpAnyX_S (i := 1) (v := ?_) rfl (by kernel_rfl) (by kernel_rfl) (by kernel_rfl) (by kernel_rfl) (fun _ _ _ h => h) (Or.inl ⟨by rfl, ?_⟩) hS ?_
        rotate_left 1
        · (intro w' hw'; (first | rw [hw'] | (have hw2 := HSF.out w' hw') | skip); go_simp; (try with_reducible rfl))
        simp only [Act.put, List.setIfInBounds_toArray, List.set_cons_zero, List.set_cons_succ]
        refine wpAnyX_S (i := 2) (v := ?_) rfl (by kernel_rfl) (by kernel_rfl) (by kernel_rfl) (by kernel_rfl) (fun _ _ _ h => h) (Or.inl ⟨by rfl, ?_⟩) hS ?_
        rotate_left 1
        · (intro w' hw'; (first | rw [hw'] | (have hw2 := HSF.out w' hw') | skip); go_simp; (try with_reducible rfl))
        simp only [Act.put, List.setIfInBounds_toArray, List.set_cons_zero, List.set_cons_succ]
        refine wpAnyX_S (i := 3) (v := ?_) rfl (by kernel_rfl) (by kernel_rfl) (by kernel_rfl) (by kernel_rfl) (fun _ _ _ h => h) (Or.inl ⟨by rfl, ?_⟩) hS ?_
        rotate_left 1
        · (intro w' hw'; (first | rw [hw'] | (have hw2 := HSF.out w' hw') | skip); go_simp; (try with_reducible rfl))
        simp only [Act.put, List.setIfInBounds_toArray, List.set_cons_zero, List.set_cons_succ]
        refine wpAnyX_S (i := 4) (v := ?_) rfl (by kernel_rfl) (by kernel_rfl) (by kernel_rfl) (by kernel_rfl) (fun _ _ _ h => h) (Or.inl ⟨by rfl, ?_⟩) hS ?_
        rotate_left 1
        · (intro w' hw'; (first | rw [hw'] | (have hw2 := HSF.out w' hw') | skip); go_simp; (try with_reducible rfl))
        simp only [Act.put, List.setIfInBounds_toArray, List.set_cons_zero, List.set_cons_succ]
        refine wpAnyX_S (i := 5) (v := ?_) rfl (by kernel_rfl) (by kernel_rfl) (by kernel_rfl) (by kernel_rfl) (fun _ _ _ h => h) (Or.inl ⟨by rfl, ?_⟩) hS ?_
        rotate_left 1
        · (intro w' hw'; (first | rw [hw'] | (have hw2 := HSF.out w' hw') | skip); go_simp; (try with_reducible rfl))
        simp only [Act.put, List.setIfInBounds_toArray, List.set_cons_zero, List.set_cons_succ]
        refine wpAnyX_S (i := 6) (v := ?_) rfl (by kernel_rfl) (by kernel_rfl) (by kernel_rfl) (by kernel_rfl) (fun _ _ _ h => h) (Or.inl ⟨by rfl, ?_⟩) hS ?_
        rotate_left 1
        · (intro w' hw'; (first | rw [hw'] | (have hw2 := HSF.out w' hw') | skip); go_simp; (try with_reducible rfl))
        simp only [Act.put, List.setIfInBounds_toArray, List.set_cons_zero, List.set_cons_succ]
        refine wpAnyX_S (i := 7) (v := ?_) rfl (by kernel_rfl) (by kernel_rfl) (by kernel_rfl) (by kernel_rfl) (fun _ _ _ h => h) (Or.inl ⟨by rfl, ?_⟩) hS ?_
        rotate_left 1
        · (intro w' hw'; (first | rw [hw'] | (have hw2 := HSF.out w' hw') | skip); go_simp; (try with_reducible rfl))
        simp only [Act.put, List.setIfInBounds_toArray, List.set_cons_zero, List.set_cons_succ]
        refine wpAnyX_S (i := 8) (v := ?_) rfl (by kernel_rfl) (by kernel_rfl) (by kernel_rfl) (by kernel_rfl) (fun _ _ _ h => h) (Or.inl ⟨by rfl, ?_⟩) hS ?_
        rotate_left 1
        · (intro w' hw'; (first | rw [hw'] | (have hw2 := HSF.out w' hw') | skip); go_simp; (try with_reducible rfl))
        simp only [Act.put, List.setIfInBounds_toArray, List.set_cons_zero, List.set_cons_succ]
        refine wpAnyX_S (i := 9) (v := ?_) rfl (by kernel_rfl) (by kernel_rfl) (by kernel_rfl) (by kernel_rfl) (fun _ _ _ h => h) (Or.inl ⟨by rfl, ?_⟩) hS ?_
        rotate_left 1
        · (intro w' hw'; (first | rw [hw'] | (have hw2 := HSF.out w' hw') | skip); go_simp; (try with_reducible rfl))
        simp only [Act.put, List.setIfInBounds_toArray, List.set_cons_zero, List.set_cons_succ]
        refine wpAnyX_S (i := 10) (v := ?_) rfl (by kernel_rfl) (by kernel_rfl) (by kernel_rfl) (by kernel_rfl) (fun _ _ _ h => h) (Or.inl ⟨by rfl, ?_⟩) hS ?_
        rotate_left 1
        · (intro w' hw'; (first | rw [hw'] | (have hw2 := HSF.out w' hw') | skip); go_simp; (try with_reducible rfl))
        simp only [Act.put, List.setIfInBounds_toArray, List.set_cons_zero, List.set_cons_succ]
        refine wpAnyX_S (i := 11) (v := ?_) rfl (by kernel_rfl) (by kernel_rfl) (by kernel_rfl) (by kernel_rfl) (fun _ _ _ h => h) (Or.inl ⟨by rfl, ?_⟩) hS ?_
        rotate_left 1
        · (intro w' hw'; (first | rw [hw'] | (have hw2 := HSF.out w' hw') | skip); go_simp; (try with_reducible rfl))
        simp only [Act.put, List.setIfInBounds_toArray, List.set_cons_zero, List.set_cons_succ]
        refine wpAnyX_S (i := 12) (v := ?_) rfl (by kernel_rfl) (by kernel_rfl) (by kernel_rfl) (by kernel_rfl) (fun _ _ _ h => h) (Or.inl ⟨by rfl, ?_⟩) hS ?_
        rotate_left 1
        · (intro w' hw'; (first | rw [hw'] | (have hw2 := HSF.out w' hw') | skip); go_simp; (try with_reducible rfl))
        simp only [Act.put, List.setIfInBounds_toArray, List.set_cons_zero, List.set_cons_succ]
        refine wpAnyX_S (i := 13) (v := .slice da k dc) rfl (by kernel_rfl) (by kernel_rfl) (by kernel_rfl) (by kernel_rfl) (fun _ _ _ h => h) (.inl ⟨by rfl, fun w' _ => by go_simp⟩) hS ?_
        simp only [Act.put, List.setIfInBounds_toArray, List.set_cons_zero, List.set_cons_succ]
        refine wpAnyX_oneL (k := 0) rfl (by kernel_rfl) rfl ?_
        refine wp_of_run (v := .slice (some ⟨wd.heap.size, 0, none⟩) 0 0) (w' := wd.alloc (.cells #[] 5)) (by go_simp) ⟨fun _ => (Below.refl _ _).alloc (Nat.le_refl _) _, ?_⟩
        simp only [Act.put, List.setIfInBounds_toArray, List.set_cons_zero, List.set_cons_succ]
        refine wpAnyX_tailF [14, 15] (by kernel_rfl) (by rfl) (by rfl) (by rfl) ?_
        simp only [List.filterMap_cons, List.filterMap_nil, List.getElem?_cons_succ, List.getElem?_cons_zero]
        have hal := (Below.refl wd.heap.size wd).alloc (Nat.le_refl _) (.cells #[] 5)
        refine wpList_append_anyG _ rfl (.tmp 25) (.tmp 38) 22 rfl wd.heap.size 5 j0 (.int .u8 0) 1 1 Tryz.underlying22 hj0 hy0 hy1 hy2 rfl (by decide) (.slice (some ⟨wd.heap.size, 0, none⟩) 0 0) 0 [] rfl (own_empty wd _ 1) _ da k dc (u8s (d.take k)) rfl (HDW.out _ hal) (u8s_one _) (by unfold maxLen; omega) (by omega) (by simp) ?_
        intro v8 w2 ho8 hg8 hb8
        have hE8 : Below wd.heap.size wd w2 := hal.grown hg8 (by simp) (fun g hg => by simp [Value.ownBlock] at hg; omega)
        have ho82 : w2.ownsRow wd.heap.size 5 1 v8 k (u8s (d.take k)) := by simpa using ho8
        obtain ⟨A8, c8, rfl⟩ := ownForm ho82
        have hE2 := below_tr hEd hE8
        have hw12 := below_tr hwb hE8
        have hT2 := Sl.mk (hT1.out.be hw12)
        have ho72 := own_below ho71 hw12
        have ho83 := own_mono (b' := w.heap.size) ho82 hEd.size
        have hkl : (d.take k).length = k := by rw [List.length_take, HDL.out]; omega
        have hok2 : Sl (ExOwn w2 w.heap.size ⟨⟨qs, k0, m0, d.take k⟩, A7, c7, A8, c8⟩) := Sl.mk
          ⟨by show w2.ownsRow w.heap.size 9 1 (.slice A7 qs.length c7) qs.length (strV qs); rw [HQL.out]; exact ho72, by show w2.ownsRow w.heap.size 5 1 (.slice A8 (d.take k).length c8) (d.take k).length (u8s (d.take k)); rw [hkl]; exact ho83,
            by show qs.length ≤ 100; rw [HQL.out]; omega, fun s hs => Nat.le_trans (hqs s hs) (by omega), by show (d.take k).length ≤ 100000; rw [hkl]; omega, fun b hb => hby b (List.mem_of_mem_take hb)⟩
        have HSM : Sl (Small ⟨⟨qs, k0, m0, d.take k⟩, A7, c7, A8, c8⟩) := Sl.mk ⟨by show qs.length ≤ 12; rw [HQL.out]; exact hq7, hqs, by show (d.take k).length ≤ 520; rw [hkl]; exact hk1⟩
        have HXC : Sl (∀ a b e f, exC ⟨⟨qs, k0, m0, d.take k⟩, a, b, e, f⟩ = [.slice a q7 b, .int .i64 k0, .int .i64 m0, .slice e k f]) := Sl.mk (fun a b e f => by
          unfold exC; simp only; rw [HQL.out, hkl])
        have HKL := Sl.mk hkl
        have HBY := Sl.mk (fun b (hb : b ∈ d.take k) => hby b (List.mem_of_mem_take hb))
        have HQS := Sl.mk hqs
        clear hE1 hT1 ho71 hwb HSF hal ho8 hg8 hb8 hE8 ho82 hw12 hm0 hm1 hk hEd hkl hby hqs ho72 ho83
        go_wp2_with fail
        refine NoPanic.normal ?_
        go_wp2_with fail
        obtain ⟨we, hwe⟩ : ∃ we, w2.drew = we := ⟨_, rfl⟩
        have hwb : Below w2.heap.size w2 we := by rw [← hwe]; exact (Below.refl _ _).drew
        have hEd := below_tr hE2 hwb
        have HSF : Sl (∀ W, Below we.heap.size we W → W.cell? (⟨ab, ao + i * 4 + 1, none⟩) = some (.int .i64 k0) ∧ W.cell? (⟨ab, ao + i * 4 + 2, none⟩) = some (.int .i64 m0)) := Sl.mk (fun W hW => ⟨(HC.out W (below_tr hEd hW)).2.1, (HC.out W (below_tr hEd hW)).2.2.1⟩)
        refine wp_region_X (fun W => Below we.heap.size we W) [15, 16] (by kernel_rfl) (by rw [hwe]; exact Below.refl _ _) (fun hS => ?_)
        rw [hwe] at hS ⊢
        clear hwe
        refine wpAnyX_S (i := 0) (v := ?_) rfl (by kernel_rfl) (by kernel_rfl) (by kernel_rfl) (by kernel_rfl) (fun _ _ _ h => h) (Or.inl ⟨by rfl, ?_⟩) hS ?_
        rotate_left 1
        · (intro w' hw'; (first | rw [hw'] | (have hw2 := HSF.out w' hw') | skip); go_simp; (try with_reducible rfl))
        simp only [Act.put, List.setIfInBounds_toArray, List.set_cons_zero, List.set_cons_succ]
        refine wpAnyX_S (i := 1) (v := ?_) rfl (by kernel_rfl) (by kernel_rfl) (by kernel_rfl) (by kernel_rfl) (fun _ _ _ h => h) (Or.inl ⟨by rfl, ?_⟩) hS ?_
        rotate_left 1
        · (intro w' hw'; (first | rw [hw'] | (have hw2 := HSF.out w' hw') | skip); go_simp; (try with_reducible rfl))
        simp only [Act.put, List.setIfInBounds_toArray, List.set_cons_zero, List.set_cons_succ]
        refine wpAnyX_S (i := 2) (v := ?_) rfl (by kernel_rfl) (by kernel_rfl) (by kernel_rfl) (by kernel_rfl) (fun _ _ _ h => h) (Or.inl ⟨by rfl, ?_⟩) hS ?_
        rotate_left 1
        · (intro w' hw'; (first | rw [hw'] | (have hw2 := HSF.out w' hw') | skip); go_simp; (try with_reducible rfl))
        simp only [Act.put, List.setIfInBounds_toArray, List.set_cons_zero, List.set_cons_succ]
        refine wpAnyX_S (i := 3) (v := ?_) rfl (by kernel_rfl) (by kernel_rfl) (by kernel_rfl) (by kernel_rfl) (fun _ _ _ h => h) (Or.inl ⟨by rfl, ?_⟩) hS ?_
        rotate_left 1
        · (intro w' hw'; (first | rw [hw'] | (have hw2 := HSF.out w' hw') | skip); go_simp; (try with_reducible rfl))
        simp only [Act.put, List.setIfInBounds_toArray, List.set_cons_zero, List.set_cons_succ]
        refine wpAnyX_S (i := 4) (v := ?_) rfl (by kernel_rfl) (by kernel_rfl) (by kernel_rfl) (by kernel_rfl) (fun _ _ _ h => h) (Or.inl ⟨by rfl, ?_⟩) hS ?_
        rotate_left 1
        · (intro w' hw'; (first | rw [hw'] | (have hw2 := HSF.out w' hw') | skip); go_simp; (try with_reducible rfl))
        simp only [Act.put, List.setIfInBounds_toArray, List.set_cons_zero, List.set_cons_succ]
        refine wpAnyX_S (i := 5) (v := ?_) rfl (by kernel_rfl) (by kernel_rfl) (by kernel_rfl) (by kernel_rfl) (fun _ _ _ h => h) (Or.inl ⟨by rfl, ?_⟩) hS ?_
        rotate_left 1
        · (intro w' hw'; (first | rw [hw'] | (have hw2 := HSF.out w' hw') | skip); go_simp; (try with_reducible rfl))
        simp only [Act.put, List.setIfInBounds_toArray, List.set_cons_zero, List.set_cons_succ]
        refine wpAnyX_S (i := 6) (v := ?_) rfl (by kernel_rfl) (by kernel_rfl) (by kernel_rfl) (by kernel_rfl) (fun _ _ _ h => h) (Or.inl ⟨by rfl, ?_⟩) hS ?_
        rotate_left 1
        · (intro w' hw'; (first | rw [hw'] | (have hw2 := HSF.out w' hw') | skip); go_simp; (try with_reducible rfl))
        simp only [Act.put, List.setIfInBounds_toArray, List.set_cons_zero, List.set_cons_succ]
        refine wpAnyX_S (i := 7) (v := ?_) rfl (by kernel_rfl) (by kernel_rfl) (by kernel_rfl) (by kernel_rfl) (fun _ _ _ h => h) (Or.inl ⟨by rfl, ?_⟩) hS ?_
        rotate_left 1
        · (intro w' hw'; (first | rw [hw'] | (have hw2 := HSF.out w' hw') | skip); go_simp; (try with_reducible rfl))
        simp only [Act.put, List.setIfInBounds_toArray, List.set_cons_zero, List.set_cons_succ]
        refine wpAnyX_S (i := 8) (v := ?_) rfl (by kernel_rfl) (by kernel_rfl) (by kernel_rfl) (by kernel_rfl) (fun _ _ _ h => h) (Or.inl ⟨by rfl, ?_⟩) hS ?_
        rotate_left 1
        · (intro w' hw'; (first | rw [hw'] | (have hw2 := HSF.out w' hw') | skip); go_simp; (try with_reducible rfl))
        simp only [Act.put, List.setIfInBounds_toArray, List.set_cons_zero, List.set_cons_succ]
        refine wpAnyX_S (i := 9) (v := ?_) rfl (by kernel_rfl) (by kernel_rfl) (by kernel_rfl) (by kernel_rfl) (fun _ _ _ h => h) (Or.inl ⟨by rfl, ?_⟩) hS ?_
        rotate_left 1
        · (intro w' hw'; (first | rw [hw'] | (have hw2 := HSF.out w' hw') | skip); go_simp; (try with_reducible rfl))
        simp only [Act.put, List.setIfInBounds_toArray, List.set_cons_zero, List.set_cons_succ]
        refine wpAnyX_S (i := 10) (v := ?_) rfl (by kernel_rfl) (by kernel_rfl) (by kernel_rfl) (by kernel_rfl) (fun _ _ _ h => h) (Or.inl ⟨by rfl, ?_⟩) hS ?_
        rotate_left 1
        · (intro w' hw'; (first | rw [hw'] | (have hw2 := HSF.out w' hw') | skip); go_simp; (try with_reducible rfl))
        simp only [Act.put, List.setIfInBounds_toArray, List.set_cons_zero, List.set_cons_succ]
        refine wpAnyX_S (i := 11) (v := ?_) rfl (by kernel_rfl) (by kernel_rfl) (by kernel_rfl) (by kernel_rfl) (fun _ _ _ h => h) (Or.inl ⟨by rfl, ?_⟩) hS ?_
        rotate_left 1
        · (intro w' hw'; (first | rw [hw'] | (have hw2 := HSF.out w' hw') | skip); go_simp; (try with_reducible rfl))
        simp only [Act.put, List.setIfInBounds_toArray, List.set_cons_zero, List.set_cons_succ]
        refine wpAnyX_S (i := 12) (v := ?_) rfl (by kernel_rfl) (by kernel_rfl) (by kernel_rfl) (by kernel_rfl) (fun _ _ _ h => h) (Or.inl ⟨by rfl, ?_⟩) hS ?_
        rotate_left 1
        · (intro w' hw'; (first | rw [hw'] | (have hw2 := HSF.out w' hw') | skip); go_simp; (try with_reducible rfl))
        simp only [Act.put, List.setIfInBounds_toArray, List.set_cons_zero, List.set_cons_succ]
        refine wpAnyX_S (i := 13) (v := .agg #[.slice A7 q7 c7, .int .i64 k0, .int .i64 m0, .slice A8 k c8]) rfl (by kernel_rfl) (by kernel_rfl) (by kernel_rfl) (by kernel_rfl) (fun _ _ _ h => h) (.inl ⟨by rfl, fun w' _ => by go_simp⟩) hS ?_
        simp only [Act.put, List.setIfInBounds_toArray, List.set_cons_zero, List.set_cons_succ]
        refine wpAnyX_oneL (k := 14) rfl (by kernel_rfl) rfl ?_
        refine wp_of_run (v := .slice (some ⟨we.heap.size, 0, none⟩) 1 1) (w' := we.alloc (.cells #[.slice A7 q7 c7, .int .i64 k0, .int .i64 m0, .slice A8 k c8] 40)) (by go_simp) ⟨fun _ => (Below.refl _ _).alloc (Nat.le_refl _) _, ?_⟩
        simp only [Act.put, List.setIfInBounds_toArray, List.set_cons_zero, List.set_cons_succ]
        refine wpAnyX_tailF [15, 16] (by kernel_rfl) (by rfl) (by rfl) (by rfl) ?_
        simp only [List.filterMap_cons, List.filterMap_nil, List.getElem?_cons_succ, List.getElem?_cons_zero]
        have hal := (Below.refl we.heap.size we).alloc (Nat.le_refl _) (.cells #[.slice A7 q7 c7, .int .i64 k0, .int .i64 m0, .slice A8 k c8] 40)
        have hTa := Sl.mk (hT2.out.be (below_tr hwb hal))
        have hge := hEd.size
        refine wpList_append_anyG _ rfl (.tmp 40) (.tmp 54) 23 rfl w.heap.size 40 e0 (.agg #[.slice none 0 0, .int .i64 0, .int .i64 0, .slice none 0 0]) 4 64 Tryz.underlying23 he0 hx0 hx1 hx2 (by rfl) (by decide) (.slice A4 i c4) i (exsC l) rfl hTa.out.o4 (we.heap.size + 1) (some ⟨we.heap.size, 0, none⟩) 1 1 [.slice A7 q7 c7, .int .i64 k0, .int .i64 m0, .slice A8 k c8] rfl (reads_row4 we _ _ _ _ _) (four_one _ _ _ _ rfl rfl rfl rfl) (by unfold maxLen; omega) (by omega) (by simp; omega) ?_
        intro v4 w3 ho4 hg4 hb4
        obtain ⟨A9, c9, rfl⟩ := ownForm ho4
        have hE3 : Below w.heap.size w w3 := (below_tr hEd hal).grown hg4 (by simp; omega) (fun g hg => ownGe hTa.out.o4 hg)
        have hok3 := Sl.mk ((hok2.out.be (below_tr hwb hal)).grown hTa.out.o4 (by decide) (by decide) hg4)
        have hST := Sl.mk (to_step (x := ⟨⟨qs, k0, m0, d.take k⟩, A7, c7, A8, c8⟩) hT2.out (below_tr hwb hal) (by rw [HXC.out]; exact ho4) hg4 (Below.refl _ _) hok3.out HSM.out)
        clear hwb hEd HSF hS hal hTa hge ho4 hg4 hb4 hT2 hok2 hE2
        go_wp2_with fail
        refine NoPanic.normal ?_
        go_wp2_with fail
        obtain ⟨wf, hwf⟩ : ∃ wf, w3.drew = wf := ⟨_, rfl⟩
        have hwb : Below w3.heap.size w3 wf := by rw [← hwf]; exact (Below.refl _ _).drew
        have hEd := below_tr hE3 hwb
        have HSF : Sl (∀ W, Below wf.heap.size wf W → W.cell? (⟨ab, ao + i * 4 + 1, none⟩) = some (.int .i64 k0) ∧ W.cell? (⟨ab, ao + i * 4 + 2, none⟩) = some (.int .i64 m0)) := Sl.mk (fun W hW => ⟨(HC.out W (below_tr hEd hW)).2.1, (HC.out W (below_tr hEd hW)).2.2.1⟩)
        have HRP : Sl (∀ W, Below wf.heap.size wf W → Reads W W.heap.size 1 A7 q7 (strV qs)) := Sl.mk (fun W hW => by
          have h := (hok3.out.be (below_tr hwb hW)).path
          have h2 : W.ownsRow w.heap.size 9 1 (.slice A7 qs.length c7) qs.length (strV qs) := h
          rw [HQL.out] at h2
          exact Reads.of_own h2)
        have HRD : Sl (∀ W, Below wf.heap.size wf W → Reads W W.heap.size 1 A8 k (u8s (d.take k))) := Sl.mk (fun W hW => by
          have h := (hok3.out.be (below_tr hwb hW)).data
          have h2 : W.ownsRow w.heap.size 5 1 (.slice A8 (d.take k).length c8) (d.take k).length (u8s (d.take k)) := h
          rw [HKL.out] at h2
          exact Reads.of_own h2)
        refine wp_region_X (fun W => Below wf.heap.size wf W) [19, 20] (by kernel_rfl) (by rw [hwf]; exact Below.refl _ _) (fun hS => ?_)
        rw [hwf] at hS ⊢
        clear hwf
        refine wpAnyX_S (i := 0) (v := ?_) rfl (by kernel_rfl) (by kernel_rfl) (by kernel_rfl) (by kernel_rfl) (fun _ _ _ h => h) (Or.inl ⟨by rfl, ?_⟩) hS ?_
        rotate_left 1
        · (intro w' hw'; (first | rw [hw'] | (have hw2 := HSF.out w' hw') | skip); go_simp; (try with_reducible rfl))
        simp only [Act.put, List.setIfInBounds_toArray, List.set_cons_zero, List.set_cons_succ]
        refine wpAnyX_S (i := 2) (v := ?_) rfl (by kernel_rfl) (by kernel_rfl) (by kernel_rfl) (by kernel_rfl) (fun _ _ _ h => h) (Or.inl ⟨by rfl, ?_⟩) hS ?_
        rotate_left 1
        · (intro w' hw'; (first | rw [hw'] | (have hw2 := HSF.out w' hw') | skip); go_simp; (try with_reducible rfl))
        simp only [Act.put, List.setIfInBounds_toArray, List.set_cons_zero, List.set_cons_succ]
        refine wpAnyX_S (i := 4) (v := ?_) rfl (by kernel_rfl) (by kernel_rfl) (by kernel_rfl) (by kernel_rfl) (fun _ _ _ h => h) (Or.inl ⟨by rfl, ?_⟩) hS ?_
        rotate_left 1
        · (intro w' hw'; (first | rw [hw'] | (have hw2 := HSF.out w' hw') | skip); go_simp; (try with_reducible rfl))
        simp only [Act.put, List.setIfInBounds_toArray, List.set_cons_zero, List.set_cons_succ]
        refine wpAnyX_S (i := 5) (v := ?_) rfl (by kernel_rfl) (by kernel_rfl) (by kernel_rfl) (by kernel_rfl) (fun _ _ _ h => h) (Or.inl ⟨by rfl, ?_⟩) hS ?_
        rotate_left 1
        · (intro w' hw'; (first | rw [hw'] | (have hw2 := HSF.out w' hw') | skip); go_simp; (try with_reducible rfl))
        simp only [Act.put, List.setIfInBounds_toArray, List.set_cons_zero, List.set_cons_succ]
        refine wpAnyX_S (i := 6) (v := ?_) rfl (by kernel_rfl) (by kernel_rfl) (by kernel_rfl) (by kernel_rfl) (fun _ _ _ h => h) (Or.inl ⟨by rfl, ?_⟩) hS ?_
        rotate_left 1
        · (intro w' hw'; (first | rw [hw'] | (have hw2 := HSF.out w' hw') | skip); go_simp; (try with_reducible rfl))
        simp only [Act.put, List.setIfInBounds_toArray, List.set_cons_zero, List.set_cons_succ]
        refine wpAnyX_S (i := 7) (v := ?_) rfl (by kernel_rfl) (by kernel_rfl) (by kernel_rfl) (by kernel_rfl) (fun _ _ _ h => h) (Or.inl ⟨by rfl, ?_⟩) hS ?_
        rotate_left 1
        · (intro w' hw'; (first | rw [hw'] | (have hw2 := HSF.out w' hw') | skip); go_simp; (try with_reducible rfl))
        simp only [Act.put, List.setIfInBounds_toArray, List.set_cons_zero, List.set_cons_succ]
        refine wpAnyX_S (i := 8) (v := ?_) rfl (by kernel_rfl) (by kernel_rfl) (by kernel_rfl) (by kernel_rfl) (fun _ _ _ h => h) (Or.inl ⟨by rfl, ?_⟩) hS ?_
        rotate_left 1
        · (intro w' hw'; (first | rw [hw'] | (have hw2 := HSF.out w' hw') | skip); go_simp; (try with_reducible rfl))
        simp only [Act.put, List.setIfInBounds_toArray, List.set_cons_zero, List.set_cons_succ]
        refine wpAnyX_S (i := 9) (v := ?_) rfl (by kernel_rfl) (by kernel_rfl) (by kernel_rfl) (by kernel_rfl) (fun _ _ _ h => h) (Or.inl ⟨by rfl, ?_⟩) hS ?_
        rotate_left 1
        · (intro w' hw'; (first | rw [hw'] | (have hw2 := HSF.out w' hw') | skip); go_simp; (try with_reducible rfl))
        simp only [Act.put, List.setIfInBounds_toArray, List.set_cons_zero, List.set_cons_succ]
        refine wpAnyX_S (i := 10) (v := ?_) rfl (by kernel_rfl) (by kernel_rfl) (by kernel_rfl) (by kernel_rfl) (fun _ _ _ h => h) (Or.inl ⟨by rfl, ?_⟩) hS ?_
        rotate_left 1
        · (intro w' hw'; (first | rw [hw'] | (have hw2 := HSF.out w' hw') | skip); go_simp; (try with_reducible rfl))
        simp only [Act.put, List.setIfInBounds_toArray, List.set_cons_zero, List.set_cons_succ]
        refine wpAnyX_S (i := 11) (v := ?_) rfl (by kernel_rfl) (by kernel_rfl) (by kernel_rfl) (by kernel_rfl) (fun _ _ _ h => h) (Or.inl ⟨by rfl, ?_⟩) hS ?_
        rotate_left 1
        · (intro w' hw'; (first | rw [hw'] | (have hw2 := HSF.out w' hw') | skip); go_simp; (try with_reducible rfl))
        simp only [Act.put, List.setIfInBounds_toArray, List.set_cons_zero, List.set_cons_succ]
        refine wpAnyX_S (i := 12) (v := ?_) rfl (by kernel_rfl) (by kernel_rfl) (by kernel_rfl) (by kernel_rfl) (fun _ _ _ h => h) (Or.inl ⟨by rfl, ?_⟩) hS ?_
        rotate_left 1
        · (intro w' hw'; (first | rw [hw'] | (have hw2 := HSF.out w' hw') | skip); go_simp; (try with_reducible rfl))
        simp only [Act.put, List.setIfInBounds_toArray, List.set_cons_zero, List.set_cons_succ]
        refine wpAnyX_S (i := 13) (v := ?_) rfl (by kernel_rfl) (by kernel_rfl) (by kernel_rfl) (by kernel_rfl) (fun _ _ _ h => h) (Or.inl ⟨by rfl, ?_⟩) hS ?_
        rotate_left 1
        · (intro w' hw'; (first | rw [hw'] | (have hw2 := HSF.out w' hw') | skip); go_simp; (try with_reducible rfl))
        simp only [Act.put, List.setIfInBounds_toArray, List.set_cons_zero, List.set_cons_succ]
        refine wpAnyX_S (i := 15) (v := ?_) rfl (by kernel_rfl) (by kernel_rfl) (by kernel_rfl) (by kernel_rfl) (fun _ _ _ h => h) (Or.inl ⟨by rfl, ?_⟩) hS ?_
        rotate_left 1
        · (intro w' hw'; (first | rw [hw'] | (have hw2 := HSF.out w' hw') | skip); go_simp; (try with_reducible rfl))
        simp only [Act.put, List.setIfInBounds_toArray, List.set_cons_zero, List.set_cons_succ]
        refine wpAnyX_twoL (i := 1) (j := 14) rfl rfl (by kernel_rfl) rfl rfl ?_ ?_
        · refine wp_of_run (v := .slice (some ⟨wf.heap.size, 0, none⟩) 0 0) (w' := wf.alloc (.cells #[] 9)) (by go_simp) ⟨fun _ => hS.alloc hS.size _, ?_⟩
          simp only [Act.put, List.setIfInBounds_toArray, List.set_cons_zero, List.set_cons_succ]
          have e1 := own_mono (b' := wf.heap.size) (own_empty wf 9 1) hS.size
          have hX1 := hS.alloc hS.size (.cells #[] 9)
          obtain ⟨wx1, hwn⟩ : ∃ wn, wf.alloc (.cells #[] 9) = wn := ⟨_, rfl⟩
          rw [hwn] at e1 hX1  ⊢
          clear hwn
          refine wpAnyX_twoL (i := 3) (j := 14) rfl rfl (by kernel_rfl) rfl rfl ?_ ?_
          · refine wp_append_any wx1 (.tmp 57) (.tmp 58) 38 rfl wf.heap.size 9 i0 (.string ByteArray.empty) 1 16 Tryz.underlying38 hi0 hz0 hz1 hz2 rfl (by decide) (.slice (some ⟨wf.heap.size, 0, none⟩) 0 0) 0 [] rfl e1 wx1.heap.size A7 q7 c7 (strV qs) rfl (HRP.out _ hX1) (strV_one qs) (by unfold maxLen; omega) (by omega) hX1.size ?_
            intro vr1 wx2 ho hg hb
            have hX2 := hX1.grown hg hX1.size (fun g hg => ownGe e1 hg)
            have r1 : wx2.ownsRow wf.heap.size 9 1 vr1 q7 (strV qs) := by simpa using ho
            clear ho hg hb e1
            obtain ⟨Aq, cq, rfl⟩ := ownForm r1
            refine ⟨fun _ => hX2, ?_⟩
            simp only [Act.put, List.setIfInBounds_toArray, List.set_cons_zero, List.set_cons_succ]
            refine wpAnyX_oneL (k := 14) rfl (by kernel_rfl) rfl ?_
            refine wp_of_run (v := .slice (some ⟨wx2.heap.size, 0, none⟩) 0 0) (w' := wx2.alloc (.cells #[] 5)) (by go_simp) ⟨fun _ => hX2.alloc hX2.size _, ?_⟩
            simp only [Act.put, List.setIfInBounds_toArray, List.set_cons_zero, List.set_cons_succ]
            have e2 := own_mono (b' := wf.heap.size) (own_empty wx2 5 1) hX2.size
            have hX3 := hX2.alloc hX2.size (.cells #[] 5)
            have r1_3 := own_below r1 ((Below.refl wx2.heap.size wx2).alloc (Nat.le_refl _) (.cells #[] 5))
            obtain ⟨wx3, hwn⟩ : ∃ wn, wx2.alloc (.cells #[] 5) = wn := ⟨_, rfl⟩
            rw [hwn] at e2 hX3 r1_3 ⊢
            obtain ⟨g2, hgn⟩ : ∃ g, wx2.heap.size = g := ⟨_, rfl⟩
            rw [hgn] at e2 ⊢
            clear hwn hgn
            refine wpAnyX_oneL (k := 16) rfl (by kernel_rfl) rfl ?_
            refine wp_append_any wx3 (.tmp 70) (.tmp 71) 22 rfl wf.heap.size 5 j0 (.int .u8 0) 1 1 Tryz.underlying22 hj0 hy0 hy1 hy2 rfl (by decide) (.slice (some ⟨g2, 0, none⟩) 0 0) 0 [] rfl e2 wx3.heap.size A8 k c8 (u8s (d.take k)) rfl (HRD.out _ hX3) (u8s_one _) (by unfold maxLen; omega) (by omega) hX3.size ?_
            intro vr2 wx4 ho hg hb
            have hX4 := hX3.grown hg hX3.size (fun g hg => ownGe e2 hg)
            have r1_4 := r1_3.kept hg (ownApart r1_3 e2 (by decide))
            have r2 : wx4.ownsRow wf.heap.size 5 1 vr2 k (u8s (d.take k)) := by simpa using ho
            clear ho hg hb e2
            obtain ⟨Ad, cd, rfl⟩ := ownForm r2
            refine ⟨fun _ => hX4, ?_⟩
            simp only [Act.put, List.setIfInBounds_toArray, List.set_cons_zero, List.set_cons_succ]
            have hS9 := hX4
            refine wpAnyX_S (i := 17) (v := .agg #[.slice Aq q7 cq, .int .i64 k0, .int .i64 m0, .slice Ad k cd]) rfl (by kernel_rfl) (by kernel_rfl) (by kernel_rfl) (by kernel_rfl) (fun _ _ _ h => h) (.inl ⟨by rfl, fun w' _ => by go_simp⟩) hS9 ?_
            simp only [Act.put, List.setIfInBounds_toArray, List.set_cons_zero, List.set_cons_succ]
            refine wpAnyX_oneL (k := 18) rfl (by kernel_rfl) rfl ?_
            refine wp_of_run (v := .slice (some ⟨wx4.heap.size, 0, none⟩) 1 1) (w' := wx4.alloc (.cells #[.slice Aq q7 cq, .int .i64 k0, .int .i64 m0, .slice Ad k cd] 64)) (by go_simp) ⟨fun _ => hS9.alloc hS9.size _, ?_⟩
            simp only [Act.put, List.setIfInBounds_toArray, List.set_cons_zero, List.set_cons_succ]
            refine wpAnyX_tailF [19, 20] (by kernel_rfl) (by rfl) (by rfl) (by rfl) ?_
            simp only [List.filterMap_cons, List.filterMap_nil, List.getElem?_cons_succ, List.getElem?_cons_zero]
            have hal := hS9.alloc hS9.size (.cells #[.slice Aq q7 cq, .int .i64 k0, .int .i64 m0, .slice Ad k cd] 64)
            have hw3 := below_tr hwb hal
            have ho5a := own_below hST.out.2.1 hw3
            have hge := hEd.size
            have hge2 := hS9.size
            have hyo : ExOwn (wx4.alloc (.cells #[.slice Aq q7 cq, .int .i64 k0, .int .i64 m0, .slice Ad k cd] 64)) w.heap.size ⟨⟨qs, k0, m0, d.take k⟩, Aq, cq, Ad, cd⟩ := ex_own2 HQL.out HKL.out (own_mono (own_below r1_4 ((Below.refl _ _).alloc (Nat.le_refl _) _)) hge) (own_mono (own_below r2 ((Below.refl _ _).alloc (Nat.le_refl _) _)) hge) hok3.out
            refine wpList_append_anyG _ rfl (.tmp 56) (.tmp 74) 27 rfl w.heap.size 64 r0 (.agg #[.slice none 0 0, .int .i64 0, .int .i64 0, .slice none 0 0]) 4 64 Tryz.underlying27 hr0 hw0 hw1 hw2 (by rfl) (by decide) (.slice A5 i c5) i (exsC m) rfl ho5a (wx4.heap.size + 1) (some ⟨wx4.heap.size, 0, none⟩) 1 1 [.slice Aq q7 cq, .int .i64 k0, .int .i64 m0, .slice Ad k cd] rfl (reads_row4 wx4 _ _ _ _ _) (four_one _ _ _ _ rfl rfl rfl rfl) (by unfold maxLen; omega) (by omega) (by simp; omega) ?_
            intro v5 w9 ho5 hg5 hb5
            obtain ⟨A99, c99, rfl⟩ := ownForm ho5
            have hE9 : Below w.heap.size w w9 := (below_tr hEd hal).grown hg5 (by simp; omega) (fun g hg => ownGe ho5a hg)
            have hTn := Sl.mk (to_step2 (y := ⟨⟨qs, k0, m0, d.take k⟩, Aq, cq, Ad, cd⟩) hST.out.1 hST.out.2.1 hST.out.2.2.1 hST.out.2.2.2 (by simp [HSAME.out]) hw3 hyo (by rw [HXC.out]; exact ho5) hg5)
            clear hal hw3 ho5a hge hge2 hyo ho5 hg5 hb5 r1_4 r2
            go_wp2_with fail
            refine NoPanic.normal ?_
            go_wp2_with fail
            go_roundw
            case rel => exact ⟨i + 1, _, _, by omega, by omega, by go_num, hTn.out, hE9⟩
            case measure => simp [intOf]; omega
          · refine wp_of_run (v := .slice (some ⟨wx1.heap.size, 0, none⟩) 0 0) (w' := wx1.alloc (.cells #[] 5)) (by go_simp) ⟨fun _ => hX1.alloc hX1.size _, ?_⟩
            simp only [Act.put, List.setIfInBounds_toArray, List.set_cons_zero, List.set_cons_succ]
            have e2 := own_mono (b' := wf.heap.size) (own_empty wx1 5 1) hX1.size
            have hX2 := hX1.alloc hX1.size (.cells #[] 5)
            have e1_2 := own_below e1 ((Below.refl wx1.heap.size wx1).alloc (Nat.le_refl _) (.cells #[] 5))
            obtain ⟨wx2, hwn⟩ : ∃ wn, wx1.alloc (.cells #[] 5) = wn := ⟨_, rfl⟩
            rw [hwn] at e2 hX2 e1_2 ⊢
            obtain ⟨g2, hgn⟩ : ∃ g, wx1.heap.size = g := ⟨_, rfl⟩
            rw [hgn] at e2 ⊢
            clear hwn hgn
            refine wpAnyX_oneL (k := 3) rfl (by kernel_rfl) rfl ?_
            refine wp_append_any wx2 (.tmp 57) (.tmp 58) 38 rfl wf.heap.size 9 i0 (.string ByteArray.empty) 1 16 Tryz.underlying38 hi0 hz0 hz1 hz2 rfl (by decide) (.slice (some ⟨wf.heap.size, 0, none⟩) 0 0) 0 [] rfl e1_2 wx2.heap.size A7 q7 c7 (strV qs) rfl (HRP.out _ hX2) (strV_one qs) (by unfold maxLen; omega) (by omega) hX2.size ?_
            intro vr1 wx3 ho hg hb
            have hX3 := hX2.grown hg hX2.size (fun g hg => ownGe e1_2 hg)
            have e2_3 := e2.kept hg (ownApart e2 e1_2 (by decide))
            have r1 : wx3.ownsRow wf.heap.size 9 1 vr1 q7 (strV qs) := by simpa using ho
            clear ho hg hb e1_2
            obtain ⟨Aq, cq, rfl⟩ := ownForm r1
            refine ⟨fun _ => hX3, ?_⟩
            simp only [Act.put, List.setIfInBounds_toArray, List.set_cons_zero, List.set_cons_succ]
            refine wpAnyX_oneL (k := 16) rfl (by kernel_rfl) rfl ?_
            refine wp_append_any wx3 (.tmp 70) (.tmp 71) 22 rfl wf.heap.size 5 j0 (.int .u8 0) 1 1 Tryz.underlying22 hj0 hy0 hy1 hy2 rfl (by decide) (.slice (some ⟨g2, 0, none⟩) 0 0) 0 [] rfl e2_3 wx3.heap.size A8 k c8 (u8s (d.take k)) rfl (HRD.out _ hX3) (u8s_one _) (by unfold maxLen; omega) (by omega) hX3.size ?_
            intro vr2 wx4 ho hg hb
            have hX4 := hX3.grown hg hX3.size (fun g hg => ownGe e2_3 hg)
            have r1_4 := r1.kept hg (ownApart r1 e2_3 (by decide))
            have r2 : wx4.ownsRow wf.heap.size 5 1 vr2 k (u8s (d.take k)) := by simpa using ho
            clear ho hg hb e2_3
            obtain ⟨Ad, cd, rfl⟩ := ownForm r2
            refine ⟨fun _ => hX4, ?_⟩
            simp only [Act.put, List.setIfInBounds_toArray, List.set_cons_zero, List.set_cons_succ]
            have hS9 := hX4
            refine wpAnyX_S (i := 17) (v := .agg #[.slice Aq q7 cq, .int .i64 k0, .int .i64 m0, .slice Ad k cd]) rfl (by kernel_rfl) (by kernel_rfl) (by kernel_rfl) (by kernel_rfl) (fun _ _ _ h => h) (.inl ⟨by rfl, fun w' _ => by go_simp⟩) hS9 ?_
            simp only [Act.put, List.setIfInBounds_toArray, List.set_cons_zero, List.set_cons_succ]
            refine wpAnyX_oneL (k := 18) rfl (by kernel_rfl) rfl ?_
            refine wp_of_run (v := .slice (some ⟨wx4.heap.size, 0, none⟩) 1 1) (w' := wx4.alloc (.cells #[.slice Aq q7 cq, .int .i64 k0, .int .i64 m0, .slice Ad k cd] 64)) (by go_simp) ⟨fun _ => hS9.alloc hS9.size _, ?_⟩
            simp only [Act.put, List.setIfInBounds_toArray, List.set_cons_zero, List.set_cons_succ]
            refine wpAnyX_tailF [19, 20] (by kernel_rfl) (by rfl) (by rfl) (by rfl) ?_
            simp only [List.filterMap_cons, List.filterMap_nil, List.getElem?_cons_succ, List.getElem?_cons_zero]
            have hal := hS9.alloc hS9.size (.cells #[.slice Aq q7 cq, .int .i64 k0, .int .i64 m0, .slice Ad k cd] 64)
            have hw3 := below_tr hwb hal
            have ho5a := own_below hST.out.2.1 hw3
            have hge := hEd.size
            have hge2 := hS9.size
            have hyo : ExOwn (wx4.alloc (.cells #[.slice Aq q7 cq, .int .i64 k0, .int .i64 m0, .slice Ad k cd] 64)) w.heap.size ⟨⟨qs, k0, m0, d.take k⟩, Aq, cq, Ad, cd⟩ := ex_own2 HQL.out HKL.out (own_mono (own_below r1_4 ((Below.refl _ _).alloc (Nat.le_refl _) _)) hge) (own_mono (own_below r2 ((Below.refl _ _).alloc (Nat.le_refl _) _)) hge) hok3.out
            refine wpList_append_anyG _ rfl (.tmp 56) (.tmp 74) 27 rfl w.heap.size 64 r0 (.agg #[.slice none 0 0, .int .i64 0, .int .i64 0, .slice none 0 0]) 4 64 Tryz.underlying27 hr0 hw0 hw1 hw2 (by rfl) (by decide) (.slice A5 i c5) i (exsC m) rfl ho5a (wx4.heap.size + 1) (some ⟨wx4.heap.size, 0, none⟩) 1 1 [.slice Aq q7 cq, .int .i64 k0, .int .i64 m0, .slice Ad k cd] rfl (reads_row4 wx4 _ _ _ _ _) (four_one _ _ _ _ rfl rfl rfl rfl) (by unfold maxLen; omega) (by omega) (by simp; omega) ?_
            intro v5 w9 ho5 hg5 hb5
            obtain ⟨A99, c99, rfl⟩ := ownForm ho5
            have hE9 : Below w.heap.size w w9 := (below_tr hEd hal).grown hg5 (by simp; omega) (fun g hg => ownGe ho5a hg)
            have hTn := Sl.mk (to_step2 (y := ⟨⟨qs, k0, m0, d.take k⟩, Aq, cq, Ad, cd⟩) hST.out.1 hST.out.2.1 hST.out.2.2.1 hST.out.2.2.2 (by simp [HSAME.out]) hw3 hyo (by rw [HXC.out]; exact ho5) hg5)
            clear hal hw3 ho5a hge hge2 hyo ho5 hg5 hb5 r1_4 r2
            go_wp2_with fail
            refine NoPanic.normal ?_
            go_wp2_with fail
            go_roundw
            case rel => exact ⟨i + 1, _, _, by omega, by omega, by go_num, hTn.out, hE9⟩
            case measure => simp [intOf]; omega
        · refine wp_of_run (v := .slice (some ⟨wf.heap.size, 0, none⟩) 0 0) (w' := wf.alloc (.cells #[] 5)) (by go_simp) ⟨fun _ => hS.alloc hS.size _, ?_⟩
          simp only [Act.put, List.setIfInBounds_toArray, List.set_cons_zero, List.set_cons_succ]
          have e2 := own_mono (b' := wf.heap.size) (own_empty wf 5 1) hS.size
          have hX1 := hS.alloc hS.size (.cells #[] 5)
          obtain ⟨wx1, hwn⟩ : ∃ wn, wf.alloc (.cells #[] 5) = wn := ⟨_, rfl⟩
          rw [hwn] at e2 hX1  ⊢
          clear hwn
          refine wpAnyX_oneL (k := 1) rfl (by kernel_rfl) rfl ?_
          refine wp_of_run (v := .slice (some ⟨wx1.heap.size, 0, none⟩) 0 0) (w' := wx1.alloc (.cells #[] 9)) (by go_simp) ⟨fun _ => hX1.alloc hX1.size _, ?_⟩
          simp only [Act.put, List.setIfInBounds_toArray, List.set_cons_zero, List.set_cons_succ]
          have e1 := own_mono (b' := wf.heap.size) (own_empty wx1 9 1) hX1.size
          have hX2 := hX1.alloc hX1.size (.cells #[] 9)
          have e2_2 := own_below e2 ((Below.refl wx1.heap.size wx1).alloc (Nat.le_refl _) (.cells #[] 9))
          obtain ⟨wx2, hwn⟩ : ∃ wn, wx1.alloc (.cells #[] 9) = wn := ⟨_, rfl⟩
          rw [hwn] at e1 hX2 e2_2 ⊢
          obtain ⟨g1, hgn⟩ : ∃ g, wx1.heap.size = g := ⟨_, rfl⟩
          rw [hgn] at e1 ⊢
          clear hwn hgn
          refine wpAnyX_oneL (k := 3) rfl (by kernel_rfl) rfl ?_
          refine wp_append_any wx2 (.tmp 57) (.tmp 58) 38 rfl wf.heap.size 9 i0 (.string ByteArray.empty) 1 16 Tryz.underlying38 hi0 hz0 hz1 hz2 rfl (by decide) (.slice (some ⟨g1, 0, none⟩) 0 0) 0 [] rfl e1 wx2.heap.size A7 q7 c7 (strV qs) rfl (HRP.out _ hX2) (strV_one qs) (by unfold maxLen; omega) (by omega) hX2.size ?_
          intro vr1 wx3 ho hg hb
          have hX3 := hX2.grown hg hX2.size (fun g hg => ownGe e1 hg)
          have e2_3 := e2_2.kept hg (ownApart e2_2 e1 (by decide))
          have r1 : wx3.ownsRow wf.heap.size 9 1 vr1 q7 (strV qs) := by simpa using ho
          clear ho hg hb e1
          obtain ⟨Aq, cq, rfl⟩ := ownForm r1
          refine ⟨fun _ => hX3, ?_⟩
          simp only [Act.put, List.setIfInBounds_toArray, List.set_cons_zero, List.set_cons_succ]
          refine wpAnyX_oneL (k := 16) rfl (by kernel_rfl) rfl ?_
          refine wp_append_any wx3 (.tmp 70) (.tmp 71) 22 rfl wf.heap.size 5 j0 (.int .u8 0) 1 1 Tryz.underlying22 hj0 hy0 hy1 hy2 rfl (by decide) (.slice (some ⟨wf.heap.size, 0, none⟩) 0 0) 0 [] rfl e2_3 wx3.heap.size A8 k c8 (u8s (d.take k)) rfl (HRD.out _ hX3) (u8s_one _) (by unfold maxLen; omega) (by omega) hX3.size ?_
          intro vr2 wx4 ho hg hb
          have hX4 := hX3.grown hg hX3.size (fun g hg => ownGe e2_3 hg)
          have r1_4 := r1.kept hg (ownApart r1 e2_3 (by decide))
          have r2 : wx4.ownsRow wf.heap.size 5 1 vr2 k (u8s (d.take k)) := by simpa using ho
          clear ho hg hb e2_3
          obtain ⟨Ad, cd, rfl⟩ := ownForm r2
          refine ⟨fun _ => hX4, ?_⟩
          simp only [Act.put, List.setIfInBounds_toArray, List.set_cons_zero, List.set_cons_succ]
          have hS9 := hX4
          refine wpAnyX_S (i := 17) (v := .agg #[.slice Aq q7 cq, .int .i64 k0, .int .i64 m0, .slice Ad k cd]) rfl (by kernel_rfl) (by kernel_rfl) (by kernel_rfl) (by kernel_rfl) (fun _ _ _ h => h) (.inl ⟨by rfl, fun w' _ => by go_simp⟩) hS9 ?_
          simp only [Act.put, List.setIfInBounds_toArray, List.set_cons_zero, List.set_cons_succ]
          refine wpAnyX_oneL (k := 18) rfl (by kernel_rfl) rfl ?_
          refine wp_of_run (v := .slice (some ⟨wx4.heap.size, 0, none⟩) 1 1) (w' := wx4.alloc (.cells #[.slice Aq q7 cq, .int .i64 k0, .int .i64 m0, .slice Ad k cd] 64)) (by go_simp) ⟨fun _ => hS9.alloc hS9.size _, ?_⟩
          simp only [Act.put, List.setIfInBounds_toArray, List.set_cons_zero, List.set_cons_succ]
          refine wpAnyX_tailF [19, 20] (by kernel_rfl) (by rfl) (by rfl) (by rfl) ?_
          simp only [List.filterMap_cons, List.filterMap_nil, List.getElem?_cons_succ, List.getElem?_cons_zero]
          have hal := hS9.alloc hS9.size (.cells #[.slice Aq q7 cq, .int .i64 k0, .int .i64 m0, .slice Ad k cd] 64)
          have hw3 := below_tr hwb hal
          have ho5a := own_below hST.out.2.1 hw3
          have hge := hEd.size
          have hge2 := hS9.size
          have hyo : ExOwn (wx4.alloc (.cells #[.slice Aq q7 cq, .int .i64 k0, .int .i64 m0, .slice Ad k cd] 64)) w.heap.size ⟨⟨qs, k0, m0, d.take k⟩, Aq, cq, Ad, cd⟩ := ex_own2 HQL.out HKL.out (own_mono (own_below r1_4 ((Below.refl _ _).alloc (Nat.le_refl _) _)) hge) (own_mono (own_below r2 ((Below.refl _ _).alloc (Nat.le_refl _) _)) hge) hok3.out
          refine wpList_append_anyG _ rfl (.tmp 56) (.tmp 74) 27 rfl w.heap.size 64 r0 (.agg #[.slice none 0 0, .int .i64 0, .int .i64 0, .slice none 0 0]) 4 64 Tryz.underlying27 hr0 hw0 hw1 hw2 (by rfl) (by decide) (.slice A5 i c5) i (exsC m) rfl ho5a (wx4.heap.size + 1) (some ⟨wx4.heap.size, 0, none⟩) 1 1 [.slice Aq q7 cq, .int .i64 k0, .int .i64 m0, .slice Ad k cd] rfl (reads_row4 wx4 _ _ _ _ _) (four_one _ _ _ _ rfl rfl rfl rfl) (by unfold maxLen; omega) (by omega) (by simp; omega) ?_
          intro v5 w9 ho5 hg5 hb5
          obtain ⟨A99, c99, rfl⟩ := ownForm ho5
          have hE9 : Below w.heap.size w w9 := (below_tr hEd hal).grown hg5 (by simp; omega) (fun g hg => ownGe ho5a hg)
          have hTn := Sl.mk (to_step2 (y := ⟨⟨qs, k0, m0, d.take k⟩, Aq, cq, Ad, cd⟩) hST.out.1 hST.out.2.1 hST.out.2.2.1 hST.out.2.2.2 (by simp [HSAME.out]) hw3 hyo (by rw [HXC.out]; exact ho5) hg5)
          clear hal hw3 ho5a hge hge2 hyo ho5 hg5 hb5 r1_4 r2
          go_wp2_with fail
          refine NoPanic.normal ?_
          go_wp2_with fail
          go_roundw
          case rel => exact ⟨i + 1, _, _, by omega, by omega, by go_num, hTn.out, hE9⟩
          case measure => simp [intOf]; omega
      · obtain rfl : i = 41 := by omega
        have h1 : decide ((41 : Int) < (n : Int)) = true := by simp; omega
        go_wp2_with fail
        go_ret2
        exact ⟨A4, A5, 41, c4, c5, l, m, rfl, by omega, hT, hB⟩
    · obtain rfl : i = n := by omega
      go_wp2_with fail
      go_ret2
      exact ⟨A4, A5, i, c4, c5, l, m, rfl, hi41, hT, hB⟩

end Go.Proofs.YticcphppnmoogaaGreatDoor
