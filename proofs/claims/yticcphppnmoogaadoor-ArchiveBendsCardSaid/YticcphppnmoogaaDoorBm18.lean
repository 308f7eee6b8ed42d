/-
  The walk of the law ArchiveTells.
-/
import Derived.Test.YticcphppnmoogaaDoorBm12

namespace Go.Proofs.YticcphppnmoogaaDoor
open Go.RowKit
attribute [local go_sem ↓] Go.wp_at_zero Go.wp_at_succ

theorem neq_dig (A : List Nat) (hA : A.length = 32) (w : World) : (binOp .neq 45 (.agg (u8s A).toArray) (.agg (u8s A).toArray)).run Tryd.prog w = .ok (.bool false) w := by
  have h := eql_dig A A hA hA w
  rw [run_eql_struct] at h
  rw [run_neq_struct]
  revert h
  cases (Op.equalIn 10000 45 (.agg (u8s A).toArray) (.agg (u8s A).toArray)).run Tryd.prog w with
  | ok b w' =>
    intro h
    simp only [Result.andThen] at h ⊢
    injection h with h1 h2
    injection h1 with h1
    have : b = true := by rw [h1]; simp
    rw [this, h2]; rfl
  | halt c w' => intro h; simp [Result.andThen] at h
theorem idxE_same {q : List ByteArray} : ∀ {l m : List Ex}, l.map (·.e) = m.map (·.e) → idxE q l = idxE q m
  | [], [], _ => rfl
  | [], _ :: _, h => by simp at h
  | _ :: _, [], h => by simp at h
  | x :: l, y :: m, h => by
    simp only [List.map_cons, List.cons.injEq] at h
    unfold idxE
    rw [h.1, idxE_same h.2]
theorem len_same {l m : List Ex} (h : l.map (·.e) = m.map (·.e)) : l.length = m.length := by
  have := congrArg List.length h
  simpa using this
theorem placE_same {q : List ByteArray} {l m : List Ex} (h : l.map (·.e) = m.map (·.e)) : placE q l = placE q m := by
  unfold placE; rw [idxE_same h, len_same h]
theorem files_same {l m : List Ex} (h : l.map (·.e) = m.map (·.e)) : filesF l = filesF m := by
  have e : ∀ l : List Ex, filesF l = ((l.map (·.e)).map fun x => if x.kind = 0 then 1 else 0).sum := fun l => by simp only [filesF, List.map_map]; rfl
  rw [e, e, h]
theorem all_same {l m : List Ex} (h : l.map (·.e) = m.map (·.e)) : allF l = allF m := by
  have e : ∀ l : List Ex, allF l = ((l.map (·.e)).map fun x => if x.kind = 0 then x.data.length else 0).sum := fun l => by simp only [allF, List.map_map]; rfl
  rw [e, e, h]
theorem eqL_self (l : List Ex) : eqL l l = true := (eqL_iff l l).2 rfl
theorem eqL_same {l l' m m' : List Ex} (h : l.map (·.e) = m.map (·.e)) (h' : l'.map (·.e) = m'.map (·.e)) : eqL m m' = eqL l l' := by
  have h1 := eqL_iff l l'
  have h2 := eqL_iff m m'
  rw [← h, ← h'] at h2
  exact Bool.eq_iff_iff.2 (h2.trans h1.symm)
theorem get_same {l m : List Ex} {i : Nat} {x : Ex} (h : l.map (·.e) = m.map (·.e)) (hx : l[i]? = some x) : ∃ y, m[i]? = some y ∧ y.e = x.e := by
  have h1 : (l.map (·.e))[i]? = some x.e := by simp [hx]
  rw [h, List.getElem?_map] at h1
  cases hm : m[i]? with
  | none => rw [hm] at h1; simp at h1
  | some y => rw [hm] at h1; simp at h1; exact ⟨y, rfl, h1⟩
theorem digC_at : ∀ (l : List Ex) (i : Nat) (r : Ex), l[i]? = some r → ∀ (j : Nat) (v : Value), (u8s (shaF r.e.data))[j]? = some v → (digC l)[i * 32 + j]? = some v
  | [], i, r, h, _, _, _ => by simp at h
  | x :: l, 0, r, h, j, v, hv => by
    simp at h; subst h
    have hj : j < (u8s (shaF x.e.data)).length := (List.getElem?_eq_some_iff.1 hv).1
    simp only [digC, List.flatMap_cons, Nat.zero_mul, Nat.zero_add]
    rw [List.getElem?_append_left hj, hv]
  | x :: l, i + 1, r, h, j, v, hv => by
    have h' : l[i]? = some r := by simpa using h
    have h32 : (u8s (shaF x.e.data)).length = 32 := by rw [u8s_len, shaF_len]
    have e : (i + 1) * 32 + j = (u8s (shaF x.e.data)).length + (i * 32 + j) := by rw [h32]; omega
    simp only [digC, List.flatMap_cons]
    rw [e, List.getElem?_append_right (by omega), Nat.add_sub_cancel_left]
    exact digC_at l i r h' j v hv
theorem Exs.one {w : World} {A : Option Addr} {x : Ex} (h : Reads w w.heap.size 4 A 1 (exC x)) (hx : ExOk w w.heap.size x) : Exs w A 1 [x] :=
  ⟨by have e : exsC [x] = exC x := by simp [exsC]
      rw [e]; exact h, fun y hy => by simp at hy; subst hy; exact hx⟩

theorem ToSt.exs2 {w : World} {base n c c' : Nat} {A A' : Option Addr} {l m : List Ex} (h : ToSt w base (.slice A n c) (.slice A' n c') n l m) : Exs w A n l ∧ Exs w A' n m :=
  ⟨⟨Reads.of_own h.o4, fun x hx => (h.k4 x hx).1.ok⟩, ⟨Reads.of_own h.o5, fun x hx => (h.k5 x hx).ok⟩⟩
theorem digInfoS : (Tryd.prog.info? 45).map (·.size) = some 32 := by kernel_rfl

/-- What Find has told. -/
def Told (w : World) (g : Nat) (E : Int) (q : List ByteArray) (L : List Ex) : Prop :=
  (∃ x x' : Ex, E = 0 ∧ L[idxE q L]? = some x ∧ x'.e = x.e ∧ Blk w g 34 (exC x').toArray ∧ ExOk w w.heap.size x') ∨ (E = 7 ∧ idxE q L = L.length)
theorem Told.drewN {w : World} {g : Nat} {E : Int} {q : List ByteArray} {L : List Ex} (h : Told w g E q L) (k : Nat) : Told (w.drewN k) g E q L := by
  rcases h with ⟨x, x', h1, h2, h3, h4, h5⟩ | h
  · exact .inl ⟨x, x', h1, h2, h3, h4.drewN k, h5.be (below_drN (Below.refl _ _) k)⟩
  · exact .inr h

section
variable {a : World} {g : Nat} {c0 c1 c2 c3 : Value}
theorem s6_al {W : World} (o : Obj) (h : Below a.heap.size a W ∧ W.cell? ⟨g, 0, none⟩ = some c0 ∧ W.cell? ⟨g, 1, none⟩ = some c1 ∧ W.cell? ⟨g, 2, none⟩ = some c2 ∧ W.cell? ⟨g, 3, none⟩ = some c3) :
    Below a.heap.size a (W.alloc o) ∧ (W.alloc o).cell? ⟨g, 0, none⟩ = some c0 ∧ (W.alloc o).cell? ⟨g, 1, none⟩ = some c1 ∧ (W.alloc o).cell? ⟨g, 2, none⟩ = some c2 ∧ (W.alloc o).cell? ⟨g, 3, none⟩ = some c3 := by
  have hl : g < W.heap.size := cell_lt' h.2.1
  exact ⟨below_al h.1 o, (World.cell?_alloc_lt W o ⟨g, 0, none⟩ hl).trans h.2.1, (World.cell?_alloc_lt W o ⟨g, 1, none⟩ hl).trans h.2.2.1, (World.cell?_alloc_lt W o ⟨g, 2, none⟩ hl).trans h.2.2.2.1, (World.cell?_alloc_lt W o ⟨g, 3, none⟩ hl).trans h.2.2.2.2⟩
theorem s6_be {W W' : World} (h : Below a.heap.size a W ∧ W.cell? ⟨g, 0, none⟩ = some c0 ∧ W.cell? ⟨g, 1, none⟩ = some c1 ∧ W.cell? ⟨g, 2, none⟩ = some c2 ∧ W.cell? ⟨g, 3, none⟩ = some c3) (hb : Below W.heap.size W W') :
    Below a.heap.size a W' ∧ W'.cell? ⟨g, 0, none⟩ = some c0 ∧ W'.cell? ⟨g, 1, none⟩ = some c1 ∧ W'.cell? ⟨g, 2, none⟩ = some c2 ∧ W'.cell? ⟨g, 3, none⟩ = some c3 := by
  have hl : g < W.heap.size := cell_lt' h.2.1
  exact ⟨below_tr h.1 hb, (hb.cell (p := ⟨g, 0, none⟩) hl).trans h.2.1, (hb.cell (p := ⟨g, 1, none⟩) hl).trans h.2.2.1, (hb.cell (p := ⟨g, 2, none⟩) hl).trans h.2.2.2.1, (hb.cell (p := ⟨g, 3, none⟩) hl).trans h.2.2.2.2⟩
theorem reads_blk4' {w : World} {g : Nat} {T : TypeId} {a b c d : Value} (h : Blk w g T #[a, b, c, d]) : Reads w w.heap.size 4 (some ⟨g, 0, none⟩) 1 [a, b, c, d] :=
  ⟨rfl, fun _ => ⟨_, rfl, h.lt, fun j u hj => by
    rw [addr_add0, h.cell j]
    simpa using hj⟩⟩
theorem of6 {W : World} {b : Nat} {x : Ex} (hx : ExOk a a.heap.size x) (hS : Below a.heap.size a W ∧ W.cell? ⟨g, 0, none⟩ = some c0 ∧ W.cell? ⟨g, 1, none⟩ = some c1 ∧ W.cell? ⟨g, 2, none⟩ = some c2 ∧ W.cell? ⟨g, 3, none⟩ = some c3) (hb : Blk W b 34 (exC x).toArray) :
    Calls Tryd.prog 13 #[.slice (some ⟨b, 0, none⟩) 1 1] W fun e w' => ∃ A' c', e = .returned (.slice A' 1 c') ∧ Exs w' A' 1 [x] ∧ (Below a.heap.size a w' ∧ w'.cell? ⟨g, 0, none⟩ = some c0 ∧ w'.cell? ⟨g, 1, none⟩ = some c1 ∧ w'.cell? ⟨g, 2, none⟩ = some c2 ∧ w'.cell? ⟨g, 3, none⟩ = some c3) := by
  have hE : Exs W (some ⟨b, 0, none⟩) 1 [x] := Exs.one (reads_blk4' hb) (hx.be hS.1)
  refine (aof_any (some ⟨b, 0, none⟩) 1 1 [x] W (by omega) hE).mono fun e w' hp => ?_
  obtain ⟨A', c', rfl, ho, hB⟩ := hp
  exact ⟨A', c', rfl, ⟨Reads.of_own ho, fun y hy => ((hE.be hB).ok y hy)⟩, s6_be hS hB⟩
theorem same6 {W : World} {A' A2 : Option Addr} {c' c2' : Nat} {x y : Ex} (hy : Exs a A2 1 [y]) (hxy : eqL [x] [y] = true) (hS : Below a.heap.size a W ∧ W.cell? ⟨g, 0, none⟩ = some c0 ∧ W.cell? ⟨g, 1, none⟩ = some c1 ∧ W.cell? ⟨g, 2, none⟩ = some c2 ∧ W.cell? ⟨g, 3, none⟩ = some c3) (hA : Exs W A' 1 [x]) :
    Calls Tryd.prog 12 #[.slice A' 1 c', .slice A2 1 c2'] W fun e w' => e = .returned (.bool true) ∧ (Below a.heap.size a w' ∧ w'.cell? ⟨g, 0, none⟩ = some c0 ∧ w'.cell? ⟨g, 1, none⟩ = some c1 ∧ w'.cell? ⟨g, 2, none⟩ = some c2 ∧ w'.cell? ⟨g, 3, none⟩ = some c3) := by
  refine (rsames_any A' A2 1 c' 1 c2' [x] [y] W (by omega) (by omega) hA (hy.be hS.1)).mono fun e w' hp => ?_
  obtain ⟨rfl, hB⟩ := hp
  rw [hxy]
  exact ⟨rfl, s6_be hS (below_of_drewN hB)⟩
end

set_option maxRecDepth 100000 in
set_option maxHeartbeats 16000000 in
theorem tells_walk (A B P : Option Addr) (n c m d pn pc : Nat) (l0 m0 : List Ex) (p : List ByteArray) (w : World) (hn : n ≤ 9223372036854775807) (hI : Ins w A n l0) (hm : m ≤ 9223372036854775807) (hJ : Ins w B m m0) (hpn : pn ≤ 9223372036854775807) (hps : ∀ s ∈ p, s.size ≤ 9223372036854775807)
    (hp : Reads w w.heap.size 1 P pn (strV p)) (hM : Mx w) (hT : Tabs w) :
    Calls Tryd.prog 4 #[.slice A n c, .slice B m d, .slice P pn pc] w fun e w' => e = .returned (.bool true) ∧ Below w.heap.size w w' := by
  have HT1 := Sl.mk (to_any A n c l0 w hn hI)
  have HJ := Sl.mk hJ
  have HP := Sl.mk hp
  have HPS := Sl.mk hps
  have HM := Sl.mk hM
  have HTb := Sl.mk hT
  clear hI hJ hp hps hM hT
  unfold ToPost at HT1
  go_enter Tryd.func4, Tryd.ntmps4
  go_wp2_with fail
  refine HT1.out.mono ?_
  rintro e w1 ⟨A1, A2, n1, c1, c2, L, M, rfl, hn1, hT1, hB1⟩
  have HX := Sl.mk hT1.exs2
  have HSM := Sl.mk hT1.same
  have hc1 := ownCapS hT1.o4
  have hc2 := ownCapS hT1.o5
  have HLn := Sl.mk hT1.exs2.1.n_
  have HT2 := Sl.mk (to_any B m d m0 w1 hm (HJ.out.be hB1))
  unfold ToPost at HT2
  clear hT1 HT1
  go_wp2_with fail
  refine HT2.out.mono ?_
  rintro e w2 ⟨A3, A4, n2, c3, c4, L', M', rfl, hn2, hT2, hB2⟩
  have HZ := Sl.mk hT2.exs2
  have HSM2 := Sl.mk hT2.same
  have hE2 := below_tr hB1 hB2
  have HX2 := Sl.mk (And.intro (HX.out.1.be hB2) (HX.out.2.be hB2))
  have HF := Sl.mk (few_any P pn pc p w2 hpn HPS.out ((HP.out.below hE2).more hE2.size))
  unfold FewPost at HF
  clear hT2 HT2 HX hB1
  go_wp2_with fail
  refine HF.out.mono ?_
  rintro e w3 ⟨A5, pn5, c5, q, rfl, ho5, hpn5, hqs, hB3⟩
  have hE3 := below_tr hE2 hB3
  have HQ := Sl.mk (Reads.of_own ho5)
  have HX3 := Sl.mk (And.intro (HX2.out.1.be hB3) (HX2.out.2.be hB3))
  have HZ3 := Sl.mk (And.intro (HZ.out.1.be hB3) (HZ.out.2.be hB3))
  have HFD := Sl.mk (find_any A5 pn5 c5 q A1 n1 c1 L w3 (by omega) HX3.out.1 (by omega) HQ.out)
  unfold FindPost at HFD
  clear ho5 hqs HF HX2 HZ hB2 hB3 hE2
  go_upto_region 4 with fail
  go_cut [11, 12] (fun v11 v12 wx => ∃ (g : Nat) (E : Int), v11 = .pointer (some ⟨g, 0, none⟩) ∧ v12 = .int .i64 E ∧ Below w3.heap.size w3 wx ∧ Sl (Told wx g E q L))
  case first =>
    go_wp2_with fail
    refine HFD.out.mono ?_
    rintro e w4 ⟨hB4, hpost⟩
    rcases hpost with ⟨x, x', hx, hxe, hxo, he⟩ | ⟨hno, rfl⟩
    · obtain ⟨⟨p', k', m', d'⟩, pa', pc', da', dc'⟩ := x'
      obtain rfl : e = .returned (.tuple #[.agg #[.slice pa' p'.length pc', .int .i64 k', .int .i64 m', .slice da' d'.length dc'], .int .i64 0]) := he
      have hal := (Below.refl w4.heap.size w4).alloc (Nat.le_refl _) (.cells #[.slice pa' p'.length pc', .int .i64 k', .int .i64 m', .slice da' d'.length dc'] 34)
      have HT4 := Sl.mk (show Told (w4.alloc (.cells #[.slice pa' p'.length pc', .int .i64 k', .int .i64 m', .slice da' d'.length dc'] 34)) w4.heap.size 0 q L from .inl ⟨x, ⟨⟨p', k', m', d'⟩, pa', pc', da', dc'⟩, rfl, hx, hxe, Blk.new _ _ _, hxo.ok.be hal⟩)
      have hBa := below_al hB4 (.cells #[.slice pa' p'.length pc', .int .i64 k', .int .i64 m', .slice da' d'.length dc'] 34)
      clear hx hxe hxo hB4 hal
      go_wp2_with fail
      go_meet
      exact ⟨_, _, rfl, rfl, hBa, HT4⟩
    · have HT4 := Sl.mk (show Told (w4.alloc (.cells #[.slice none 0 0, .int .i64 0, .int .i64 0, .slice none 0 0] 34)) w4.heap.size 7 q L from .inr ⟨rfl, hno⟩)
      have hBa := below_al hB4 (.cells #[.slice none 0 0, .int .i64 0, .int .i64 0, .slice none 0 0] 34)
      clear hno hB4
      go_wp2_with fail
      go_meet
      exact ⟨_, _, rfl, rfl, hBa, HT4⟩
  case rest =>
    obtain ⟨g4, E4, rfl, rfl, hB4, HT4⟩ := hcut
    have hE4 := below_tr hE3 hB4
    have HX4 := Sl.mk (And.intro (HX3.out.1.be hB4) (HX3.out.2.be hB4))
    have HZ4 := Sl.mk (And.intro (HZ3.out.1.be hB4) (HZ3.out.2.be hB4))
    have HQ4 := Sl.mk ((HQ.out.below hB4).more hB4.size)
    have HRF := Sl.mk (rfind_any A5 pn5 c5 q A2 n1 c2 M wc (by omega) HX4.out.2 (by omega) HQ4.out)
    clear HFD HX3 HZ3 HQ hE3 hB4
    go_wp2_with fail
    refine HRF.out.mono ?_
    rintro e w5 ⟨rfl, k5, hw5⟩
    have hB5 : Below wc.heap.size wc w5 := by rw [hw5]; exact below_drN (Below.refl _ _) k5
    have hT5 : Sl (Told w5 g4 E4 q L) := ⟨by rw [hw5]; exact HT4.out.drewN k5⟩
    have hE5 := below_tr hE4 hB5
    have HX5 := Sl.mk (And.intro (HX4.out.1.be hB5) (HX4.out.2.be hB5))
    have HZ5 := Sl.mk (And.intro (HZ4.out.1.be hB5) (HZ4.out.2.be hB5))
    clear hw5 HT4 hE4 HX4 HZ4 HQ4 HRF hB5
    go_wp2_with fail
    go_cut [12, 13, 66] (fun _ _ v66 wx => v66 = .bool false ∧ Below w5.heap.size w5 wx)
    case first =>
      rcases hT5.out with ⟨x, x', hE0, hx, hxe, hblk, hxok⟩ | ⟨hE7, hno⟩
      · subst hE0
        obtain ⟨y, hy, hye⟩ := get_same HSM.out hx
        have hi : idxE q M < M.length := (List.getElem?_eq_some_iff.1 (by rw [← idxE_same HSM.out]; exact hy)).1
        have hpl : placE q M = ((idxE q M : Nat) : Int) := by unfold placE; rw [if_pos hi]
        rw [hpl]
        have hMn : M.length = n1 := HX5.out.2.n_
        obtain ⟨i, hii⟩ : ∃ i, idxE q M = i := ⟨_, rfl⟩
        rw [hii]
        have hin : i < n1 := by omega
        rw [idxE_same HSM.out, hii] at hx hy
        obtain ⟨yb, yo, rfl, hyb, hyc, hyok⟩ := HX5.out.2.lit hy
        obtain ⟨⟨p', k', m', d'⟩, pa', pc', da', dc'⟩ := x'
        have hxy : eqL [⟨⟨p', k', m', d'⟩, pa', pc', da', dc'⟩] [y] = true := (eqL_iff _ _).2 (by show [En.mk p' k' m' d'] = [y.e]; rw [hye]; exact congrArg (fun e => [e]) hxe)
        have hblk' : Blk w5 g4 34 #[.slice pa' p'.length pc', .int .i64 k', .int .i64 m', .slice da' d'.length dc'] := hblk
        have hg4 := hblk'.lt
        have HBK := Sl.mk hblk'
        have HYE := Sl.mk hyok
        have HXO := Sl.mk hxok
        have HXY := Sl.mk hxy
        have HYY : Sl (Exs w5 (some ⟨yb, yo + i * 4, none⟩) 1 [y]) := Sl.mk <| Exs.one ⟨rfl, fun _ => ⟨_, rfl, hyb, fun j u hu => by rw [Addr.add_lit]; exact hyc j u hu⟩⟩ hyok
        have hwr : IntKind.i64.wrap ((i : Int) + 1) = (i : Int) + 1 := by rw [IntKind.wrap_i64]; omega
        have hi1 : ((i : Int) + 1).toNat = i + 1 := by omega
        have hic : i < c2 := by omega
        have hic2 : (i : Int) + 1 ≤ (c2 : Int) := by omega
        have hne : ¬ c2 = i := by omega
        have hsub : i + 1 - i = 1 := by omega
        have hd0 : decide ((i : Int) < 0) = false := by simp
        have hd1 : decide ((0 : Int) ≤ (i : Int)) = true := by simp
        have hi0 : (0 : Int) ≤ (i : Int) := by omega
        have hi01 : (i : Int) ≤ (i : Int) + 1 := by omega
        clear hx hxe hblk hblk' hy hye hi hpl hMn hii hyb hyc hyok hxy hxok
        obtain ⟨wd, hwd⟩ : ∃ wd, w5.drew = wd := ⟨_, rfl⟩
        have hwb : Below w5.heap.size w5 wd := by rw [← hwd]; exact (Below.refl _ _).drew
        have HLV : Sl (∀ W, Below wd.heap.size wd W → (loadVar 34 ⟨g4, 0, none⟩).run Tryd.prog W = .ok (.agg #[.slice pa' p'.length pc', .int .i64 k', .int .i64 m', .slice da' d'.length dc']) W) := Sl.mk (fun W hW =>
          run_loadVar_at W ⟨g4, 0, none⟩ 34 [.slice pa' p'.length pc', .int .i64 k', .int .i64 m', .slice da' d'.length dc'] _ (fun j v hv => by rw [addr_add0, ((HBK.out.be hwb).below hW (Nat.lt_of_lt_of_le hg4 hwb.size)).cell j]; simpa using hv) Tryd.underlying34 rfl enSize)
        have HSF : Sl (∀ W : World, Below wd.heap.size wd W → True) := Sl.mk (fun _ _ => trivial)
        have eg1 : ∀ args w, (callFunc 13 args).run Tryd.prog w = .ok (.enter 13 args) w := enters_of Tryd.func13 (by kernel_rfl) rfl
        have eg2 : ∀ args w, (callFunc 12 args).run Tryd.prog w = .ok (.enter 12 args) w := enters_of Tryd.func12 (by kernel_rfl) rfl
        refine wp_region_X (fun W => Below wd.heap.size wd W) [22, 23, 24, 25] (by kernel_rfl) (by rw [hwd]; exact Below.refl _ _) (fun hS => ?_)
        rw [hwd] at hS ⊢
        clear hwd
        refine wpAnyX_S (i := 0) (v := ?_) rfl (by kernel_rfl) (by kernel_rfl) (by kernel_rfl) (by kernel_rfl) (fun _ _ _ h => h) (Or.inl ⟨by rfl, ?_⟩) hS ?_
        rotate_left 1
        · (intro w' hw'; (first | rw [hw'] | (have hw2 := HSF.out w' hw') | skip); go_simp; (try with_reducible rfl))
        simp only [Act.put, List.setIfInBounds_toArray, List.set_cons_zero, List.set_cons_succ]
        refine wpAnyX_S (i := 1) (v := ?_) rfl (by kernel_rfl) (by kernel_rfl) (by kernel_rfl) (by kernel_rfl) (fun _ _ _ h => h) (Or.inl ⟨by rfl, ?_⟩) hS ?_
        rotate_left 1
        · (intro w' hw'; (first | rw [hw'] | (have hw2 := HSF.out w' hw') | skip); go_simp; (try with_reducible rfl))
        simp only [Act.put, List.setIfInBounds_toArray, List.set_cons_zero, List.set_cons_succ]
        refine wpAnyX_S (i := 2) (v := ?_) rfl (by kernel_rfl) (by kernel_rfl) (by kernel_rfl) (by kernel_rfl) (fun _ _ _ h => h) (Or.inl ⟨by rfl, ?_⟩) hS ?_
        rotate_left 1
        · (intro w' hw'; (first | rw [hw'] | (have hw2 := HSF.out w' hw') | skip); go_simp; (try with_reducible rfl))
        simp only [Act.put, List.setIfInBounds_toArray, List.set_cons_zero, List.set_cons_succ]
        refine wpAnyX_S (i := 3) (v := undef) rfl (by kernel_rfl) (by kernel_rfl) (by kernel_rfl) (by kernel_rfl) (fun _ _ _ h => h) (Or.inr ⟨by rfl, rfl⟩) hS ?_
        simp only [Act.put, List.setIfInBounds_toArray, List.set_cons_zero, List.set_cons_succ]
        refine wpAnyX_S (i := 4) (v := undef) rfl (by kernel_rfl) (by kernel_rfl) (by kernel_rfl) (by kernel_rfl) (fun _ _ _ h => h) (Or.inr ⟨by rfl, rfl⟩) hS ?_
        simp only [Act.put, List.setIfInBounds_toArray, List.set_cons_zero, List.set_cons_succ]
        refine wpAnyX_S (i := 5) (v := ?_) rfl (by kernel_rfl) (by kernel_rfl) (by kernel_rfl) (by kernel_rfl) (fun _ _ _ h => h) (Or.inl ⟨by rfl, ?_⟩) hS ?_
        rotate_left 1
        · (intro w' hw'; (first | rw [hw'] | (have hw2 := HSF.out w' hw') | skip); go_simp; (try with_reducible rfl))
        simp only [Act.put, List.setIfInBounds_toArray, List.set_cons_zero, List.set_cons_succ]
        refine wpAnyX_S (i := 6) (v := ?_) rfl (by kernel_rfl) (by kernel_rfl) (by kernel_rfl) (by kernel_rfl) (fun _ _ _ h => h) (Or.inl ⟨by rfl, ?_⟩) hS ?_
        rotate_left 1
        · (intro w' hw'; (first | rw [hw'] | (have hw2 := HSF.out w' hw') | skip); go_simp; (try with_reducible rfl))
        simp only [Act.put, List.setIfInBounds_toArray, List.set_cons_zero, List.set_cons_succ]
        refine wpAnyX_S (i := 7) (v := ?_) rfl (by kernel_rfl) (by kernel_rfl) (by kernel_rfl) (by kernel_rfl) (fun _ _ _ h => h) (Or.inl ⟨by rfl, ?_⟩) hS ?_
        rotate_left 1
        · (intro w' hw'; (first | rw [hw'] | (have hw2 := HSF.out w' hw') | skip); go_simp; (try with_reducible rfl))
        simp only [Act.put, List.setIfInBounds_toArray, List.set_cons_zero, List.set_cons_succ]
        refine wpAnyX_S (i := 8) (v := ?_) rfl (by kernel_rfl) (by kernel_rfl) (by kernel_rfl) (by kernel_rfl) (fun _ _ _ h => h) (Or.inl ⟨by rfl, ?_⟩) hS ?_
        rotate_left 1
        · (intro w' hw'; (first | rw [hw'] | (have hw2 := HSF.out w' hw') | skip); go_simp; (try with_reducible rfl))
        simp only [Act.put, List.setIfInBounds_toArray, List.set_cons_zero, List.set_cons_succ]
        refine wpAnyX_S (i := 9) (v := ?_) rfl (by kernel_rfl) (by kernel_rfl) (by kernel_rfl) (by kernel_rfl) (fun _ _ _ h => h) (Or.inl ⟨by rfl, ?_⟩) hS ?_
        rotate_left 1
        · (intro w' hw'; (first | rw [hw'] | (have hw2 := HSF.out w' hw') | skip); go_simp; (try with_reducible rfl))
        simp only [Act.put, List.setIfInBounds_toArray, List.set_cons_zero, List.set_cons_succ]
        refine wpAnyX_S (i := 10) (v := ?_) rfl (by kernel_rfl) (by kernel_rfl) (by kernel_rfl) (by kernel_rfl) (fun _ _ _ h => h) (Or.inl ⟨by rfl, ?_⟩) hS ?_
        rotate_left 1
        · (intro w' hw'; (first | rw [hw'] | (have hw2 := HSF.out w' hw') | skip); go_simp; (try with_reducible rfl))
        simp only [Act.put, List.setIfInBounds_toArray, List.set_cons_zero, List.set_cons_succ]
        refine wpAnyX_S (i := 11) (v := ?_) rfl (by kernel_rfl) (by kernel_rfl) (by kernel_rfl) (by kernel_rfl) (fun _ _ _ h => h) (Or.inl ⟨by rfl, ?_⟩) hS ?_
        rotate_left 1
        · (intro w' hw'; (first | rw [hw'] | (have hw2 := HSF.out w' hw') | skip); go_simp; (try with_reducible rfl))
        simp only [Act.put, List.setIfInBounds_toArray, List.set_cons_zero, List.set_cons_succ]
        refine wpAnyX_S (i := 12) (v := ?_) rfl (by kernel_rfl) (by kernel_rfl) (by kernel_rfl) (by kernel_rfl) (fun _ _ _ h => h) (Or.inl ⟨by rfl, ?_⟩) hS ?_
        rotate_left 1
        · (intro w' hw'; (first | rw [hw'] | (have hw2 := HSF.out w' hw') | skip); go_simp; (try with_reducible rfl))
        simp only [Act.put, List.setIfInBounds_toArray, List.set_cons_zero, List.set_cons_succ]
        refine wpAnyX_S (i := 13) (v := .agg #[.slice pa' p'.length pc', .int .i64 k', .int .i64 m', .slice da' d'.length dc']) rfl (by kernel_rfl) (by kernel_rfl) (by kernel_rfl) (by kernel_rfl) (fun _ _ _ h => h) (yieldsIf_loadA (by rfl) 34 (.tmp 11) rfl ⟨g4, 0, none⟩ _ rfl (fun w' hw' => HLV.out w' hw')) hS ?_
        simp only [Act.put, List.setIfInBounds_toArray, List.set_cons_zero, List.set_cons_succ]
        refine wpAnyX_S (i := 16) (v := ?_) rfl (by kernel_rfl) (by kernel_rfl) (by kernel_rfl) (by kernel_rfl) (fun _ _ _ h => h) (Or.inl ⟨by rfl, ?_⟩) hS ?_
        rotate_left 1
        · (intro w' hw'; (first | rw [hw'] | (have hw2 := HSF.out w' hw') | skip); go_simp; (try with_reducible rfl))
        simp only [Act.put, List.setIfInBounds_toArray, List.set_cons_zero, List.set_cons_succ]
        refine wpAnyX_S (i := 17) (v := ?_) rfl (by kernel_rfl) (by kernel_rfl) (by kernel_rfl) (by kernel_rfl) (fun _ _ _ h => h) (Or.inl ⟨by rfl, ?_⟩) hS ?_
        rotate_left 1
        · (intro w' hw'; (first | rw [hw'] | (have hw2 := HSF.out w' hw') | skip); go_simp; (try with_reducible rfl))
        simp only [Act.put, List.setIfInBounds_toArray, List.set_cons_zero, List.set_cons_succ]
        refine wpAnyX_S (i := 18) (v := ?_) rfl (by kernel_rfl) (by kernel_rfl) (by kernel_rfl) (by kernel_rfl) (fun _ _ _ h => h) (Or.inl ⟨by rfl, ?_⟩) hS ?_
        rotate_left 1
        · (intro w' hw'; (first | rw [hw'] | (have hw2 := HSF.out w' hw') | skip); go_simp; (try with_reducible rfl))
        simp only [Act.put, List.setIfInBounds_toArray, List.set_cons_zero, List.set_cons_succ]
        refine wpAnyX_S (i := 19) (v := ?_) rfl (by kernel_rfl) (by kernel_rfl) (by kernel_rfl) (by kernel_rfl) (fun _ _ _ h => h) (Or.inl ⟨by rfl, ?_⟩) hS ?_
        rotate_left 1
        · (intro w' hw'; (first | rw [hw'] | (have hw2 := HSF.out w' hw') | skip); go_simp; (try with_reducible rfl))
        simp only [Act.put, List.setIfInBounds_toArray, List.set_cons_zero, List.set_cons_succ]
        refine wpAnyX_S (i := 20) (v := .slice (some ⟨yb, yo + i * 4, none⟩) 1 (c2 - i)) rfl (by kernel_rfl) (by kernel_rfl) (by kernel_rfl) (by kernel_rfl) (fun _ _ _ h => h) (.inl ⟨by rfl, fun w' _ => by go_simp⟩) hS ?_
        simp only [Act.put, List.setIfInBounds_toArray, List.set_cons_zero, List.set_cons_succ]
        refine wpAnyX_oneG (k := 14) rfl (by kernel_rfl) (by rfl) ?_
        refine wp_of_run (v := .slice (some ⟨wd.heap.size, 0, none⟩) 1 1) (w' := wd.alloc (.cells #[.slice pa' p'.length pc', .int .i64 k', .int .i64 m', .slice da' d'.length dc'] 34)) (by go_simp) ⟨fun _ => (Below.refl _ _).alloc (Nat.le_refl _) _, ?_⟩
        simp only [Act.put, List.setIfInBounds_toArray, List.set_cons_zero, List.set_cons_succ]
        refine wpAnyX_oneG (k := 15) rfl (by kernel_rfl) (by rfl) ?_
        have hal : Below wd.heap.size wd (wd.alloc (.cells #[.slice pa' p'.length pc', .int .i64 k', .int .i64 m', .slice da' d'.length dc'] 34)) := (Below.refl _ _).alloc (Nat.le_refl _) _
        refine wp_of_call (f := 13) (args := #[.slice (some ⟨wd.heap.size, 0, none⟩) 1 1]) (by go_simp) (aof_any (some ⟨wd.heap.size, 0, none⟩) 1 1 [⟨⟨p', k', m', d'⟩, pa', pc', da', dc'⟩] _ (by omega) (Exs.one (reads_blk4' (Blk.new _ _ _)) ((HXO.out.be hwb).be hal))) (fun e w6 hq => ?_)
        obtain ⟨A6, c6, rfl, ho6, hB6⟩ := hq
        have hW6 := below_tr hal hB6
        have HX6 := Sl.mk (show Exs w6 A6 1 [⟨⟨p', k', m', d'⟩, pa', pc', da', dc'⟩] from ⟨Reads.of_own ho6, fun z hz => by simp at hz; subst hz; exact (HXO.out.be hwb).be hW6⟩)
        refine ⟨_, rfl, fun _ => hW6, ?_⟩
        simp only [Act.put, List.setIfInBounds_toArray, List.set_cons_zero, List.set_cons_succ]
        refine wpAnyX_oneG (k := 21) rfl (by kernel_rfl) (by rfl) ?_
        refine wp_of_call (f := 12) (args := #[.slice A6 1 c6, .slice (some ⟨yb, yo + i * 4, none⟩) 1 (c2 - i)]) (by go_simp) (rsames_any A6 (some ⟨yb, yo + i * 4, none⟩) 1 c6 1 (c2 - i) _ _ w6 (by omega) (by omega) HX6.out ((HYY.out.be hwb).be hW6)) (fun e w7 hq => ?_)
        obtain ⟨rfl, hB7⟩ := hq
        rw [HXY.out]
        have hW7 := below_tr hW6 (below_of_drewN hB7)
        refine ⟨_, rfl, fun _ => hW7, ?_⟩
        simp only [Act.put, List.setIfInBounds_toArray, List.set_cons_zero, List.set_cons_succ]
        refine wpAnyX_tailF [22, 23, 24, 25] (by kernel_rfl) (by rfl) (by rfl) (by rfl) ?_
        simp only [List.filterMap_cons, List.filterMap_nil, List.getElem?_cons_succ, List.getElem?_cons_zero]
        have hfin := below_tr hwb hW7
        clear HLV HSF HBK HYE HXO HX6 HYY hB7 hW7 hW6 hB6 ho6 hal hS
        go_wp2_with fail
        refine NoPanic.normal ?_
        go_wp2_with fail
        go_meet
        exact ⟨rfl, hfin⟩
      · subst hE7
        have hpl : placE q M = -1 := by
          rw [← placE_same HSM.out]
          unfold placE; rw [if_neg (by omega)]
        rw [hpl]
        clear hno hpl
        go_quiet (fail)
        go_wp2_with fail
        go_meet
        exact ⟨rfl, below_drN (Below.refl _ _) nq⟩
    case rest =>
      obtain ⟨rfl, hB6⟩ := hcut
      have hE6 := below_tr hE5 hB6
      have HX6 := Sl.mk (And.intro (HX5.out.1.be hB6) (HX5.out.2.be hB6))
      have HZ6 := Sl.mk (And.intro (HZ5.out.1.be hB6) (HZ5.out.2.be hB6))
      have HDG := Sl.mk (digests_any A1 n1 c1 L wc (by omega) HX6.out.1 (HTb.out.below hE6 HTb.out.1))
      clear hT5 hE5 HX5 HZ5 hB6
      go_wp2_with fail
      refine HDG.out.mono ?_
      rintro e w7 ⟨A7, c7, rfl, ho7, hB7⟩
      have hE7 := below_tr hE6 hB7
      have HX7 := Sl.mk (And.intro (HX6.out.1.be hB7) (HX6.out.2.be hB7))
      have HZ7 := Sl.mk (And.intro (HZ6.out.1.be hB7) (HZ6.out.2.be hB7))
      have HD7 := Sl.mk ho7
      have hcap7 := ownCapS ho7
      have hself : ((n1 : Int) != (n1 : Int)) = false := by simp
      clear hE6 HX6 HZ6 HDG hB7 ho7
      go_wp2_with fail
      go_loopw [14, 15, 17] (fun v14 v15 v17 wr => ∃ i : Nat, i ≤ n1 ∧ v17 = .int .i64 i ∧ v14 = .int .i64 (filesF (M.take i)) ∧ v15 = .int .i64 (allF (M.take i)) ∧ Below w7.heap.size w7 wr) (fun _ _ v17 _ => n1 - (intOf v17).toNat)
      case atStart => exact ⟨0, Nat.zero_le _, rfl, rfl, rfl, Below.refl _ _⟩
      case round =>
        obtain ⟨i, hi, rfl, rfl, rfl, hB⟩ := hrel
        by_cases hil : i < n1
        · have hMn : M.length = n1 := HX7.out.2.n_
          obtain ⟨y, hy⟩ : ∃ y, M[i]? = some y := ⟨_, List.getElem?_eq_getElem (by omega)⟩
          obtain ⟨x, hx, hxy⟩ := get_same HSM.out.symm hy
          obtain ⟨yb, yo, rfl, hyb, hyc, hyok⟩ := (HX7.out.2.be hB).lit hy
          have hc1' : wr.cell? ⟨yb, yo + i * 4 + 1, none⟩ = some (.int .i64 y.e.kind) := hyc 1 _ rfl
          have hc3' : wr.cell? ⟨yb, yo + i * 4 + 3, none⟩ = some (.slice y.da y.e.data.length y.dc) := hyc 3 _ rfl
          have hF : filesF (M.take (i + 1)) = filesF (M.take i) + (if y.e.kind = 0 then 1 else 0) := by rw [take_snoc' hy]; simp [filesF]
          have hA : allF (M.take (i + 1)) = allF (M.take i) + (if y.e.kind = 0 then y.e.data.length else 0) := by rw [take_snoc' hy]; simp [allF]
          have h1 := files_le (M.take i)
          have h2 := all_le (M.take i) (fun z hz => ((HX7.out.2.ok z (List.mem_of_mem_take hz)).dlen))
          have h3 : (M.take i).length ≤ 1000 := by rw [List.length_take]; omega
          have h4 := hyok.dlen
          obtain ⟨F, hFF⟩ : ∃ F, filesF (M.take i) = F := ⟨_, rfl⟩
          obtain ⟨G, hGG⟩ : ∃ G, allF (M.take i) = G := ⟨_, rfl⟩
          rw [hFF] at hF h1 ⊢
          rw [hGG] at hA h2 ⊢
          have hF1000 : F ≤ 1000 := by omega
          have hG1000 : G ≤ 100000000 := by omega
          have HF := Sl.mk hF
          have HA := Sl.mk hA
          have HY := Sl.mk hyok
          have HXI := Sl.mk hx
          have HXYE := Sl.mk hxy
          have hci : i < c2 := by omega
          clear hF hA h1 h2 h3 hFF hGG hyok hx hxy hyc hy hMn
          go_upto_if 85 with fail
          go_cut [14, 15] (fun v14 v15 wx => v14 = .int .i64 (filesF (M.take (i + 1))) ∧ v15 = .int .i64 (allF (M.take (i + 1))) ∧ wx = wr)
          case first =>
            by_cases hk : y.e.kind = 0
            · have HF2 := Sl.mk (HF.out.trans (by rw [if_pos hk]))
              have HA2 := Sl.mk (HA.out.trans (by rw [if_pos hk]))
              have hk' : (y.e.kind == 0) = true := by simpa using hk
              clear hk HF HA
              go_wp2_with fail
              go_meet
              exact ⟨by rw [HF2.out]; go_num, by rw [HA2.out]; go_num, rfl⟩
            · have HF2 := Sl.mk (HF.out.trans (by rw [if_neg hk]))
              have HA2 := Sl.mk (HA.out.trans (by rw [if_neg hk]))
              have hk' : (y.e.kind == 0) = false := by simpa using hk
              clear hk HF HA
              go_wp2_with fail
              go_meet
              exact ⟨by rw [HF2.out]; rfl, by rw [HA2.out]; rfl, rfl⟩
          case rest =>
            obtain ⟨rfl, rfl, rfl⟩ := hcut
            clear HF HA
            have hRd := Reads.of_own HD7.out
            obtain ⟨ad7, rfl, hb7, hc7'⟩ := hRd.2 (by omega)
            have h32 : (u8s (shaF x.e.data)).length = 32 := by rw [u8s_len, shaF_len]
            have hat : ∀ (j : Nat) (v : Value), (u8s (shaF y.e.data))[j]? = some v → w7.cell? (ad7.add (i * 32 + j)) = some v := fun j v hv => hc7' _ _ (digC_at L i x HXI.out j v (by rw [HXYE.out]; exact hv))
            obtain ⟨gd, od, rfl⟩ : ∃ gd od, ad7 = ⟨gd, od, none⟩ := by
              exact ⟨_, _, addr_lit (hc7' 0 _ (List.getElem?_eq_getElem (by rw [hRd.1]; omega)))⟩
            have hgd : gd < w7.heap.size := hb7
            obtain ⟨wd, hwd⟩ : ∃ wd, wc.drew = wd := ⟨_, rfl⟩
            have hEd : Below w7.heap.size w7 wd := by rw [← hwd]; exact hB.drew
            have hEc : Below wc.heap.size wc wd := by rw [← hwd]; exact (Below.refl _ _).drew
            have HLV : Sl (∀ W, Below wd.heap.size wd W → (loadVar 45 ⟨gd, od + i * 32, none⟩).run Tryd.prog W = .ok (.agg (u8s (shaF y.e.data)).toArray) W) := Sl.mk (fun W hW =>
              run_loadVar_at W ⟨gd, od + i * 32, none⟩ 45 (u8s (shaF y.e.data)) _ (fun j v hv => by
                have h := ((below_tr hEd hW).cell (p := (⟨gd, od, none⟩ : Addr).add (i * 32 + j)) (by rw [block_of_add]; exact hgd)).trans (hat j v hv)
                rw [Addr.add_lit] at h ⊢
                rw [Nat.add_assoc]; exact h) Tryd.underlying45 rfl (by rw [u8s_len, shaF_len]; exact digInfoS))
            have HSF : Sl (∀ W : World, Below wd.heap.size wd W → W.cell? ⟨yb, yo + i * 4 + 3, none⟩ = some (.slice y.da y.e.data.length y.dc)) := Sl.mk (fun W hW => ((below_tr (by rw [← hwd]; exact (Below.refl _ _).drew) hW).cell (p := ⟨yb, yo + i * 4 + 3, none⟩) hyb).trans hc3')
            have hdl : y.e.data.length ≤ 10000000000 := by have := HY.out.dlen; omega
            have HO : Sl (∀ W : World, Below wc.heap.size wc W → Calls Tryd.prog 15 #[.slice (some ⟨W.heap.size, 0, none⟩) 1 1] (W.alloc (.cells #[.slice y.da y.e.data.length y.dc] 32)) fun e w' => e = .returned (.agg (u8s (shaF y.e.data)).toArray) ∧ Below W.heap.size W w') := Sl.mk (fun W hW => of_single_at W.heap.size W y.da y.dc y.e.data.length y.e.data rfl rfl (rds_of_reads (HY.out.be hW).data) hdl (HTb.out.below (below_tr hE7 (below_tr hB hW)) HTb.out.1))
            have HNQ := Sl.mk (neq_dig (shaF y.e.data) (shaF_len _))
            obtain ⟨Dg, hDg⟩ : ∃ Dg, u8s (shaF y.e.data) = Dg := ⟨_, rfl⟩
            rw [hDg] at HLV HO HNQ
            have eg1 : ∀ args w, (callFunc 15 args).run Tryd.prog w = .ok (.enter 15 args) w := enters_of Tryd.func15 (by kernel_rfl) rfl
            clear hRd hb7 hc7' h32 hat hDg hB
            go_wp2_with fail
            refine wp_region_X (fun W => Below wd.heap.size wd W) [11] (by kernel_rfl) (by rw [hwd]; exact Below.refl _ _) (fun hS => ?_)
            rw [hwd] at hS ⊢
            clear hwd
            refine wpAnyX_S (i := 0) (v := ?_) rfl (by kernel_rfl) (by kernel_rfl) (by kernel_rfl) (by kernel_rfl) (fun _ _ _ h => h) (Or.inl ⟨by rfl, ?_⟩) hS ?_
            rotate_left 1
            · (intro w' hw'; (first | rw [hw'] | (have hw2 := HSF.out w' hw') | skip); go_simp; (try with_reducible rfl))
            simp only [Act.put, List.setIfInBounds_toArray, List.set_cons_zero, List.set_cons_succ]
            refine wpAnyX_S (i := 1) (v := ?_) rfl (by kernel_rfl) (by kernel_rfl) (by kernel_rfl) (by kernel_rfl) (fun _ _ _ h => h) (Or.inl ⟨by rfl, ?_⟩) hS ?_
            rotate_left 1
            · (intro w' hw'; (first | rw [hw'] | (have hw2 := HSF.out w' hw') | skip); go_simp; (try with_reducible rfl))
            simp only [Act.put, List.setIfInBounds_toArray, List.set_cons_zero, List.set_cons_succ]
            refine wpAnyX_S (i := 2) (v := ?_) rfl (by kernel_rfl) (by kernel_rfl) (by kernel_rfl) (by kernel_rfl) (fun _ _ _ h => h) (Or.inl ⟨by rfl, ?_⟩) hS ?_
            rotate_left 1
            · (intro w' hw'; (first | rw [hw'] | (have hw2 := HSF.out w' hw') | skip); go_simp; (try with_reducible rfl))
            simp only [Act.put, List.setIfInBounds_toArray, List.set_cons_zero, List.set_cons_succ]
            refine wpAnyX_S (i := 3) (v := .agg Dg.toArray) rfl (by kernel_rfl) (by kernel_rfl) (by kernel_rfl) (by kernel_rfl) (fun _ _ _ h => h) (yieldsIf_loadA (by rfl) 45 (.tmp 98) rfl ⟨gd, od + i * 32, none⟩ _ rfl (fun w' hw' => HLV.out w' hw')) hS ?_
            simp only [Act.put, List.setIfInBounds_toArray, List.set_cons_zero, List.set_cons_succ]
            refine wpAnyX_S (i := 4) (v := ?_) rfl (by kernel_rfl) (by kernel_rfl) (by kernel_rfl) (by kernel_rfl) (fun _ _ _ h => h) (Or.inl ⟨by rfl, ?_⟩) hS ?_
            rotate_left 1
            · (intro w' hw'; (first | rw [hw'] | (have hw2 := HSF.out w' hw') | skip); go_simp; (try with_reducible rfl))
            simp only [Act.put, List.setIfInBounds_toArray, List.set_cons_zero, List.set_cons_succ]
            refine wpAnyX_S (i := 5) (v := ?_) rfl (by kernel_rfl) (by kernel_rfl) (by kernel_rfl) (by kernel_rfl) (fun _ _ _ h => h) (Or.inl ⟨by rfl, ?_⟩) hS ?_
            rotate_left 1
            · (intro w' hw'; (first | rw [hw'] | (have hw2 := HSF.out w' hw') | skip); go_simp; (try with_reducible rfl))
            simp only [Act.put, List.setIfInBounds_toArray, List.set_cons_zero, List.set_cons_succ]
            refine wpAnyX_S (i := 6) (v := ?_) rfl (by kernel_rfl) (by kernel_rfl) (by kernel_rfl) (by kernel_rfl) (fun _ _ _ h => h) (Or.inl ⟨by rfl, ?_⟩) hS ?_
            rotate_left 1
            · (intro w' hw'; (first | rw [hw'] | (have hw2 := HSF.out w' hw') | skip); go_simp; (try with_reducible rfl))
            simp only [Act.put, List.setIfInBounds_toArray, List.set_cons_zero, List.set_cons_succ]
            refine wpAnyX_S (i := 7) (v := ?_) rfl (by kernel_rfl) (by kernel_rfl) (by kernel_rfl) (by kernel_rfl) (fun _ _ _ h => h) (Or.inl ⟨by rfl, ?_⟩) hS ?_
            rotate_left 1
            · (intro w' hw'; (first | rw [hw'] | (have hw2 := HSF.out w' hw') | skip); go_simp; (try with_reducible rfl))
            simp only [Act.put, List.setIfInBounds_toArray, List.set_cons_zero, List.set_cons_succ]
            refine wpAnyX_S (i := 8) (v := ?_) rfl (by kernel_rfl) (by kernel_rfl) (by kernel_rfl) (by kernel_rfl) (fun _ _ _ h => h) (Or.inl ⟨by rfl, ?_⟩) hS ?_
            rotate_left 1
            · (intro w' hw'; (first | rw [hw'] | (have hw2 := HSF.out w' hw') | skip); go_simp; (try with_reducible rfl))
            simp only [Act.put, List.setIfInBounds_toArray, List.set_cons_zero, List.set_cons_succ]
            refine wpAnyX_oneL (k := 9) rfl (by kernel_rfl) rfl ?_
            refine wp_of_run (v := .slice (some ⟨wd.heap.size, 0, none⟩) 1 1) (w' := wd.alloc (.cells #[.slice y.da y.e.data.length y.dc] 32)) (by go_simp) ⟨fun _ => (Below.refl _ _).alloc (Nat.le_refl _) _, ?_⟩
            simp only [Act.put, List.setIfInBounds_toArray, List.set_cons_zero, List.set_cons_succ]
            refine wpAnyX_oneL (k := 10) rfl (by kernel_rfl) rfl ?_
            refine wp_of_call (f := 15) (args := #[.slice (some ⟨wd.heap.size, 0, none⟩) 1 1]) (by go_simp) (HO.out wd hEc) (fun e w9 hq => ?_)
            obtain ⟨rfl, hB9⟩ := hq
            refine ⟨_, rfl, fun _ => hB9, ?_⟩
            simp only [Act.put, List.setIfInBounds_toArray, List.set_cons_zero, List.set_cons_succ]
            refine wpAnyX_oneL (k := 11) rfl (by kernel_rfl) rfl ?_
            refine wp_of_run (v := .bool false) (w' := w9) (by go_simp; have h := HNQ.out w9; rw [run_neq_struct] at h; rw [h]; rfl) ⟨fun h => absurd h (by decide), ?_⟩
            refine wpAnyX_tailF [] (by kernel_rfl) (by rfl) (by rfl) (by rfl) ?_
            simp only [List.filterMap_nil]
            have hE9 := below_tr hEd hB9
            clear HLV HSF HO HNQ hB9 hEd hEc hS hc1' hc3' hyb
            go_wp2_with fail
            refine NoPanic.normal ?_
            go_wp2_with fail
            go_roundw
            case rel => exact ⟨i + 1, by omega, by go_num, rfl, rfl, hE9⟩
            case measure => simp [intOf]; omega
        · obtain rfl : i = n1 := by omega
          have hMn : M.length = i := HX7.out.2.n_
          have ht : M.take i = M := List.take_of_length_le (by omega)
          rw [ht, ← files_same HSM.out, ← all_same HSM.out]
          have HS := Sl.mk (fun (W : World) (hW : Below w7.heap.size w7 W) => sizes_any A1 i c1 L W (by omega) (HX7.out.1.be hW))
          have HK := Sl.mk (fun (W : World) (hW : Below w.heap.size w W) => aknown_any W (HM.out.be hW))
          have HS1 := Sl.mk (fun (W : World) (hW : Below w7.heap.size w7 W) => asame_any A1 A3 i c1 n2 c3 L L' W (by omega) (by omega) (HX7.out.1.be hW) (HZ7.out.1.be hW))
          have HS2 := Sl.mk (fun (W : World) (hW : Below w7.heap.size w7 W) => rsames_any A2 A4 i c2 n2 c4 M M' W (by omega) (by omega) (HX7.out.2.be hW) (HZ7.out.2.be hW))
          have HS3 := Sl.mk (fun (W : World) (hW : Below w7.heap.size w7 W) => asame_any A1 A1 i c1 i c1 L L W (by omega) (by omega) (HX7.out.1.be hW) (HX7.out.1.be hW))
          have HEQ := Sl.mk (eqL_same HSM.out HSM2.out)
          have HEE := Sl.mk (eqL_self L)
          obtain ⟨F, hF⟩ : ∃ F, filesF L = F := ⟨_, rfl⟩
          obtain ⟨G, hG⟩ : ∃ G, allF L = G := ⟨_, rfl⟩
          rw [hF, hG]
          have HFG := Sl.mk (And.intro hF hG)
          clear hF hG ht hMn HX7 HZ7 HSM HSM2
          go_wp2_with fail
          refine (HS.out _ hB).mono ?_
          rintro e wa ⟨rfl, hBa⟩
          have hEa := below_tr hB hBa
          rw [HFG.out.1, HFG.out.2]
          go_wp2_with fail
          refine (HK.out _ (below_tr hE7 hEa)).mono ?_
          rintro e wb ⟨rfl, hBb⟩
          have hEb := below_tr hEa hBb
          go_wp2_with fail
          refine (HS1.out _ hEb).mono ?_
          rintro e wx ⟨rfl, hBx⟩
          have hEx := below_tr hEb hBx
          go_wp2_with fail
          refine (HS2.out _ hEx).mono ?_
          rintro e wy ⟨rfl, ky, hwy⟩
          have hEy := below_tr hEx (below_of_drewN ⟨ky, hwy⟩)
          rw [HEQ.out]
          clear hwy
          obtain ⟨b, hb⟩ : ∃ b, eqL L L' = b := ⟨_, rfl⟩
          rw [hb]
          clear hb
          have hbb : (b == b) = true := by cases b <;> rfl
          go_wp2_with fail
          refine (HS3.out _ hEy).mono ?_
          rintro e wz ⟨rfl, hBz⟩
          rw [HEE.out]
          go_wp2_with fail
          go_ret
          exact ⟨rfl, below_tr hE7 (below_tr hEy hBz)⟩

end Go.Proofs.YticcphppnmoogaaDoor
