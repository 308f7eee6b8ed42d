/-
  The contracts of Find's predicate, slices.IndexFunc at entries, Find.
  The contracts of the six checks of an entry.
  The contracts of lead and place.
-/
import Derived.Test.YticcphppnmoogaaDoorBm5
import Derived.Laws.IdiomStrings
import Derived.Laws.BytesArg

namespace Go.Proofs.YticcphppnmoogaaDoor
open Go.RowKit
attribute [local go_sem ↓] Go.wp_at_zero Go.wp_at_succ

theorem below_of_drewN {w w' : World} (h : ∃ k, w' = w.drewN k) : Below w.heap.size w w' := by
  obtain ⟨k, rfl⟩ := h
  exact below_drN (Below.refl _ _) k

theorem pred_any (x : Ex) (A2 : Option Addr) (m d : Nat) (q : List ByteArray) (g : Nat) (w : World) (hx : ExOk w w.heap.size x) (hm : m ≤ 1000) (hg : g < w.heap.size) (hc : w.cell? ⟨g, 0, none⟩ = some (.slice A2 m d)) (hq : Reads w w.heap.size 1 A2 m (strV q)) :
    Calls Tryd.prog 23 #[.agg (exC x).toArray, .pointer (some ⟨g, 0, none⟩)] w fun e w' => e = .returned (.bool (eqP x.e.path q)) ∧ Below w.heap.size w w' := by
  obtain ⟨⟨p, k, mo, da⟩, pa, pc, dd, dc⟩ := x
  have hp : Reads w w.heap.size 1 pa p.length (strV p) := hx.path
  have hpl : p.length ≤ 100 := hx.plen
  clear hx
  show Calls Tryd.prog 23 #[.agg #[.slice pa p.length pc, .int .i64 k, .int .i64 mo, .slice dd da.length dc], .pointer (some ⟨g, 0, none⟩)] w _
  obtain ⟨pl, hple⟩ : ∃ pl, p.length = pl := ⟨_, rfl⟩
  obtain ⟨dl, hdle⟩ : ∃ dl, da.length = dl := ⟨_, rfl⟩
  rw [hple] at hp hpl ⊢
  rw [hdle]
  clear hple hdle
  have hE := below_al (Below.refl w.heap.size w) (.cells #[.slice pa pl pc, .int .i64 k, .int .i64 mo, .slice dd dl dc] 34)
  have HS := Sl.mk (same_any pa A2 pl pc m d p q (w.alloc (.cells #[.slice pa pl pc, .int .i64 k, .int .i64 mo, .slice dd dl dc] 34)) (by omega) (by omega) ((hp.below hE).more hE.size) ((hq.below hE).more hE.size))
  have c1 := (World.cell?_alloc_lt w (.cells #[.slice pa pl pc, .int .i64 k, .int .i64 mo, .slice dd dl dc] 34) ⟨g, 0, none⟩ hg).trans hc
  clear hp hq hc
  go_enter Tryd.func23, Tryd.ntmps23
  go_wp2_with fail
  refine HS.out.mono ?_
  rintro e w' ⟨rfl, kk, rfl⟩
  go_wp2_with fail
  go_ret
  exact ⟨rfl, below_drN hE kk⟩

def idxE (q : List ByteArray) : List Ex → Nat
  | [] => 0
  | x :: l => if eqP x.e.path q = true then 0 else idxE q l + 1
def placE (q : List ByteArray) (l : List Ex) : Int := if idxE q l < l.length then idxE q l else -1
theorem idxE_le (q : List ByteArray) : ∀ l : List Ex, idxE q l ≤ l.length
  | [] => Nat.le_refl _
  | x :: l => by unfold idxE; split <;> simp [idxE_le q l]
theorem idxE_lt {q : List ByteArray} : ∀ {l : List Ex} {x : Ex}, x ∈ l → eqP x.e.path q = true → idxE q l < l.length
  | y :: l, x, hx, he => by
    unfold idxE
    rcases List.mem_cons.1 hx with rfl | hx
    · rw [if_pos he]; simp
    · split
      · simp
      · have := idxE_lt hx he
        simp; omega

section
variable {P : Program} {ops : Array Oper} {rest : List Oper} {op : Oper} {a : Act} {w : World} {Q : Exit → Act → World → Prop}
/-- A struct is loaded from any address. -/
theorem ld_ex {ad : Addr} {x : Ex} (hc : ∀ j v, (exC x)[j]? = some v → w.cell? (ad.add j) = some v) (hgd : op.guard = none) (y : Operand) (ho : op.op = .load 34 y) (hy : a.eval y = .pointer (some ad))
    (h : wpList Tryd.prog ops Q rest (a.put op.dst (.agg (exC x).toArray)) w) : wpList Tryd.prog ops Q (op :: rest) a w :=
  wpList_load_at hgd 34 y ho _ hy (exC x) _ hc Tryd.underlying34 rfl (by rw [enSize, exC_len]) h
end

set_option maxHeartbeats 1000000 in
theorem indexe_any (A2 : Option Addr) (m d : Nat) (q : List ByteArray) (g : Nat) (A : Option Addr) (n c : Nat) (l : List Ex) (w : World) (hn : n ≤ 1000000) (hE : Exs w A n l) (hm : m ≤ 1000) (hg : g < w.heap.size) (hc : w.cell? ⟨g, 0, none⟩ = some (.slice A2 m d)) (hq : Reads w w.heap.size 1 A2 m (strV q)) :
    Calls Tryd.prog 22 #[.slice A n c, .func (.func 23) #[] #[.pointer (some ⟨g, 0, none⟩)]] w fun e w' => e = .returned (.int .i64 (placE q l)) ∧ Below w.heap.size w w' := by
  have HL := Sl.mk hE.n_
  have HE := Sl.mk hE
  have HQ := Sl.mk hq
  have HC := Sl.mk hc
  clear hE hq hc
  go_enter Tryd.func22, Tryd.ntmps22
  go_wp2_with fail
  go_loopw [5, 8] (fun _ s8 wr => ∃ i : Nat, i ≤ n ∧ s8 = .int .i64 i ∧ Sl (idxE q l = i + idxE q (l.drop i)) ∧ Below w.heap.size w wr) (fun _ s8 _ => n - (intOf s8).toNat)
  case atStart => exact ⟨0, Nat.zero_le _, rfl, ⟨by simp⟩, Below.refl _ _⟩
  case round =>
    obtain ⟨i, hi, rfl, HI, hB⟩ := hrel
    by_cases hil : i < n
    · obtain ⟨x, hx⟩ : ∃ x, l[i]? = some x := ⟨_, List.getElem?_eq_getElem (by rw [HL.out]; exact hil)⟩
      obtain ⟨ad, rfl, hbl, hld, hok⟩ := (HE.out.be hB).at_ hx
      have hd0 : wr.cell? (ad.add (i * 4)) = some (.slice x.pa x.e.path.length x.pc) := by have := hld 0 _ rfl; simpa [Addr.add] using this
      have HD := Sl.mk (drop_cons1 hx)
      have HP := Sl.mk (pred_any x A2 m d q g wr hok hm (Nat.lt_of_lt_of_le hg hB.size) ((hB.cell (p := ⟨g, 0, none⟩) hg).trans HC.out) ((HQ.out.below hB).more hB.size))
      clear hx hok
      go_wp2_with (refine ld_ex hld rfl (.tmp 14) rfl rfl ?_)
      refine HP.out.mono ?_
      rintro e w2 ⟨rfl, hB2⟩
      have hE2 := below_tr hB hB2
      clear hB hld hB2 hd0
      cases eR : eqP x.e.path q
      · have HN := Sl.mk (show idxE q l = (i + 1) + idxE q (l.drop (i + 1)) by rw [HI.out, HD.out, idxE, if_neg (by rw [eR]; simp)]; omega)
        go_wp2_with fail
        go_roundw
        case rel => exact ⟨i + 1, by omega, by go_num, HN, hE2⟩
        case measure => simp [intOf]; omega
      · have HN := Sl.mk (show placE q l = i by
          have : idxE q l = i := by rw [HI.out, HD.out, idxE, if_pos eR]; omega
          unfold placE; rw [this, if_pos (by rw [HL.out]; exact hil)])
        go_wp2_with fail
        go_ret
        exact ⟨by rw [HN.out]; rfl, hE2⟩
    · obtain rfl : i = n := by omega
      have HN := Sl.mk (show placE q l = -1 by
        have h : l.drop i = [] := List.drop_of_length_le (by rw [HL.out]; omega)
        have h0 := HI.out
        rw [h] at h0
        unfold placE; rw [if_neg (by rw [HL.out, h0]; simp [idxE])])
      go_wp2_with fail
      go_ret
      exact ⟨by rw [HN.out]; rfl, hB⟩

def FindPost (w : World) (q : List ByteArray) (l : List Ex) (e : Ending) (w' : World) : Prop :=
  Below w.heap.size w w' ∧ ((∃ x x' : Ex, l[idxE q l]? = some x ∧ x'.e = x.e ∧ ExOwn w' w.heap.size x' ∧ e = .returned (.tuple #[.agg (exC x').toArray, .int .i64 0])) ∨
    (idxE q l = l.length ∧ e = .returned (.tuple #[.agg #[.slice none 0 0, .int .i64 0, .int .i64 0, .slice none 0 0], .int .i64 7])))

set_option maxRecDepth 100000 in
set_option maxHeartbeats 1000000 in
theorem find_any (A2 : Option Addr) (m d : Nat) (q : List ByteArray) (A : Option Addr) (n c : Nat) (l : List Ex) (w : World) (hn : n ≤ 1000000) (hE : Exs w A n l) (hm : m ≤ 1000) (hq : Reads w w.heap.size 1 A2 m (strV q)) :
    Calls Tryd.prog 10 #[.slice A n c, .slice A2 m d] w (FindPost w q l) := by
  obtain ⟨w0, hw0⟩ : ∃ w0, (w.alloc (.cells #[.slice A2 m d] 31)).alloc (.cells #[.slice none 0 0, .int .i64 0, .int .i64 0, .slice none 0 0] 34) = w0 := ⟨_, rfl⟩
  have hB0 : Below w.heap.size w w0 := by rw [← hw0]; exact below_al (below_al (Below.refl _ _) _) _
  have hG0 : Blk w0 w.heap.size 31 #[.slice A2 m d] := by rw [← hw0]; exact (Blk.new _ _ _).alloc _
  have hZ0 : Blk w0 (w.heap.size + 1) 34 #[.slice none 0 0, .int .i64 0, .int .i64 0, .slice none 0 0] := by rw [← hw0]; exact Blk.new' (by simp)
  have hs0 : w0.heap.size = w.heap.size + 2 := by rw [← hw0]; simp
  have HIX := Sl.mk (indexe_any A2 m d q w.heap.size A n c l w0 hn (hE.be hB0) hm hG0.lt (hG0.cell 0) ((hq.below hB0).more hB0.size))
  have HE0 := Sl.mk (hE.be hB0)
  have HL := Sl.mk hE.n_
  clear hE hq
  go_enter Tryd.func10, Tryd.ntmps10
  go_wp2_with fail
  clear hw0
  refine HIX.out.mono ?_
  rintro e w1 ⟨rfl, hB1⟩
  have hZ1 := hZ0.be hB1
  have hE1 := below_tr hB0 hB1
  have HE1 := Sl.mk (HE0.out.be hB1)
  have hge1 := hB1.size
  rw [hs0] at hge1
  clear hZ0 hB0 hB1 HE0 hG0 HIX hs0
  by_cases hi : idxE q l < l.length
  · obtain ⟨x, hx⟩ : ∃ x, l[idxE q l]? = some x := ⟨_, List.getElem?_eq_getElem hi⟩
    have hp : placE q l = ((idxE q l : Nat) : Int) := by unfold placE; rw [if_pos hi]
    obtain ⟨ad, rfl, hbl, hld, hok⟩ := HE1.out.at_ hx
    rw [hp]
    have HX := Sl.mk hx
    obtain ⟨i, hii⟩ : ∃ i, idxE q l = i := ⟨_, rfl⟩
    have hin : i < n := by have := HL.out; omega
    have HII := Sl.mk hii
    have hd0 : w1.cell? (ad.add (idxE q l * 4)) = some (.slice x.pa x.e.path.length x.pc) := by have := hld 0 _ rfl; simpa [Addr.add] using this
    have HC := Sl.mk (copied_any x w1 hok)
    rw [hii] at hld hd0 ⊢
    clear hp hi hx hii hok
    go_wp2_with (refine ld_ex hld rfl (.tmp 15) rfl rfl ?_)
    refine HC.out.mono ?_
    rintro e w2 ⟨x', rfl, hxe, hok2, hB2⟩
    have hZ2 := hZ1.be hB2
    have hE2 := below_tr hE1 hB2
    have hge2 := hB2.size
    clear hZ1 hE1 hld hd0
    obtain ⟨⟨p', k', m', d'⟩, pa', pc', da', dc'⟩ := x'
    have HOK := Sl.mk hok2
    have HXE := Sl.mk hxe
    clear hok2 hxe
    go_wp2_with (refine st_en hZ2 rfl (.tmp 4) (.tmp 17) rfl pa' p'.length pc' k' m' da' d'.length dc' rfl rfl rfl ?_)
    intro w3 hZ3 hG3 _
    have hE3 := below_only hE2 hG3 hE2.size (by omega)
    have HG := Sl.mk hG3
    clear hG3
    go_wp2_with fail
    refine bodyPost_ret (v := .tuple #[.agg #[.slice pa' p'.length pc', .int .i64 k', .int .i64 m', .slice da' d'.length dc'], .int .i64 0]) (res_cell_tmp Tryd.results10 _ _ _ rfl hZ3 Tryd.underlying34 enSize rfl) rfl ?_
    refine ⟨hE3, .inl ⟨x, ⟨⟨p', k', m', d'⟩, pa', pc', da', dc'⟩, HX.out, HXE.out, ?_, rfl⟩⟩
    exact (HOK.out.far HG.out (by omega)).mono (by omega)
  · have hp : placE q l = -1 := by unfold placE; rw [if_neg hi]
    have HP := Sl.mk (show idxE q l = l.length by have := idxE_le q l; omega)
    rw [hp]
    clear hp hi
    go_wp2_with (refine st_en hZ1 rfl (.tmp 4) (.tmp 12) rfl none 0 0 0 0 none 0 0 rfl (by rfl) rfl ?_)
    intro w3 hZ3 hG3 _
    have hE3 := below_only hE1 hG3 hE1.size (by omega)
    clear hG3
    go_wp2_with fail
    refine bodyPost_ret (v := .tuple #[.agg #[.slice none 0 0, .int .i64 0, .int .i64 0, .slice none 0 0], .int .i64 7]) (res_cell_tmp Tryd.results10 _ _ _ rfl hZ3 Tryd.underlying34 enSize rfl) rfl ?_
    exact ⟨hE3, .inr ⟨HP.out, rfl⟩⟩

end Go.Proofs.YticcphppnmoogaaDoor

namespace Go.Proofs.YticcphppnmoogaaDoor
open Go.RowKit
attribute [local go_sem ↓] Go.wp_at_zero Go.wp_at_succ

def strN (d : List Nat) : ByteArray := ⟨(d.map UInt8.ofNat).toArray⟩
theorem strN_size (d : List Nat) : (strN d).size = d.length := by simp [strN, ByteArray.size]
theorem conv_str {w : World} {B n c : Nat} {A : Option Addr} {d : List Nat} (h : Reads w B 1 A n (u8s d)) (hb : ∀ b ∈ d, b < 256) :
    (convert 32 9 (.slice A n c)).run Tryd.prog w = .ok (.string (strN d)) w := by
  have hl := bytes_n h
  cases A with
  | none =>
    have h0 : n = 0 := by
      rcases Nat.eq_zero_or_pos n with h0 | h0
      · exact h0
      · obtain ⟨ad, e, _⟩ := h.2 h0; cases e
    subst h0
    obtain rfl : d = [] := List.eq_nil_of_length_eq_zero hl
    exact run_convert_bytes_nil (P := Tryd.prog) w 32 5 Tryd.underlying32 Tryd.underlying5 0 c 9 Tryd.underlying9
  | some ad =>
    have hm : (d.map UInt8.ofNat).length = n := by simpa using hl
    have := run_convert_bytes_back (P := Tryd.prog) w 32 9 5 ad c (d.map UInt8.ofNat) Tryd.underlying32 Tryd.underlying5 Tryd.underlying9 (fun j hj => by
      have hj' : j < d.length := by simpa using hj
      have hn : 0 < n := by omega
      obtain ⟨ad', e, _, hc⟩ := h.2 hn
      have e' := Option.some.inj e
      subst e'
      have h1 := hc j (.int .u8 ((d[j] : Nat) : Int)) (by simp [u8s, hj'])
      rw [h1]
      have h2 := hb d[j] (List.getElem_mem hj')
      simp only [List.getElem_map, UInt8.toNat_ofNat']
      rw [Nat.mod_eq_of_lt (by omega)])
    rw [hm] at this
    exact this

/-- What a check takes: an entry and the slice of those ahead of it. -/
def askC (x : Ex) (A : Option Addr) (n c : Nat) : List Value := exC x ++ [.slice A n c]

def pathsE (p : List ByteArray) : Int := if rightB p = false then 10 else if p = [] then 10 else if 160 < (txtF p).size then 10 else 0
def kindE (k : Int) : Int := if k = 0 then 0 else if k = 1 then 0 else if k = 2 then 0 else 17
def modesE (k m : Int) : Int := refu k m 0 0
def sizeE (k : Int) (d : Nat) : Int := if k = 1 ∧ 0 < d then 3 else if 512 < d then 2 else 0
def linkE (e : En) : Int := if e.kind = 2 then (if leadE e.path.dropLast (strN e.data) = 0 ∧ isAbs (strN e.data) = false then 0 else 10) else 0

set_option maxHeartbeats 1000000 in
theorem paths_any (x : Ex) (A : Option Addr) (n c : Nat) (w : World) (hx : ExOk w w.heap.size x) :
    Calls Tryd.prog 48 #[.agg (askC x A n c).toArray] w fun e w' => e = .returned (.int .i64 (pathsE x.e.path)) ∧ Below w.heap.size w w' := by
  obtain ⟨⟨p, k, m, d⟩, pa, pc, da, dc⟩ := x
  have hp : Reads w w.heap.size 1 pa p.length (strV p) := hx.path
  have hpl : p.length ≤ 100 := hx.plen
  have hpc : p.length ≤ pc := hx.pcap.1
  have hps : ∀ s ∈ p, s.size ≤ 1000 := hx.slen
  clear hx
  show Calls Tryd.prog 48 #[.agg #[.slice pa p.length pc, .int .i64 k, .int .i64 m, .slice da d.length dc, .slice A n c]] w fun e w' => e = .returned (.int .i64 (pathsE p)) ∧ Below w.heap.size w w'
  obtain ⟨dl, hdle⟩ : ∃ dl, d.length = dl := ⟨_, rfl⟩
  rw [hdle]
  obtain ⟨pl, hple⟩ : ∃ pl, p.length = pl := ⟨_, rfl⟩
  have HPL := Sl.mk hple
  have hts := txtF_size p hps
  have hE := below_al (Below.refl w.heap.size w) (.cells #[.slice pa pl pc, .int .i64 k, .int .i64 m, .slice da dl dc, .slice A n c] 87)
  rw [hple] at hp hpl hpc hts ⊢
  have HR := Sl.mk (right_any pa pl pc p (w.alloc (.cells #[.slice pa pl pc, .int .i64 k, .int .i64 m, .slice da dl dc, .slice A n c] 87)) (by omega) (fun s hs => by have := hps s hs; omega) ((hp.below hE).more hE.size))
  have HT := Sl.mk (text_any pa pl pc p (w.alloc (.cells #[.slice pa pl pc, .int .i64 k, .int .i64 m, .slice da dl dc, .slice A n c] 87)) (by omega) hpc hps ((hp.below hE).more hE.size))
  clear hp hps hdle hple
  cases eR : rightB p
  · have HF := Sl.mk (show pathsE p = 10 by unfold pathsE; rw [if_pos eR])
    rw [eR] at HR
    go_enter Tryd.func48, Tryd.ntmps48
    go_wp2_with fail
    refine HR.out.mono ?_
    rintro e w' ⟨rfl, rfl⟩
    go_wp2_with fail
    go_ret
    exact ⟨by rw [HF.out]; rfl, hE⟩
  rw [eR] at HR
  by_cases h0 : pl = 0
  · subst h0
    have hp0 : p = [] := List.eq_nil_of_length_eq_zero HPL.out
    have HF := Sl.mk (show pathsE p = 10 by unfold pathsE; rw [if_neg (by rw [eR]; simp), if_pos hp0])
    clear hp0
    go_enter Tryd.func48, Tryd.ntmps48
    go_wp2_with fail
    refine HR.out.mono ?_
    rintro e w' ⟨rfl, rfl⟩
    go_wp2_with fail
    go_ret
    exact ⟨by rw [HF.out]; rfl, hE⟩
  · have hp0 : p ≠ [] := fun e => h0 (by rw [← HPL.out, e]; rfl)
    have h0' : ((pl : Int) == 0) = false := by simp; omega
    have HF := Sl.mk (show pathsE p = if 160 < (txtF p).size then 10 else 0 by unfold pathsE; rw [if_neg (by rw [eR]; simp), if_neg hp0])
    obtain ⟨T, hT⟩ : ∃ T, txtF p = T := ⟨_, rfl⟩
    rw [hT] at HF HT hts
    have hd : decide ((160 : Int) < (T.size : Int)) = decide (160 < T.size) := by rw [decide_eq_decide]; omega
    have htz : T.size ≤ 200000 := by omega
    clear hT hp0 h0 hts
    by_cases h160 : 160 < T.size
    · have h160' : (160 : Int) < (T.size : Int) := by omega
      go_enter Tryd.func48, Tryd.ntmps48
      go_wp2_with fail
      refine HR.out.mono ?_
      rintro e w' ⟨rfl, rfl⟩
      go_wp2_with fail
      refine HT.out.mono ?_
      rintro e w' ⟨rfl, hB⟩
      have hE2 := below_tr hE hB
      go_wp2_with fail
      go_ret
      exact ⟨by rw [HF.out, if_pos h160]; rfl, hE2⟩
    · have h160' : ¬ (160 : Int) < (T.size : Int) := by omega
      go_enter Tryd.func48, Tryd.ntmps48
      go_wp2_with fail
      refine HR.out.mono ?_
      rintro e w' ⟨rfl, rfl⟩
      go_wp2_with fail
      refine HT.out.mono ?_
      rintro e w' ⟨rfl, hB⟩
      have hE2 := below_tr hE hB
      go_wp2_with fail
      go_ret
      exact ⟨by rw [HF.out, if_neg h160]; rfl, hE2⟩

theorem kind_any (x : Ex) (A : Option Addr) (n c : Nat) (w : World) :
    Calls Tryd.prog 49 #[.agg (askC x A n c).toArray] w fun e w' => e = .returned (.int .i64 (kindE x.e.kind)) ∧ Below w.heap.size w w' := by
  obtain ⟨⟨p, k, m, d⟩, pa, pc, da, dc⟩ := x
  show Calls Tryd.prog 49 #[.agg #[.slice pa p.length pc, .int .i64 k, .int .i64 m, .slice da d.length dc, .slice A n c]] w fun e w' => e = .returned (.int .i64 (kindE k)) ∧ Below w.heap.size w w'
  obtain ⟨dl, hdle⟩ : ∃ dl, d.length = dl := ⟨_, rfl⟩
  obtain ⟨pl, hple⟩ : ∃ pl, p.length = pl := ⟨_, rfl⟩
  rw [hdle, hple]
  clear hdle hple
  have hE := below_al (Below.refl w.heap.size w) (.cells #[.slice pa pl pc, .int .i64 k, .int .i64 m, .slice da dl dc, .slice A n c] 87)
  by_cases h0 : k = 0
  · subst h0
    go_enter Tryd.func49, Tryd.ntmps49
    go_wp2_with fail
    go_ret
    exact ⟨rfl, hE⟩
  by_cases h1 : k = 1
  · subst h1
    go_enter Tryd.func49, Tryd.ntmps49
    go_wp2_with fail
    go_ret
    exact ⟨rfl, hE⟩
  by_cases h2 : k = 2
  · subst h2
    go_enter Tryd.func49, Tryd.ntmps49
    go_wp2_with fail
    go_ret
    exact ⟨rfl, hE⟩
  · have HF := Sl.mk (show kindE k = 17 by unfold kindE; rw [if_neg h0, if_neg h1, if_neg h2])
    have b0 : (k != 0) = true := by simpa using h0
    have b1 : (k != 1) = true := by simpa using h1
    have b2 : (k != 2) = true := by simpa using h2
    clear h0 h1 h2
    go_enter Tryd.func49, Tryd.ntmps49
    go_wp2_with fail
    go_ret
    exact ⟨by rw [HF.out]; rfl, hE⟩

theorem modes_any (x : Ex) (A : Option Addr) (n c : Nat) (w : World) :
    Calls Tryd.prog 50 #[.agg (askC x A n c).toArray] w fun e w' => e = .returned (.int .i64 (modesE x.e.kind x.e.mode)) ∧ Below w.heap.size w w' := by
  obtain ⟨⟨p, k, m, d⟩, pa, pc, da, dc⟩ := x
  show Calls Tryd.prog 50 #[.agg #[.slice pa p.length pc, .int .i64 k, .int .i64 m, .slice da d.length dc, .slice A n c]] w fun e w' => e = .returned (.int .i64 (refu k m 0 0)) ∧ Below w.heap.size w w'
  obtain ⟨dl, hdle⟩ : ∃ dl, d.length = dl := ⟨_, rfl⟩
  obtain ⟨pl, hple⟩ : ∃ pl, p.length = pl := ⟨_, rfl⟩
  rw [hdle, hple]
  clear hdle hple
  have hE := below_al (Below.refl w.heap.size w) (.cells #[.slice pa pl pc, .int .i64 k, .int .i64 m, .slice da dl dc, .slice A n c] 87)
  go_enter Tryd.func50, Tryd.ntmps50
  go_wp2_with fail
  refine (refusal_any k m 0 0 _).mono ?_
  rintro e w' ⟨rfl, hB⟩
  go_wp2_with fail
  go_ret
  exact ⟨rfl, below_tr hE hB⟩

theorem size_any (x : Ex) (A : Option Addr) (n c : Nat) (w : World) (hx : x.e.data.length ≤ 100000) :
    Calls Tryd.prog 51 #[.agg (askC x A n c).toArray] w fun e w' => e = .returned (.int .i64 (sizeE x.e.kind x.e.data.length)) ∧ Below w.heap.size w w' := by
  obtain ⟨⟨p, k, m, d⟩, pa, pc, da, dc⟩ := x
  have hdl : d.length ≤ 100000 := hx
  clear hx
  show Calls Tryd.prog 51 #[.agg #[.slice pa p.length pc, .int .i64 k, .int .i64 m, .slice da d.length dc, .slice A n c]] w fun e w' => e = .returned (.int .i64 (sizeE k d.length)) ∧ Below w.heap.size w w'
  obtain ⟨dl, hdle⟩ : ∃ dl, d.length = dl := ⟨_, rfl⟩
  obtain ⟨pl, hple⟩ : ∃ pl, p.length = pl := ⟨_, rfl⟩
  rw [hdle] at hdl ⊢
  rw [hple]
  clear hdle hple
  have hE := below_al (Below.refl w.heap.size w) (.cells #[.slice pa pl pc, .int .i64 k, .int .i64 m, .slice da dl dc, .slice A n c] 87)
  have main : ∀ E : Int, sizeE k dl = E → ((k = 1 ∧ 0 < dl ∧ E = 3) ∨ (¬ (k = 1 ∧ 0 < dl) ∧ 512 < dl ∧ E = 2) ∨ (¬ (k = 1 ∧ 0 < dl) ∧ ¬ 512 < dl ∧ E = 0)) := fun E h => by
    unfold sizeE at h
    split at h
    · rename_i h1; exact .inl ⟨h1.1, h1.2, h.symm⟩
    · split at h
      · rename_i h1 h2; exact .inr (.inl ⟨h1, h2, h.symm⟩)
      · rename_i h1 h2; exact .inr (.inr ⟨h1, h2, h.symm⟩)
  have hm := main _ rfl
  obtain ⟨E, hEE⟩ : ∃ E, sizeE k dl = E := ⟨_, rfl⟩
  rw [hEE] at hm ⊢
  clear main hEE
  by_cases h1 : k = 1
  · subst h1
    by_cases h0 : 0 < dl
    · have h0' : (0 : Int) < (dl : Int) := by omega
      have hE3 : E = 3 := by omega
      subst hE3
      clear hm
      go_enter Tryd.func51, Tryd.ntmps51
      go_wp2_with fail
      go_ret
      exact ⟨rfl, hE⟩
    · obtain rfl : dl = 0 := by omega
      have hE0 : E = 0 := by omega
      subst hE0
      clear hm
      go_enter Tryd.func51, Tryd.ntmps51
      go_wp2_with fail
      go_ret
      exact ⟨rfl, hE⟩
  · have b1 : (k == 1) = false := by simpa using h1
    by_cases h5 : 512 < dl
    · have h5' : (512 : Int) < (dl : Int) := by omega
      have hE2 : E = 2 := by omega
      subst hE2
      clear hm h1
      go_enter Tryd.func51, Tryd.ntmps51
      go_wp2_with fail
      go_ret
      exact ⟨rfl, hE⟩
    · have h5' : ¬ (512 : Int) < (dl : Int) := by omega
      have hE0 : E = 0 := by omega
      subst hE0
      clear hm h1
      go_enter Tryd.func51, Tryd.ntmps51
      go_wp2_with fail
      go_ret
      exact ⟨rfl, hE⟩

end Go.Proofs.YticcphppnmoogaaDoor

namespace Go.Proofs.YticcphppnmoogaaDoor
open Go.RowKit
attribute [local go_sem ↓] Go.wp_at_zero Go.wp_at_succ

theorem strV_drop (p : List ByteArray) : strV p.dropLast = (strV p).take (p.length - 1) := by
  rw [List.dropLast_eq_take]; simp [strV, List.map_take]
theorem reads_drop {w : World} {B n : Nat} {A : Option Addr} {p : List ByteArray} (h : Reads w B 1 A (n + 1) (strV p)) : Reads w B 1 A n (strV p.dropLast) := by
  have hl := strs_n h
  rw [strV_drop, hl, Nat.add_sub_cancel]
  exact reads_take h (by omega)
theorem hasp_any (s : ByteArray) (w : World) : Calls Tryd.prog 63 #[.string s, .string ⟨#[47]⟩] w fun e w' => e = .returned (.bool (isAbs s)) ∧ w' = w := strings_HasPrefix s ⟨#[47]⟩ w

set_option maxHeartbeats 2000000 in
theorem link_any (x : Ex) (A : Option Addr) (n c : Nat) (w : World) (hx : ExOk w w.heap.size x) (hp1 : x.e.path ≠ []) (hM : Mx w) :
    Calls Tryd.prog 52 #[.agg (askC x A n c).toArray] w fun e w' => e = .returned (.int .i64 (linkE x.e)) ∧ Below w.heap.size w w' := by
  obtain ⟨⟨p, k, m, d⟩, pa, pc, da, dc⟩ := x
  have hp : Reads w w.heap.size 1 pa p.length (strV p) := hx.path
  have hd : Reads w w.heap.size 1 da d.length (u8s d) := hx.data
  have hpl : p.length ≤ 100 := hx.plen
  have hpc : p.length ≤ pc ∧ pc ≤ 9223372036854775807 := hx.pcap
  have hps : ∀ s ∈ p, s.size ≤ 1000 := hx.slen
  have hdl : d.length ≤ 100000 := hx.dlen
  have hby : ∀ b ∈ d, b < 256 := hx.byte
  have hpos : 0 < p.length := List.length_pos_iff.2 hp1
  have hss := strN_size d
  clear hx hp1
  show Calls Tryd.prog 52 #[.agg #[.slice pa p.length pc, .int .i64 k, .int .i64 m, .slice da d.length dc, .slice A n c]] w fun e w' => e = .returned (.int .i64 (linkE ⟨p, k, m, d⟩)) ∧ Below w.heap.size w w'
  obtain ⟨dl, hdle⟩ : ∃ dl, d.length = dl := ⟨_, rfl⟩
  obtain ⟨pl, hple⟩ : ∃ pl, p.length = pl := ⟨_, rfl⟩
  rw [hple] at hp hpl hpc hpos ⊢
  rw [hdle] at hd hdl hss ⊢
  obtain ⟨q, rfl⟩ : ∃ q, pl = q + 1 := ⟨pl - 1, by omega⟩
  have hE := below_al (Below.refl w.heap.size w) (.cells #[.slice pa (q + 1) pc, .int .i64 k, .int .i64 m, .slice da dl dc, .slice A n c] 87)
  by_cases hk : k = 2
  · subst hk
    obtain ⟨S, hS⟩ : ∃ S, strN d = S := ⟨_, rfl⟩
    rw [hS] at hss
    obtain ⟨wB, hwB⟩ : ∃ wB, w.alloc (.cells #[.slice pa (q + 1) pc, .int .i64 2, .int .i64 m, .slice da dl dc, .slice A n c] 87) = wB := ⟨_, rfl⟩
    have hX : Blk wB w.heap.size 87 #[.slice pa (q + 1) pc, .int .i64 2, .int .i64 m, .slice da dl dc, .slice A n c] := by rw [← hwB]; exact Blk.new _ _ _
    rw [hwB] at hE
    have hcv : (convert 32 9 (.slice da dl dc)).run Tryd.prog wB = .ok (.string S) wB := by
      have := conv_str (c := dc) ((hd.below hE).more hE.size) hby
      rw [hS] at this
      exact this
    have HLD := Sl.mk (lead_any pa q pc p.dropLast S wB (by omega) (fun x hx => by have := hps x ((List.dropLast_sublist p).subset hx); omega) (by omega) (reads_drop ((hp.below hE).more hE.size)) (hM.be hE))
    have HF := Sl.mk (show linkE ⟨p, 2, m, d⟩ = if leadE p.dropLast S = 0 ∧ isAbs S = false then 0 else 10 by unfold linkE; rw [if_pos rfl]; show (if leadE p.dropLast (strN d) = 0 ∧ isAbs (strN d) = false then (0 : Int) else 10) = _; rw [hS])
    have c0 := hX.cell 0
    have c1 := hX.cell 1
    have c3 := hX.cell 3
    clear hp hd hps hby hM hS hss hple hdle
    unfold LeadPost at HLD
    by_cases hz : leadE p.dropLast S = 0
    · rw [hz] at HLD
      have HZ := Sl.mk hz
      clear hz
      cases eA : isAbs S
      all_goals
        go_enter Tryd.func52, Tryd.ntmps52
        go_wp2_with fail
        refine HLD.out.mono ?_
        rintro e w1 ⟨A', kk, c', rfl, hB1, -, -⟩
        go_wp2_with fail
        refine (hasp_any S _).mono ?_
        rintro e w2 ⟨rfl, rfl⟩
        rw [eA]
        go_wp2_with fail
        go_ret
        exact ⟨by rw [HF.out, HZ.out, eA]; rfl, below_tr hE hB1⟩
    · have HZ := Sl.mk hz
      obtain ⟨E, hEE⟩ : ∃ E, leadE p.dropLast S = E := ⟨_, rfl⟩
      rw [hEE] at HLD hz
      have hzz : (E != 0) = true := by simpa using hz
      clear hz hEE
      go_enter Tryd.func52, Tryd.ntmps52
      go_wp2_with fail
      refine HLD.out.mono ?_
      rintro e w1 ⟨A', kk, c', rfl, hB1, -, -⟩
      go_wp2_with fail
      go_ret
      exact ⟨by rw [HF.out, if_neg (fun h => HZ.out h.1)]; rfl, below_tr hE hB1⟩
  · have HF := Sl.mk (show linkE ⟨p, k, m, d⟩ = 0 from if_neg hk)
    have hk' : (k != 2) = true := by simpa using hk
    clear hk
    go_enter Tryd.func52, Tryd.ntmps52
    go_wp2_with fail
    go_ret
    exact ⟨by rw [HF.out]; rfl, hE⟩

def parK (q : List ByteArray) (l : List Ex) : Bool := match l[idxE q l]? with
  | some y => y.e.kind == 1
  | none => false
def placeE (p : List ByteArray) (l : List Ex) : Int := if idxE p l < l.length then 8 else if 0 < p.dropLast.length ∧ parK p.dropLast l = false then 7 else 0

set_option maxRecDepth 100000 in
set_option maxHeartbeats 4000000 in
theorem place_any (x : Ex) (A : Option Addr) (n c : Nat) (l : List Ex) (w : World) (hx : ExOk w w.heap.size x) (hp1 : x.e.path ≠ []) (hn : n ≤ 1000000) (hL : Exs w A n l) :
    Calls Tryd.prog 53 #[.agg (askC x A n c).toArray] w fun e w' => e = .returned (.int .i64 (placeE x.e.path l)) ∧ Below w.heap.size w w' := by
  obtain ⟨⟨p, k, m, d⟩, pa, pc, da, dc⟩ := x
  have hp : Reads w w.heap.size 1 pa p.length (strV p) := hx.path
  have hpl : p.length ≤ 100 := hx.plen
  have hpc : p.length ≤ pc ∧ pc ≤ 9223372036854775807 := hx.pcap
  have hpos : 0 < p.length := List.length_pos_iff.2 hp1
  clear hx hp1
  show Calls Tryd.prog 53 #[.agg #[.slice pa p.length pc, .int .i64 k, .int .i64 m, .slice da d.length dc, .slice A n c]] w fun e w' => e = .returned (.int .i64 (placeE p l)) ∧ Below w.heap.size w w'
  obtain ⟨dl, hdle⟩ : ∃ dl, d.length = dl := ⟨_, rfl⟩
  obtain ⟨pl, hple⟩ : ∃ pl, p.length = pl := ⟨_, rfl⟩
  rw [hple] at hp hpl hpc hpos ⊢
  rw [hdle]
  obtain ⟨q, rfl⟩ : ∃ q, pl = q + 1 := ⟨pl - 1, by omega⟩
  have HDL := Sl.mk (show p.dropLast.length = q by rw [List.length_dropLast, hple]; omega)
  have hE := below_al (Below.refl w.heap.size w) (.cells #[.slice pa (q + 1) pc, .int .i64 k, .int .i64 m, .slice da dl dc, .slice A n c] 87)
  obtain ⟨wB, hwB⟩ : ∃ wB, w.alloc (.cells #[.slice pa (q + 1) pc, .int .i64 k, .int .i64 m, .slice da dl dc, .slice A n c] 87) = wB := ⟨_, rfl⟩
  have hX : Blk wB w.heap.size 87 #[.slice pa (q + 1) pc, .int .i64 k, .int .i64 m, .slice da dl dc, .slice A n c] := by rw [← hwB]; exact Blk.new _ _ _
  rw [hwB] at hE
  have HLB := hL.be hE
  have HPB := (hp.below hE).more hE.size
  have HF1 := Sl.mk (find_any pa (q + 1) pc p A n c l wB hn HLB (by omega) HPB)
  have HF2 := Sl.mk (show ∀ W, Below wB.heap.size wB W → Calls Tryd.prog 10 #[.slice A n c, .slice pa q pc] W (FindPost W p.dropLast l) from fun W hb =>
    find_any pa q pc p.dropLast A n c l W hn (HLB.be hb) (by omega) ((reads_drop HPB |>.below hb).more hb.size))
  have c0 := hX.cell 0
  have c4 := hX.cell 4
  clear hp hL hple hdle HLB HPB
  unfold FindPost at HF1 HF2
  go_enter Tryd.func53, Tryd.ntmps53
  go_wp2_with fail
  clear hwB
  refine HF1.out.mono ?_
  rintro e w1 ⟨hB1, (⟨y, y', hy, hye, ho, he⟩ | ⟨hno, rfl⟩)⟩
  · obtain ⟨⟨p', k', m', d'⟩, pa', pc', da', dc'⟩ := y'
    obtain rfl : e = .returned (.tuple #[.agg #[.slice pa' p'.length pc', .int .i64 k', .int .i64 m', .slice da' d'.length dc'], .int .i64 0]) := he
    have HF := Sl.mk (show placeE p l = 8 by unfold placeE; rw [if_pos (List.getElem?_eq_some_iff.1 hy).1])
    have hE1 := below_tr hE hB1
    clear hy hye ho hB1 hE c0 c4
    go_wp2_with fail
    go_ret
    exact ⟨by rw [HF.out]; rfl, below_al hE1 _⟩
  · have HN := Sl.mk (show placeE p l = if 0 < p.dropLast.length ∧ parK p.dropLast l = false then 7 else 0 by unfold placeE; rw [if_neg (by omega)])
    have hX1 := hX.be hB1
    have hX2 := hX1.alloc (.cells #[.slice none 0 0, .int .i64 0, .int .i64 0, .slice none 0 0] 34)
    have hE1 := below_tr hE hB1
    have hEw := below_al (below_tr (Below.refl wB.heap.size wB) hB1) (.cells #[.slice none 0 0, .int .i64 0, .int .i64 0, .slice none 0 0] 34)
    have hE2 := below_al hE1 (.cells #[.slice none 0 0, .int .i64 0, .int .i64 0, .slice none 0 0] 34)
    clear c0 c4 hno hE hB1
    have c0 := hX1.cell 0
    have c4 := hX1.cell 4
    have d0 := hX2.cell 0
    have d4 := hX2.cell 4
    have hlt := hX1.lt
    go_wp2_with fail
    refine (HF2.out _ hEw).mono ?_
    have hq0 : decide ((0 : Int) < (q : Int)) = decide (0 < q) := by rw [decide_eq_decide]; omega
    rintro e w2 ⟨hB2, (⟨y, y', hy, hye, ho, he⟩ | ⟨hno, rfl⟩)⟩
    · obtain ⟨⟨p', k', m', d'⟩, pa', pc', da', dc'⟩ := y'
      obtain rfl : e = .returned (.tuple #[.agg #[.slice pa' p'.length pc', .int .i64 k', .int .i64 m', .slice da' d'.length dc'], .int .i64 0]) := he
      have hk : y.e.kind = k' := by rw [← hye]
      have HK := Sl.mk (show parK p.dropLast l = (k' == 1) by unfold parK; rw [hy, ← hk])
      have hE3 := below_tr hE2 hB2
      clear hy hye ho hk hE1 hE2 hEw hB2 c0 c4 d0 d4 hX1 hX2 hlt
      by_cases h0 : 0 < q
      · have h0' : (0 : Int) < (q : Int) := by omega
        have hq : decide (0 < q) = true := decide_eq_true h0
        by_cases h1 : k' = 1
        · subst h1
          clear hq0
          go_wp2_with fail
          go_ret
          exact ⟨by rw [HN.out, HK.out, if_neg (by simp)]; rfl, below_al hE3 _⟩
        · have h1' : (k' != 1) = true := by simpa using h1
          have HK2 := Sl.mk (show parK p.dropLast l = false by rw [HK.out]; simpa using h1)
          clear h1 hq0
          go_wp2_with fail
          go_ret
          exact ⟨by rw [HN.out, if_pos ⟨by rw [HDL.out]; exact h0, HK2.out⟩]; rfl, below_al hE3 _⟩
      · obtain rfl : q = 0 := by omega
        clear hq0
        go_wp2_with fail
        go_ret
        exact ⟨by rw [HN.out, if_neg (fun h => by rw [HDL.out] at h; exact absurd h.1 (by omega))]; rfl, below_al hE3 _⟩
    · have HK := Sl.mk (show parK p.dropLast l = false by unfold parK; rw [List.getElem?_eq_none (by omega)])
      have hE3 := below_tr hE2 hB2
      clear hno hE1 hE2 hEw hB2 c0 c4 d0 d4 hX1 hX2 hlt
      by_cases h0 : 0 < q
      · have h0' : (0 : Int) < (q : Int) := by omega
        clear hq0
        go_wp2_with fail
        go_ret
        exact ⟨by rw [HN.out, if_pos ⟨by rw [HDL.out]; exact h0, HK.out⟩]; rfl, below_al hE3 _⟩
      · obtain rfl : q = 0 := by omega
        clear hq0
        go_wp2_with fail
        go_ret
        exact ⟨by rw [HN.out, if_neg (fun h => by rw [HDL.out] at h; exact absurd h.1 (by omega))]; rfl, below_al hE3 _⟩

end Go.Proofs.YticcphppnmoogaaDoor
