/-
  The contracts of asm's named and of an instruction's line.
-/
import Derived.Test.YtigdfkpkogompaaDoorAsF
import Derived.Test.YtigdfkpkogompaaDoorCoU
import Derived.Lib.ConvBytes
import Derived.Laws.BytesArg
namespace Go.Proofs.YtigdfkpkogompaaDoor
open Go.RowKit Go.Maps
attribute [local go_sem ↓] Go.wp_at_zero Go.wp_at_succ

theorem dec_dig : ∀ u : Nat, ∀ c ∈ Lib.decDigits u, 48 ≤ c.toNat ∧ c.toNat ≤ 57 := fun u => by
  induction u using Nat.strongRecOn with
  | _ u ih =>
    intro c hc
    rw [Lib.decDigits] at hc
    split at hc
    · obtain rfl := List.mem_singleton.1 hc
      rename_i h
      simp; omega
    · rcases List.mem_append.1 hc with hc | hc
      · exact ih (u / 10) (by omega) c hc
      · obtain rfl := List.mem_singleton.1 hc
        simp; omega
theorem nDig_le : ∀ (k u : Nat), u < 10 ^ (k + 1) → Lib.nDigits u ≤ k + 1
  | 0, u, h => by rw [Lib.nDigits_small (by simpa using h)]; omega
  | k + 1, u, h => by
    by_cases h10 : u < 10
    · rw [Lib.nDigits_small h10]; omega
    · rw [Lib.nDigits_big h10]
      have := nDig_le k (u / 10) (by rw [Nat.pow_succ] at h; omega)
      omega
theorem itoa_nat (n : Nat) : Lib.itoa (n : Int) = Lib.decDigits n := by unfold Lib.itoa; rw [if_neg (by omega)]; rfl
theorem itoa_len {n : Nat} (h : n ≤ 9999) : (Lib.itoa (n : Int)).length ≤ 4 := by
  rw [itoa_nat, Lib.decDigits_length]
  exact nDig_le 3 n (by omega)
theorem namF_len {n : Nat} (h : n ≤ 9999) : (namF n).length ≤ 5 := by
  unfold namF
  have := itoa_len h
  simp; omega
theorem fz_cell {w : World} {g z : Nat} {cs : Array Value} {t : TypeId} (h : w.heap[g]? = some (.cells cs t (z, z + 1))) (j : Nat) : w.cell? ⟨g, j, none⟩ = cs[j]? := by
  unfold World.cell?; rw [h]; rfl
theorem fz_frozen {w : World} {g z : Nat} {cs : Array Value} {t : TypeId} (h : w.heap[g]? = some (.cells cs t (z, z + 1))) {j : Nat} (hj : j < z) : w.frozen? ⟨g, j, none⟩ = false := by
  unfold World.frozen?; simp only [h]; simp; omega
theorem fz_set {w : World} {g z : Nat} {cs : Array Value} {t : TypeId} (h : w.heap[g]? = some (.cells cs t (z, z + 1))) (j : Nat) (u : Value) : (w.setCell ⟨g, j, none⟩ u).heap[g]? = some (.cells (cs.setIfInBounds j u) t (z, z + 1)) := by
  rw [setCell_eq_setRow w g j cs t (z, z + 1) u h]
  exact setRow_heap w g cs _ t _ h
theorem conv_bysG (s : ByteArray) (w : World) : (convert 9 48 (.string s)).run Tryd.prog w = .ok (.slice (some ⟨w.heap.size, 0, none⟩) s.size (grownCap w s.size 0 5)) (Lib.bytesWorld w 5 s) :=
  Lib.run_convert_string_bytes w _ _ _ s Tryd.underlying9 Tryd.underlying48 Tryd.underlying5
theorem bytes_below (s : ByteArray) (w : World) : Below w.heap.size w (Lib.bytesWorld w 5 s) := ⟨rfl, rfl, rfl, by rw [Lib.bytesWorld_size]; omega, fun k hk => Lib.bytesWorld_at_old w _ s k hk⟩
/-- Letters, so many of them one on. -/
def mixL (s : List UInt8) (i : Nat) : List UInt8 := (s.take i).map (· + 49) ++ s.drop i
theorem mixL_get (s : List UInt8) (i j : Nat) : (mixL s i)[j]? = if j < i then s[j]?.map (· + 49) else s[j]? := by
  unfold mixL
  by_cases h : j < i
  · rw [if_pos h]
    by_cases h2 : j < s.length
    · rw [List.getElem?_append_left (by simp; omega)]
      simp [h]
    · rw [List.getElem?_append_right (by simp; omega), List.getElem?_eq_none (by simp; omega), List.getElem?_eq_none (by omega)]
      rfl
  · rw [if_neg h]
    rw [List.getElem?_append_right (by simp; omega), List.getElem?_drop]
    simp only [List.length_map, List.length_take]
    by_cases h2 : i ≤ s.length
    · rw [show i + (j - min i s.length) = j by omega]
    · rw [List.getElem?_eq_none (by omega), List.getElem?_eq_none (by omega)]
/-- The cells of a block of bytes that was made of a text. -/
def Byt (w : World) (g : Nat) (l : List UInt8) : Prop :=
  ∃ cs z, w.heap[g]? = some (.cells cs 5 (z, z + 1)) ∧ l.length ≤ z ∧ ∀ (j : Nat) (x : UInt8), l[j]? = some x → cs[j]? = some (.int .u8 (x.toNat : Int))
theorem Byt.made (w : World) (s : List UInt8) : Byt (Lib.bytesWorld w 5 (bsS s)) w.heap.size s := by
  have hg := Lib.bytesWorld_at_new w 5 (bsS s)
  refine ⟨_, _, hg, ?_, fun j x hx => ?_⟩
  · rcases Nat.eq_zero_or_pos s.length with h0 | h0
    · omega
    · have h1 := Lib.bytesWorld_cell w 5 (bsS s) (s.length - 1) (by rw [bs_size]; omega)
      rw [fz_cell hg] at h1
      have := (Array.getElem?_eq_some_iff.1 h1).1
      omega
  · have hj : j < s.length := (List.getElem?_eq_some_iff.1 hx).1
    have h1 := Lib.bytesWorld_cell w 5 (bsS s) j (by rw [bs_size]; exact hj)
    rw [fz_cell hg] at h1
    rw [h1, show (bsS s).data.toList = s from rfl, List.getD_eq_getElem?_getD, hx]
    rfl
theorem Byt.reads {w : World} {g : Nat} {l : List UInt8} (h : Byt w g l) : Reads w (g + 1) 1 (some ⟨g, 0, none⟩) l.length (u8s (l.map UInt8.toNat)) := by
  obtain ⟨cs, z, hg, hl, hc⟩ := h
  refine ⟨by simp [u8s], fun _ => ⟨_, rfl, Nat.lt_succ_self _, fun j u hu => ?_⟩⟩
  rw [show (⟨g, 0, none⟩ : Addr).add j = ⟨g, j, none⟩ from adz g j, fz_cell hg]
  have hj : j < (u8s (l.map UInt8.toNat)).length := (List.getElem?_eq_some_iff.1 hu).1
  have hj2 : j < l.length := by simpa [u8s] using hj
  rw [hc j _ (List.getElem?_eq_getElem hj2), ← hu]
  simp [u8s, hj2]
theorem conv_strG {w : World} {B n c : Nat} {ad : Addr} {d : List UInt8} (h : Reads w B 1 (some ad) n (u8s (d.map UInt8.toNat))) :
    (convert 48 9 (.slice (some ad) n c)).run Tryd.prog w = .ok (.string (bsS d)) w := by
  have hl : d.length = n := by have := h.1; simpa [u8s] using this
  have := run_convert_bytes_back (P := Tryd.prog) w 48 9 5 ad c d Tryd.underlying48 Tryd.underlying5 Tryd.underlying9 (fun j hj => by
    have hn : 0 < n := by omega
    obtain ⟨ad', e, _, hc⟩ := h.2 hn
    have e' := Option.some.inj e
    subst e'
    exact hc j _ (by simp [u8s, hj]))
  rw [hl] at this
  exact this

set_option maxRecDepth 100000 in
set_option maxHeartbeats 4000000 in
theorem named_any (n : Nat) (w : World) (hn : n ≤ 9999) (hE : Eg w w.heap.size) :
    Calls Tryd.prog 19 #[.int .i64 n] w fun e w' => e = .returned (.string (bsS (namF n))) ∧ Below w.heap.size w w' := by
  have HI := Sl.mk (itoa_any (n : Int) w (by omega) (by omega) hE)
  have hlen := itoa_len hn
  have HDG := Sl.mk (show ∀ c ∈ Lib.itoa (n : Int), 48 ≤ c.toNat ∧ c.toNat ≤ 57 by rw [itoa_nat]; exact dec_dig n)
  obtain ⟨s, hs⟩ : ∃ s, Lib.itoa (n : Int) = s := ⟨_, rfl⟩
  rw [hs] at HI HDG hlen
  have HN := Sl.mk (show namF n = 108 :: s.map (· + 49) by unfold namF; rw [hs])
  have hz := bs_size s
  clear hs hE
  go_enter Tryd.func19, Tryd.ntmps19
  go_wp2_with fail
  refine HI.out.mono ?_
  rintro e w1 ⟨rfl, hb1⟩
  have HB1 := Sl.mk hb1
  clear hb1
  go_wp2_with fail
  rw [conv_bysG (bsS s) w1]
  have HBY := Sl.mk (Byt.made w1 s)
  have HB2 := Sl.mk (below_tr HB1.out (bytes_below (bsS s) w1))
  obtain ⟨w2, hw2⟩ : ∃ w2, Lib.bytesWorld w1 5 (bsS s) = w2 := ⟨_, rfl⟩
  obtain ⟨gc, hgc⟩ : ∃ gc, grownCap w1 (bsS s).size 0 5 = gc := ⟨_, rfl⟩
  have HG1 := Sl.mk (show w.heap.size ≤ w1.heap.size from HB1.out.size)
  obtain ⟨g, hg⟩ : ∃ g, w1.heap.size = g := ⟨_, rfl⟩
  rw [hw2, hg] at HBY
  rw [hw2] at HB2
  rw [hg] at HG1
  rw [hw2, hgc, hz, hg]
  clear hw2 hgc hg HB1
  go_wp2_with fail
  go_loopg [10] s.length (fun q v10 wr => ∃ i : Nat, q = s.length - i ∧ i ≤ s.length ∧ v10 = .int .i64 i ∧ Byt wr g (mixL s i) ∧ Below w.heap.size w wr)
  case atStart => exact ⟨0, rfl, Nat.zero_le _, rfl, by simpa [mixL] using HBY.out, HB2.out⟩
  case round =>
    clear HBY HB2
    obtain ⟨i, hq, hi, rfl, hB, hE⟩ := hrel
    by_cases hlt : i < s.length
    · obtain ⟨x, hx⟩ : ∃ x, s[i]? = some x := ⟨_, List.getElem?_eq_getElem hlt⟩
      have hx9 := HDG.out x (List.mem_of_getElem? hx)
      have hmx : (mixL s i)[i]? = some x := by rw [mixL_get, if_neg (Nat.lt_irrefl _), hx]
      obtain ⟨cs, z, hg, hl, hc⟩ := hB
      have hml : (mixL s i).length = s.length := by unfold mixL; simp; omega
      have k0 := (fz_cell hg i).trans (hc i x hmx)
      have f0 := fz_frozen hg (j := i) (by omega)
      obtain ⟨c, hcx⟩ : ∃ c : Nat, x.toNat = c := ⟨_, rfl⟩
      rw [hcx] at k0 hx9
      have hw1 : IntKind.u8.wrap ((c : Int) + 49) = (c : Int) + 49 := IntWalk.u8_in _ (by omega)
      have HBS := Sl.mk (show Byt (wr.setCell ⟨g, i, none⟩ (.int .u8 ((c : Int) + 49))) g (mixL s (i + 1)) by
        refine ⟨_, z, fz_set hg i _, ?_, fun j y hy => ?_⟩
        · have : (mixL s (i + 1)).length = s.length := by unfold mixL; simp; omega
          omega
        · have hcz : i < cs.size := by
            have h1 := hc i x hmx
            exact (Array.getElem?_eq_some_iff.1 h1).1
          rw [mixL_get] at hy
          by_cases hj : j = i
          · subst hj
            rw [if_pos (Nat.lt_succ_self _), hx] at hy
            have hy2 : x + 49 = y := by simpa using hy
            have h49 : (x + 49).toNat = c + 49 := by
              rw [UInt8.toNat_add, hcx]
              show (c + 49) % 256 = c + 49
              omega
            rw [Array.getElem?_setIfInBounds_self_of_lt hcz, ← hy2, h49]
            rfl
          · rw [Array.getElem?_setIfInBounds_ne (Ne.symm hj)]
            refine hc j y ?_
            rw [mixL_get]
            by_cases h1 : j < i
            · rw [if_pos h1]; rw [if_pos (by omega)] at hy; exact hy
            · rw [if_neg h1]; rw [if_neg (by omega)] at hy; exact hy)
      have HEE := Sl.mk (hE.setCell (p := ⟨g, i, none⟩) HG1.out (.int .u8 ((c : Int) + 49)))
      have HQ := Sl.mk (show s.length - (i + 1) < gk ∧ i + 1 ≤ s.length by omega)
      have hin : (i : Int) < (s.length : Int) := by omega
      clear hx hmx hg hl hc hml hcx hq hE
      go_wp2_with fail
      go_roundg (s.length - (i + 1))
      case measure => exact HQ.out.1
      case rel => exact ⟨i + 1, rfl, HQ.out.2, by go_num, HBS.out, HEE.out⟩
    · obtain rfl : i = s.length := by omega
      have hmx : mixL s s.length = s.map (· + 49) := by unfold mixL; rw [List.take_length, List.drop_length, List.append_nil]
      rw [hmx] at hB
      have hcv := conv_strG (c := gc) hB.reads
      rw [List.length_map] at hcv
      have HE := Sl.mk hE
      have hap : (⟨#[108]⟩ : ByteArray) ++ bsS (s.map (· + 49)) = bsS (namF n) := by rw [HN.out]; unfold bsS; apply ByteArray.ext; simp [ByteArray.data_append]
      have hz2 := bs_size (s.map (· + 49))
      rw [List.length_map] at hz2
      clear hB hE hq hlt hmx
      go_wp2_with fail
      go_ret
      exact ⟨rfl, HE.out⟩

theorem word_len {op : Int} : (wordF op).length ≤ 6 := by
  unfold wordF
  split
  · rename_i h
    have : ∀ k, k ≤ 21 → (wordsL.getD k []).length ≤ 6 := by decide
    exact this _ (by omega)
  · simp
theorem ins_len {x : Ci} {c : Int} (hr : rightI x c = true) (hc : 0 ≤ c ∧ c ≤ 9999) : (insF x).length ≤ 70 := by
  have h1 := word_len (op := x.op)
  have h2 := right_text hr
  have h3 := right_num hr hc
  obtain ⟨k, hk⟩ : ∃ k : Nat, x.n = k := ⟨x.n.toNat, by omega⟩
  have h4 := itoa_len (n := k) (by omega)
  have h5 := namF_len (n := k) (by omega)
  unfold insF
  rw [hk]
  simp only [List.length_append]
  split
  · simp; omega
  · split
    · simp; omega
    · split
      · simp only [Int.toNat_natCast, List.length_cons]; omega
      · simp; omega
set_option maxRecDepth 100000 in
set_option maxHeartbeats 4000000 in
theorem ins_any (x : Ci) (c : Int) (w : World) (hr : rightI x c = true) (hc : 0 ≤ c ∧ c ≤ 9999) (hE : Eg w w.heap.size) :
    Calls Tryd.prog 20 #[.agg #[.int .i64 x.op, .int .i64 x.n, .string (bsS x.s)]] w fun e w' => e = .returned (.string (bsS (insF x))) ∧ Below w.heap.size w w' := by
  obtain ⟨op, m, s⟩ := x
  have h2 := right_text hr
  have h3 := right_num hr hc
  have h9 := right_word hr
  obtain ⟨k, rfl⟩ : ∃ k : Nat, m = k := ⟨m.toNat, by omega⟩
  have hal := below_al (Below.refl w.heap.size w) (.cells #[.int .i64 op, .int .i64 k, .string (bsS s)] 41)
  have hB1 := Blk.new w 41 #[.int .i64 op, .int .i64 k, .string (bsS s)]
  obtain ⟨w1, hw1⟩ : ∃ w1, w.alloc (.cells #[.int .i64 op, .int .i64 k, .string (bsS s)] 41) = w1 := ⟨_, rfl⟩
  rw [hw1] at hal hB1
  have HW := Sl.mk (word_any op w1 (hE.all hal).sp)
  have HIT := Sl.mk (fun (W : World) (hW : Below w.heap.size w W) => itoa_any (k : Int) W (by omega) (by omega) (hE.all hW))
  have HNM := Sl.mk (fun (W : World) (hW : Below w.heap.size w W) => named_any k W (by omega) (hE.all hW))
  have HW1 := Sl.mk hw1
  have HAL := Sl.mk hal
  have HB1 := Sl.mk hB1
  have q0 := hB1.cell 0
  have hz := bs_size s
  have hzw := bs_size (wordF op)
  have hlw := word_len (op := op)
  obtain ⟨wd, hwd⟩ : ∃ wd, wordF op = wd := ⟨_, rfl⟩
  rw [hwd] at HW hzw hlw
  have HIN := Sl.mk (show insF ⟨op, k, s⟩ = wd ++ (if op = 1 ∨ op = 21 then 32 :: Lib.itoa k else if op = 2 then 32 :: 34 :: (s ++ [34]) else if op = 11 ∨ op = 12 then 32 :: namF k else []) by
    unfold insF; simp only; rw [hwd]; rfl)
  have hli := itoa_len (n := k) (by omega)
  have hln := namF_len (n := k) (by omega)
  have hz1 := bs_size (Lib.itoa (k : Int))
  have hz2 := bs_size (namF k)
  clear hw1 hal hB1 hwd hr hE
  go_enter Tryd.func20, Tryd.ntmps20
  go_wp2_with fail
  rw [HW1.out]
  refine HW.out.mono ?_
  rintro e w2 ⟨rfl, hb2⟩
  have HB2 := Sl.mk (HB1.out.be hb2)
  have HE2 := Sl.mk (below_tr HAL.out hb2)
  obtain ⟨tb, htb⟩ : ∃ tb, w.heap.size = tb := ⟨_, rfl⟩
  have HTB := Sl.mk htb
  rw [htb] at HB2
  have c0 := HB2.out.cell 0
  have c1 := HB2.out.cell 1
  have c2 := HB2.out.cell 2
  have HIT2 := Sl.mk (HIT.out w2 HE2.out)
  have HNM2 := Sl.mk (HNM.out w2 HE2.out)
  rw [htb]
  obtain ⟨I, hI⟩ : ∃ I, Lib.itoa (k : Int) = I := ⟨_, rfl⟩
  obtain ⟨M, hM⟩ : ∃ M, namF k = M := ⟨_, rfl⟩
  rw [hI] at HIT2 HIN hli hz1
  rw [hM] at HNM2 HIN hln hz2
  have hap1 : bsS wd ++ ⟨#[32]⟩ = bsS (wd ++ [32]) := bs_app wd [32]
  have hap2 : bsS (wd ++ [32]) ++ bsS I = bsS (wd ++ 32 :: I) := by rw [bs_app]; simp
  have hap3 : bsS (wd ++ [32]) ++ bsS M = bsS (wd ++ 32 :: M) := by rw [bs_app]; simp
  obtain ⟨T1, hT1⟩ : ∃ T1, wd ++ [32, 34] = T1 := ⟨_, rfl⟩
  obtain ⟨T2, hT2⟩ : ∃ T2, T1 ++ s = T2 := ⟨_, rfl⟩
  obtain ⟨T3, hT3⟩ : ∃ T3, T2 ++ [34] = T3 := ⟨_, rfl⟩
  have hap4 : bsS wd ++ ⟨#[32, 34]⟩ = bsS T1 := by rw [← hT1]; exact bs_app wd [32, 34]
  have hap5 : bsS T1 ++ bsS s = bsS T2 := by rw [← hT2, bs_app]
  have hap6 : bsS T2 ++ ⟨#[34]⟩ = bsS T3 := by rw [← hT3]; exact bs_app T2 [34]
  have HT3 := Sl.mk (show T3 = wd ++ 32 :: 34 :: (s ++ [34]) by rw [← hT3, ← hT2, ← hT1]; simp)
  have hs2 : (bsS T1).size = wd.length + 2 := by rw [bs_size, ← hT1]; simp
  have hs3 : (bsS T2).size = wd.length + 2 + s.length := by rw [bs_size, ← hT2, ← hT1]; simp; omega
  have hs1 : (bsS (wd ++ [32])).size = wd.length + 1 := by rw [bs_size]; simp
  clear hb2 htb q0 HB1 HAL HIT HNM HW1 hI hM HW hT1 hT2 hT3
  by_cases h1 : op = 1 ∨ op = 21
  · have HF := Sl.mk (show insF ⟨op, k, s⟩ = wd ++ 32 :: I by rw [HIN.out, if_pos h1])
    rcases h1 with rfl | rfl
    all_goals
      go_wp2_with fail
      refine HIT2.out.mono ?_
      rintro e w3 ⟨rfl, hb3⟩
      have HE3 := Sl.mk (below_tr HE2.out hb3)
      clear hb3
      go_wp2_with fail
      go_ret
      exact ⟨by rw [HF.out]; rfl, HE3.out⟩
  · by_cases h4 : op = 2
    · have HF := Sl.mk (show insF ⟨op, k, s⟩ = T3 by rw [HIN.out, if_neg h1, if_pos h4, HT3.out])
      subst h4
      go_wp2_with fail
      go_ret
      exact ⟨by rw [HF.out]; rfl, HE2.out⟩
    · by_cases h5 : op = 11 ∨ op = 12
      · have HF := Sl.mk (show insF ⟨op, k, s⟩ = wd ++ 32 :: M by rw [HIN.out, if_neg h1, if_neg h4, if_pos h5])
        clear h1 h4
        rcases h5 with rfl | rfl
        all_goals
          go_wp2_with fail
          refine HNM2.out.mono ?_
          rintro e w3 ⟨rfl, hb3⟩
          have HE3 := Sl.mk (below_tr HE2.out hb3)
          clear hb3
          go_wp2_with fail
          go_ret
          exact ⟨by rw [HF.out]; rfl, HE3.out⟩
      · have HF := Sl.mk (show insF ⟨op, k, s⟩ = wd by rw [HIN.out, if_neg h1, if_neg h4, if_neg h5, List.append_nil])
        have e1 : (op == 1) = false := beq_eq_false_iff_ne.2 (by omega)
        have e2 : (op == 2) = false := beq_eq_false_iff_ne.2 (by omega)
        have e3 : (op == 21) = false := beq_eq_false_iff_ne.2 (by omega)
        have e4 : (op == 11) = false := beq_eq_false_iff_ne.2 (by omega)
        have e5 : (op == 12) = false := beq_eq_false_iff_ne.2 (by omega)
        clear h1 h4 h5
        go_wp2_with fail
        go_ret
        exact ⟨by rw [HF.out]; rfl, HE2.out⟩
end Go.Proofs.YtigdfkpkogompaaDoor
