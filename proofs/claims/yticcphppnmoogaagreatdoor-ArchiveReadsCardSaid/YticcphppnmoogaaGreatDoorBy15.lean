/-
  The contracts of slices.Grow (of nil) and slices.Concat, of bytes.
  A region that draws its order: a web of operations that make memory, in whatever order they come: each has its own word of what it leaves, which later memory keeps.
  The contracts of an entry's seal and bytes.
-/
import Derived.Test.YticcphppnmoogaaGreatDoorBy14
import Derived.Lib.AppendZeros
import Derived.Test.YticcphppnmoogaaGreatDoorBy5
import Derived.Test.YticcphppnmoogaaGreatDoorBy1
import Derived.Lib.ConvBytes

namespace Go.Proofs.YticcphppnmoogaaGreatDoor
open Go.RowKit
attribute [local go_sem ↓] Go.wp_at_zero Go.wp_at_succ

set_option maxRecDepth 100000 in
theorem grow_any (n : Nat) (w : World) (hn : n ≤ 1000000000) :
    Calls Tryz.prog 60 #[.slice none 0 0, .int .i64 n] w fun e w' => ∃ A c, e = .returned (.slice A 0 c) ∧ w'.ownsRow w.heap.size 5 1 (.slice A 0 c) 0 [] ∧ Below w.heap.size w w' := by
  by_cases h0 : n = 0
  · subst h0
    go_enter Tryz.func60, Tryz.ntmps60
    go_wp2_with fail
    go_ret
    exact ⟨_, _, rfl, World.ownsRow_nil _ _ _ _, Below.refl _ _⟩
  · obtain ⟨i0, hi0, hz0, hz1, hz2⟩ := info_parts u8Info
    have happ := Lib.run_append_nil_zeros (P := Tryz.prog) w 22 3 22 5 i0 (.int .u8 0) .i64 .i64 Tryz.underlying22 Tryz.underlying3 hi0 hz0 n (by omega) (by omega) (by omega) (by rw [hz2]; omega)
    generalize hcap : grownCap w n 0 5 = cap2 at happ
    have hcapge : n ≤ cap2 := by rw [← hcap]; exact grownCap_ge w _ 0 5
    have hcaple : cap2 ≤ maxLen := by rw [← hcap]; exact grownCap_le_maxLen w _ 0 5 (by unfold maxLen; omega)
    generalize hZ : (Builtin.zeroCells (Value.int .u8 0).cells n ++ Builtin.zeroCells (Value.int .u8 0).cells (cap2 - n)) = Z at happ
    have hZs : Z.size = cap2 := by rw [← hZ]; simp [size_zeroCells, Value.cells]; omega
    have hn0 : ((n : Int) > 0) := by omega
    clear hcap hZ
    go_enter Tryz.func60, Tryz.ntmps60
    go_wp2_with (at_builtin; refine Lib.wpList_append_run _ rfl _ _ _ _ rfl _ _ rfl rfl _ _ happ ?_)
    go_ret
    refine ⟨_, _, rfl, ⟨rfl, .inr ⟨w.heap.size, cap2, Z, rfl, Nat.le_refl _, heap_alloc_new w _, Nat.zero_le _, hcaple, by omega, by simp⟩⟩, ?_⟩
    exact below_al (Below.refl _ _).drew _

theorem reads_rdsN {w : World} {S : Nat → Prop} {B n : Nat} {A : Option Addr} {l : List Nat} (h : RdS w S A l) (hS : ∀ b, S b → b < B) (hn : l.length = n) : Reads w B 1 A n (u8s l) :=
  ⟨by rw [u8s_len, hn, Nat.mul_one], fun h0 => by
    obtain ⟨ad, e, hb, _⟩ := h 0 (by omega)
    refine ⟨ad, e, hS _ hb, fun j u hu => ?_⟩
    have hj : j < l.length := by have := (List.getElem?_eq_some_iff.1 hu).1; rwa [u8s_len] at this
    obtain ⟨ad', e', _, hc⟩ := h j hj
    rw [e] at e'
    injection e' with e'
    subst e'
    rw [hc, ← hu]
    simp [u8s, hj]⟩

theorem flat_take (L : List (List Nat)) (i : Nat) : (L.take i).flatten.length ≤ L.flatten.length := by
  conv => rhs; rw [← List.take_append_drop i L]
  rw [List.flatten_append, List.length_append]; omega

set_option maxRecDepth 100000 in
set_option maxHeartbeats 4000000 in
theorem concat_any (A : Option Addr) (c : Nat) (L : List (List Nat)) (S : Nat → Prop) (w : World) (hn : L.flatten.length ≤ 1000000000) (hLn : L.length ≤ 1000000000) (hL : RdSS w S A L) (hS : ∀ b, S b → b < w.heap.size) :
    Calls Tryz.prog 48 #[.slice A L.length c] w fun e w' => ∃ A' n' c', e = .returned (.slice A' n' c') ∧ w'.ownsRow w.heap.size 5 1 (.slice A' n' c') n' (u8s L.flatten) ∧ Below w.heap.size w w' := by
  obtain ⟨i0, hi0, hz0, hz1, hz2⟩ := info_parts u8Info
  obtain ⟨m, hm⟩ : ∃ m, L.length = m := ⟨_, rfl⟩
  have HM := hide hm
  have HN := Sl.mk hn
  have HL := Sl.mk hL
  have HS := Sl.mk hS
  rw [hm] at hLn ⊢
  clear hm hn hL hS
  go_enter Tryz.func48, Tryz.ntmps48
  go_wp2_with fail
  go_loopw [3, 5, 11] (fun v3 _ v11 wr => ∃ i : Nat, i ≤ m ∧ v11 = .int .i64 i ∧ v3 = .int .i64 ((L.take i).flatten.length : Nat) ∧ wr = w) (fun _ _ v11 _ => m - (intOf v11).toNat)
  case atStart => exact ⟨0, by omega, rfl, rfl, rfl⟩
  case round =>
    obtain ⟨i, hi, rfl, rfl, rfl⟩ := hrel
    by_cases hlt : i < m
    · obtain ⟨ad, Ai, ci, rfl, hSb, hcell, hrd⟩ := HL.out i (by rw [HM.out]; exact hlt)
      have hfs : (L.take (i + 1)).flatten.length = (L.take i).flatten.length + (L.getD i []).length := by rw [take_succ_getD (d := []) (by rw [HM.out]; exact hlt)]; simp
      have hle := flat_take L (i + 1)
      have hle1 := flat_take L i
      have hN := HN.out
      obtain ⟨k, hk⟩ : ∃ k, (L.getD i []).length = k := ⟨_, rfl⟩
      obtain ⟨q, hq⟩ : ∃ q, (L.take i).flatten.length = q := ⟨_, rfl⟩
      rw [hk] at hcell hfs
      rw [hq] at hfs hle1 ⊢
      have hk9 : k ≤ 1000000000 := by omega
      have hq9 : q ≤ 1000000000 := by omega
      have hneg : ¬ ((q : Int) + k < 0) := by omega
      have HFS := Sl.mk hfs
      clear hfs hle hle1 hN hk hq hrd
      go_wp2_with fail
      go_roundw
      case rel => exact ⟨i + 1, by omega, by go_num, by rw [HFS.out]; go_num, trivial⟩
      case measure => simp [intOf]; omega
    · obtain rfl : i = m := by omega
      obtain ⟨wo, hwo⟩ : ∃ wo, wo = wr := ⟨_, rfl⟩
      subst hwo
      have ht : L.take i = L := List.take_of_length_le (by rw [HM.out]; omega)
      rw [ht]
      have HG := Sl.mk (grow_any L.flatten.length wo HN.out)
      clear ht
      obtain ⟨q, hq⟩ : ∃ q, L.flatten.length = q := ⟨_, rfl⟩
      rw [hq] at HG ⊢
      clear hq
      go_wp2_with fail
      refine HG.out.mono ?_
      rintro e w1 ⟨Ag, cg, rfl, hown, hB⟩
      clear HG
      go_wp2_with fail
      go_loopw [6, 8, 27] (fun v6 _ v27 wx => ∃ (j q : Nat), j ≤ i ∧ v27 = .int .i64 j ∧ q = (L.take j).flatten.length ∧ wx.ownsRow wo.heap.size 5 1 v6 q (u8s (L.take j).flatten) ∧ Below wo.heap.size wo wx) (fun _ _ v27 _ => i - (intOf v27).toNat)
      case atStart => exact ⟨0, 0, by omega, rfl, by simp, by simpa [u8s] using hown, hB⟩
      case round =>
        clear hown hB
        obtain ⟨j, q, hj, rfl, hq, ho, hB⟩ := hrel
        obtain ⟨A6, c6, rfl⟩ := ownForm ho
        by_cases hlt : j < i
        · obtain ⟨ad, Ai, ci, rfl, hSb, hcell0, hrd0⟩ := HL.out j (by rw [HM.out]; exact hlt)
          have hcell := (hB.cell (p := ad.add j) (by rw [block_of_add]; exact HS.out _ hSb)).trans hcell0
          have hfs : (L.take (j + 1)).flatten = (L.take j).flatten ++ L.getD j [] := by rw [take_succ_getD (d := []) (by rw [HM.out]; exact hlt)]; simp
          have hle := flat_take L (j + 1)
          rw [hfs, List.length_append] at hle
          have hN := HN.out
          have hrd := ((reads_rdsN hrd0 HS.out rfl).below hB).more hB.size
          obtain ⟨l, hl⟩ : ∃ l, L.getD j [] = l := ⟨_, rfl⟩
          rw [hl] at hfs hle hrd hcell
          obtain ⟨k, hk⟩ : ∃ k, l.length = k := ⟨_, rfl⟩
          rw [hk] at hrd hcell hle
          rw [← hq] at hle
          have hqk : q + k ≤ 1000000000 := by omega
          have HK := Sl.mk hk
          have HQ := Sl.mk hq
          have HFS := Sl.mk hfs
          have hge := hB.size
          have HRD := Sl.mk hrd
          clear hl hk hq hfs hle hN hrd hrd0 hcell0
          go_wp2_with (at_builtin; refine wpList_append_anyG _ rfl (.tmp 31) (.tmp 32) 22 rfl wo.heap.size 5 i0 (.int .u8 0) 1 1 Tryz.underlying22 hi0 hz0 hz1 hz2 rfl (by decide) _ q _ rfl ho _ _ k ci (u8s l) rfl HRD.out (u8s_one l) (by unfold maxLen; omega) (by omega) (by omega) ?_)
          intro v9 w9 ho9 hg9 hb9
          have hE9 : Below wo.heap.size wo w9 := hB.grown hg9 (by omega) (fun g hg => ownGe ho hg)
          rw [← u8s_app, ← HFS.out] at ho9
          obtain ⟨A9, c9, rfl⟩ := ownForm ho9
          clear ho hg9 hb9 hB
          go_wp2_with fail
          go_roundw
          case rel => exact ⟨j + 1, q + k, by omega, by go_num, by rw [HFS.out, List.length_append, ← HQ.out, HK.out], ho9, hE9⟩
          case measure => simp [intOf]; omega
        · obtain rfl : j = i := by omega
          have ht : L.take j = L := List.take_of_length_le (by rw [HM.out]; omega)
          rw [ht] at ho
          clear ht hq
          go_wp2_with fail
          go_ret
          exact ⟨A6, q, c6, rfl, ho, hB⟩

end Go.Proofs.YticcphppnmoogaaGreatDoor

namespace Go.Proofs.YticcphppnmoogaaGreatDoor
open Go Go.RowKit

def subsF : List Nat → List (List Nat)
  | [] => [[]]
  | k :: r => subsF r ++ (subsF r).map (k :: ·)
theorem filter_subs (p : Nat → Bool) : ∀ F : List Nat, F.filter p ∈ subsF F
  | [] => by simp [subsF]
  | k :: r => by
    have h := filter_subs p r
    simp only [subsF, List.filter_cons, List.mem_append, List.mem_map]
    split
    · exact .inr ⟨_, h, rfl⟩
    · exact .inl h
def setL (D : List Nat) (s : Array Bool) : Array Bool := D.foldl (fun s k => s.setIfInBounds k true) s
def putL (dst : Nat → Nat) (σ : Nat → Value) (D : List Nat) (a : Act) : Act := D.foldl (fun a k => a.put (some (dst k)) (σ k)) a
theorem put_comm (a : Act) {i j : Nat} (h : i ≠ j) (v u : Value) : (a.put (some i) v).put (some j) u = (a.put (some j) u).put (some i) v := by
  simp only [Act.put]; rw [Array.setIfInBounds_comm _ _ h]
theorem setL_in : ∀ (D : List Nat) (s : Array Bool) (k : Nat), k ∉ D → (setL D s).setIfInBounds k true = setL D (s.setIfInBounds k true)
  | [], _, _, _ => rfl
  | j :: D, s, k, h => by
    simp only [List.mem_cons, not_or] at h
    show (setL D (s.setIfInBounds j true)).setIfInBounds k true = setL D ((s.setIfInBounds k true).setIfInBounds j true)
    rw [setL_in D _ k h.2, Array.setIfInBounds_comm _ _ (Ne.symm h.1)]
theorem putL_in (dst : Nat → Nat) (σ : Nat → Value) : ∀ (D : List Nat) (a : Act) (t : Nat) (v : Value), (∀ j ∈ D, dst j ≠ t) → (putL dst σ D a).put (some t) v = putL dst σ D (a.put (some t) v)
  | [], _, _, _, _ => rfl
  | j :: D, a, t, v, h => by
    show (putL dst σ D (a.put (some (dst j)) (σ j))).put (some t) v = putL dst σ D ((a.put (some t) v).put (some (dst j)) (σ j))
    rw [putL_in dst σ D _ t v (fun i hi => h i (List.mem_cons_of_mem _ hi)), put_comm a (h j (List.mem_cons_self ..))]
theorem putL_congr (dst : Nat → Nat) {σ σ' : Nat → Value} : ∀ (D : List Nat) (a : Act), (∀ j ∈ D, σ j = σ' j) → putL dst σ D a = putL dst σ' D a
  | [], _, _ => rfl
  | j :: D, a, h => by
    show putL dst σ D (a.put (some (dst j)) (σ j)) = putL dst σ' D (a.put (some (dst j)) (σ' j))
    rw [h j (List.mem_cons_self ..), putL_congr dst D _ (fun i hi => h i (List.mem_cons_of_mem _ hi))]
theorem putL_app (dst : Nat → Nat) (σ : Nat → Value) (D E : List Nat) (a : Act) : putL dst σ (D ++ E) a = putL dst σ E (putL dst σ D a) := by simp [putL]
theorem setL_app (D E : List Nat) (s : Array Bool) : setL (D ++ E) s = setL E (setL D s) := by simp [setL]
theorem put_eval_ne (a : Act) {i t : Nat} (h : i ≠ t) (v : Value) : (a.put (some i) v).eval (.tmp t) = a.eval (.tmp t) := by
  simp only [Act.put, Act.eval, Array.getD_eq_getD_getElem?]
  rw [Array.getElem?_setIfInBounds_ne h]
theorem put_eval_eq (a : Act) {t : Nat} (h : t < a.tmps.size) (v : Value) : (a.put (some t) v).eval (.tmp t) = v := by
  simp [Act.put, Act.eval, h]
theorem put_size (a : Act) (i : Nat) (v : Value) : (a.put (some i) v).tmps.size = a.tmps.size := by simp [Act.put]
theorem putL_eval_ne (dst : Nat → Nat) (σ : Nat → Value) : ∀ (D : List Nat) (a : Act) (t : Nat), (∀ j ∈ D, dst j ≠ t) → (putL dst σ D a).eval (.tmp t) = a.eval (.tmp t)
  | [], _, _, _ => rfl
  | j :: D, a, t, h => by
    show (putL dst σ D (a.put (some (dst j)) (σ j))).eval _ = _
    rw [putL_eval_ne dst σ D _ t (fun i hi => h i (List.mem_cons_of_mem _ hi)), put_eval_ne a (h j (List.mem_cons_self ..))]
theorem putL_eval_eq (dst : Nat → Nat) (σ : Nat → Value) : ∀ (D : List Nat) (a : Act) (k : Nat), k ∈ D → (∀ i ∈ D, ∀ j ∈ D, dst i = dst j → i = j) → dst k < a.tmps.size → (putL dst σ D a).eval (.tmp (dst k)) = σ k
  | [], _, _, h, _, _ => by cases h
  | j :: D, a, k, h, hd, hs => by
    show (putL dst σ D (a.put (some (dst j)) (σ j))).eval _ = _
    by_cases hk : k ∈ D
    · exact putL_eval_eq dst σ D _ k hk (fun i hi j hj => hd i (List.mem_cons_of_mem _ hi) j (List.mem_cons_of_mem _ hj)) (by rw [put_size]; exact hs)
    · obtain rfl : k = j := by
        rcases List.mem_cons.1 h with h | h
        · exact h
        · exact absurd h hk
      rw [putL_eval_ne dst σ D _ _ (fun i hi he => hk (by
        have := hd i (List.mem_cons_of_mem _ hi) k (List.mem_cons_self ..) he
        rwa [this] at hi)), put_eval_eq a hs]

/-- A slot's value, as the walk writes it. -/
theorem ev_at {a : Act} {t : Nat} {v : Value} (h : a.eval (.tmp t) = v) : a.tmps[t]?.getD undef = v := by
  rw [← h]; simp [Act.eval]

def webB (md : Region.Mode) (ops : Array Oper) (s : Array Bool) (F : List Nat) (deps : Nat → List Nat) : Bool :=
  (subsF F).all fun D => D == F || !(D.all fun k => (deps k).all fun j => D.contains j) || (!(Region.ready md ops (setL D s)).isEmpty && (Region.ready md ops (setL D s)).all fun k => F.contains k && !D.contains k && (deps k).all fun j => D.contains j)
def webB0 (md : Region.Mode) (ops : Array Oper) (s : Array Bool) (F : List Nat) (deps : Nat → List Nat) : Bool :=
  (subsF F).all fun D => D == F || (!(Region.ready md ops (setL D s)).isEmpty && (Region.ready md ops (setL D s)).all fun k => F.contains k && !D.contains k && (deps k).all fun j => D.contains j)

section
variable {P : Program} {md : Region.Mode} {l : List Oper} {Q : Exit → Act → World → Prop} {X : List Nat} {B : Nat} {wd : World}

theorem split_at {F : List Nat} {k : Nat} (h : k ∈ F) (hn : F.Nodup) : ∃ F1 F2, F = F1 ++ k :: F2 ∧ k ∉ F1 ∧ k ∉ F2 := by
  obtain ⟨F1, F2, rfl⟩ := List.append_of_mem h
  rw [List.nodup_append] at hn
  refine ⟨F1, F2, rfl, fun h1 => ?_, fun h2 => ?_⟩
  · exact hn.2.2 k h1 k (List.mem_cons_self ..) rfl
  · exact (List.nodup_cons.1 hn.2.1).1 h2

theorem wpAnyX_web (F : List Nat) (dst : Nat → Nat) (deps : Nat → List Nat) (Post : Nat → Value → World → Prop) (s0 : Array Bool) (a0 : Act) (N f : Nat)
    (hweb : webB md l.toArray s0 F deps = true) (hnd : F.Nodup) (hdd : ∀ i ∈ F, ∀ j ∈ F, dst i = dst j → i = j) (hop : (F.all fun k => (l[k]?).isSome && ((l[k]?).getD default).guard.isNone) = true)
    (hN : a0.tmps.size = N) (hsz : ∀ k ∈ F, dst k < N)
    (hst : ∀ k ∈ F, ∀ v w w', Below wd.heap.size wd w → Post k v w → Below w.heap.size w w' → Post k v w')
    (hstep : ∀ k ∈ F, ∀ (a : Act) (w : World) (σ : Nat → Value), Below wd.heap.size wd w → (∀ t, (∀ j ∈ F, dst j ≠ t) → a.eval (.tmp t) = a0.eval (.tmp t)) → (∀ j ∈ deps k, a.eval (.tmp (dst j)) = σ j ∧ Post j (σ j) w) →
      ((l[k]?).getD default).wp P a w (fun a' w' => ∃ v, a' = a.put (some (dst k)) v ∧ Below w.heap.size w w' ∧ Post k v w') Q)
    (hfin : ∀ (σ : Nat → Value) (w : World), Below wd.heap.size wd w → (∀ k ∈ F, Post k (σ k) w) → wpAnyX P md l.toArray Q (fun W => Below wd.heap.size wd W) X f (setL F s0) (putL dst σ F a0) w) :
    ∀ w, Below wd.heap.size wd w → wpAnyX P md l.toArray Q (fun W => Below wd.heap.size wd W) X (f + F.length) s0 a0 w := by
  have main : ∀ (r : Nat) (p : Nat → Bool) (σ : Nat → Value) (w : World), (F.filter p).length + r = F.length → Below wd.heap.size wd w → (∀ k ∈ F, p k = true → Post k (σ k) w) → (∀ k ∈ F, p k = true → ∀ j ∈ deps k, j ∈ F ∧ p j = true) →
      wpAnyX P md l.toArray Q (fun W => Below wd.heap.size wd W) X (f + r) (setL (F.filter p) s0) (putL dst σ (F.filter p) a0) w := by
    intro r
    induction r with
    | zero =>
      intro p σ w hl hb hp _
      have hF : F.filter p = F := List.filter_eq_self.2 (List.length_filter_eq_length_iff.1 (by omega))
      rw [hF]
      exact hfin σ w hb (fun k hk => hp k hk (List.length_filter_eq_length_iff.1 (by omega) k hk))
    | succ r ih =>
      intro p σ w hl hb hp hcl
      have hw := List.all_eq_true.1 hweb _ (filter_subs p F)
      have hne : ¬ (F.filter p = F) := fun e => by rw [e] at hl; omega
      have hcd : ((F.filter p).all fun k => (deps k).all fun j => (F.filter p).contains j) = true := by
        rw [List.all_eq_true]
        intro k hk
        rw [List.all_eq_true]
        intro j hj
        have h := hcl k (List.mem_filter.1 hk).1 (List.mem_filter.1 hk).2 j hj
        simpa using List.mem_filter.2 h
      rw [hcd] at hw
      simp only [Bool.not_true, Bool.or_false, Bool.or_eq_true, beq_iff_eq, hne, false_or, Bool.and_eq_true, Bool.not_eq_true', List.isEmpty_eq_false_iff, List.all_eq_true] at hw
      obtain ⟨h1, h2⟩ := hw
      refine ⟨fun h0 => absurd h0 h1, fun k hk => ?_⟩
      obtain ⟨⟨hkF, hkD⟩, hdep⟩ := h2 k hk
      have hkF : k ∈ F := by simpa using hkF
      have hpk : p k = false := by
        cases e : p k with
        | false => rfl
        | true => exact absurd (List.mem_filter.2 ⟨hkF, e⟩) (by simpa using hkD)
      have hdep : ∀ j ∈ deps k, j ∈ F ∧ p j = true := fun j hj => List.mem_filter.1 (by simpa using hdep j hj)
      obtain ⟨F1, F2, hFF, hk1, hk2⟩ := split_at hkF hnd
      have hok := List.all_eq_true.1 hop k hkF
      simp only [Bool.and_eq_true] at hok
      obtain ⟨o, ho⟩ := Option.isSome_iff_exists.1 hok.1
      have ho' : (l[k]?).getD default = o := by rw [ho]; rfl
      have hgo : o.guard = none := by rw [← ho']; exact Option.isNone_iff_eq_none.1 hok.2
      refine wpOp_ofL ho hgo ?_
      rw [← ho']
      have hs := hstep k hkF (putL dst σ (F.filter p) a0) w σ hb
        (fun t ht => putL_eval_ne dst σ _ a0 t (fun j hj => ht j (List.mem_filter.1 hj).1))
        (fun j hj => ⟨putL_eval_eq dst σ _ a0 j (List.mem_filter.2 (hdep j hj)) (fun i hi j hj => hdd i (List.mem_filter.1 hi).1 j (List.mem_filter.1 hj).1) (by rw [hN]; exact hsz j (hdep j hj).1), hp j (hdep j hj).1 (hdep j hj).2⟩)
      refine Oper.wp_mono (fun a' w' h => ?_) hs
      obtain ⟨v, rfl, hbw, hpost⟩ := h
      have hbb : Below wd.heap.size wd w' := below_tr hb hbw
      refine ⟨fun _ => hbb, ?_⟩
      let p' : Nat → Bool := fun j => p j || j == k
      let σ' : Nat → Value := fun j => if j = k then v else σ j
      have e1 : F.filter p = F1.filter p ++ F2.filter p := by rw [hFF, List.filter_append, List.filter_cons, hpk]; rfl
      have q1 : ∀ E : List Nat, k ∉ E → E.filter p' = E.filter p := fun E hE => List.filter_congr fun x hx => by
        have : x ≠ k := fun e => hE (e ▸ hx)
        simp [p', this]
      have e2 : F.filter p' = F1.filter p ++ k :: F2.filter p := by
        rw [hFF, List.filter_append, List.filter_cons, q1 F1 hk1, q1 F2 hk2]
        simp [p']
      have hd2 : ∀ j ∈ F2.filter p, dst j ≠ dst k := fun j hj he => by
        have hjF : j ∈ F := by rw [hFF]; exact List.mem_append_right _ (List.mem_cons_of_mem _ (List.mem_filter.1 hj).1)
        have := hdd j hjF k hkF he
        rw [this] at hj
        exact hk2 (List.mem_filter.1 hj).1
      have e3 : (setL (F.filter p) s0).setIfInBounds k true = setL (F.filter p') s0 := by
        rw [e1, e2, setL_app, setL_app]
        exact setL_in _ _ _ (fun h => hk2 (List.mem_filter.1 h).1)
      have c1 : ∀ E : List Nat, k ∉ E → ∀ a, putL dst σ' E a = putL dst σ E a := fun E hE a => putL_congr dst E a fun j hj => by
        have : j ≠ k := fun e => hE (e ▸ hj)
        simp [σ', this]
      have e4 : (putL dst σ (F.filter p) a0).put (some (dst k)) v = putL dst σ' (F.filter p') a0 := by
        rw [e1, e2, putL_app, putL_app, putL_in dst σ _ _ _ _ hd2]
        show _ = putL dst σ' (F2.filter p) ((putL dst σ' (F1.filter p) a0).put (some (dst k)) (σ' k))
        rw [c1 _ (fun h => hk1 (List.mem_filter.1 h).1), c1 _ (fun h => hk2 (List.mem_filter.1 h).1)]
        simp [σ']
      rw [e3, e4]
      refine ih p' σ' w' ?_ hbb (fun j hj hpj => ?_) (fun j hj hpj i hi => ?_)
      · rw [e2]; rw [e1] at hl; simp only [List.length_append, List.length_cons] at *; omega
      · by_cases hjk : j = k
        · subst hjk
          simp only [σ', if_true]
          exact hpost
        · have : p j = true := by simpa [p', hjk] using hpj
          simp only [σ', if_neg hjk]
          exact hst j hj _ w w' hb (hp j hj this) hbw
      · by_cases hjk : j = k
        · subst hjk
          have h := hdep i hi
          exact ⟨h.1, by simp [p', h.2]⟩
        · have hpj : p j = true := by simpa [p', hjk] using hpj
          have h := hcl j hj hpj i hi
          exact ⟨h.1, by simp [p', h.2]⟩
  intro w hb
  have e0 : F.filter (fun _ => false) = [] := List.filter_eq_nil_iff.2 (fun _ _ => by simp)
  have h := main F.length (fun _ => false) (fun _ => undef) w (by rw [e0]; simp) hb (fun k _ h => by cases h) (fun k _ h => by cases h)
  rw [e0] at h
  exact h

/-- As the web, with one word of all that stands so far. -/
theorem wpAnyX_inv {S : World → Prop} (F : List Nat) (dst : Nat → Nat) (deps : Nat → List Nat) (Inv : (Nat → Bool) → (Nat → Value) → World → Prop) (s0 : Array Bool) (a0 : Act) (N f : Nat)
    (hweb : webB0 md l.toArray s0 F deps = true) (hnd : F.Nodup) (hdd : ∀ i ∈ F, ∀ j ∈ F, dst i = dst j → i = j) (hop : (F.all fun k => (l[k]?).isSome && ((l[k]?).getD default).guard.isNone) = true)
    (hN : a0.tmps.size = N) (hsz : ∀ k ∈ F, dst k < N) (hS : ∀ p σ w, Inv p σ w → S w)
    (hstep : ∀ k ∈ F, ∀ (a : Act) (w : World) (p : Nat → Bool) (σ : Nat → Value), Inv p σ w → p k = false → (∀ t, (∀ j ∈ F, dst j ≠ t) → a.eval (.tmp t) = a0.eval (.tmp t)) → (∀ j ∈ deps k, a.eval (.tmp (dst j)) = σ j ∧ p j = true) →
      ((l[k]?).getD default).wp P a w (fun a' w' => ∃ v, a' = a.put (some (dst k)) v ∧ Inv (fun j => p j || j == k) (fun j => if j = k then v else σ j) w') Q)
    (hfin : ∀ (p : Nat → Bool) (σ : Nat → Value) (w : World), Inv p σ w → (∀ k ∈ F, p k = true) → wpAnyX P md l.toArray Q S X f (setL F s0) (putL dst σ F a0) w) :
    ∀ w σ0, Inv (fun _ => false) σ0 w → wpAnyX P md l.toArray Q S X (f + F.length) s0 a0 w := by
  have main : ∀ (r : Nat) (p : Nat → Bool) (σ : Nat → Value) (w : World), (F.filter p).length + r = F.length → Inv p σ w →
      wpAnyX P md l.toArray Q S X (f + r) (setL (F.filter p) s0) (putL dst σ (F.filter p) a0) w := by
    intro r
    induction r with
    | zero =>
      intro p σ w hl hp
      have hF : F.filter p = F := List.filter_eq_self.2 (List.length_filter_eq_length_iff.1 (by omega))
      rw [hF]
      exact hfin p σ w hp (fun k hk => List.length_filter_eq_length_iff.1 (by omega) k hk)
    | succ r ih =>
      intro p σ w hl hp
      have hw := List.all_eq_true.1 hweb _ (filter_subs p F)
      have hne : ¬ (F.filter p = F) := fun e => by rw [e] at hl; omega
      simp only [Bool.or_eq_true, beq_iff_eq, hne, false_or, Bool.and_eq_true, Bool.not_eq_true', List.isEmpty_eq_false_iff, List.all_eq_true] at hw
      obtain ⟨h1, h2⟩ := hw
      refine ⟨fun h0 => absurd h0 h1, fun k hk => ?_⟩
      obtain ⟨⟨hkF, hkD⟩, hdep⟩ := h2 k hk
      have hkF : k ∈ F := by simpa using hkF
      have hpk : p k = false := by
        cases e : p k with
        | false => rfl
        | true => exact absurd (List.mem_filter.2 ⟨hkF, e⟩) (by simpa using hkD)
      have hdep : ∀ j ∈ deps k, j ∈ F ∧ p j = true := fun j hj => List.mem_filter.1 (by simpa using hdep j hj)
      obtain ⟨F1, F2, hFF, hk1, hk2⟩ := split_at hkF hnd
      have hok := List.all_eq_true.1 hop k hkF
      simp only [Bool.and_eq_true] at hok
      obtain ⟨o, ho⟩ := Option.isSome_iff_exists.1 hok.1
      have ho' : (l[k]?).getD default = o := by rw [ho]; rfl
      have hgo : o.guard = none := by rw [← ho']; exact Option.isNone_iff_eq_none.1 hok.2
      refine wpOp_ofL ho hgo ?_
      rw [← ho']
      have hs := hstep k hkF (putL dst σ (F.filter p) a0) w p σ hp hpk
        (fun t ht => putL_eval_ne dst σ _ a0 t (fun j hj => ht j (List.mem_filter.1 hj).1))
        (fun j hj => ⟨putL_eval_eq dst σ _ a0 j (List.mem_filter.2 (hdep j hj)) (fun i hi j hj => hdd i (List.mem_filter.1 hi).1 j (List.mem_filter.1 hj).1) (by rw [hN]; exact hsz j (hdep j hj).1), (hdep j hj).2⟩)
      refine Oper.wp_mono (fun a' w' h => ?_) hs
      obtain ⟨v, rfl, hinv⟩ := h
      refine ⟨fun _ => hS _ _ _ hinv, ?_⟩
      let p' : Nat → Bool := fun j => p j || j == k
      let σ' : Nat → Value := fun j => if j = k then v else σ j
      have e1 : F.filter p = F1.filter p ++ F2.filter p := by rw [hFF, List.filter_append, List.filter_cons, hpk]; rfl
      have q1 : ∀ E : List Nat, k ∉ E → E.filter p' = E.filter p := fun E hE => List.filter_congr fun x hx => by
        have : x ≠ k := fun e => hE (e ▸ hx)
        simp [p', this]
      have e2 : F.filter p' = F1.filter p ++ k :: F2.filter p := by
        rw [hFF, List.filter_append, List.filter_cons, q1 F1 hk1, q1 F2 hk2]
        simp [p']
      have hd2 : ∀ j ∈ F2.filter p, dst j ≠ dst k := fun j hj he => by
        have hjF : j ∈ F := by rw [hFF]; exact List.mem_append_right _ (List.mem_cons_of_mem _ (List.mem_filter.1 hj).1)
        have := hdd j hjF k hkF he
        rw [this] at hj
        exact hk2 (List.mem_filter.1 hj).1
      have e3 : (setL (F.filter p) s0).setIfInBounds k true = setL (F.filter p') s0 := by
        rw [e1, e2, setL_app, setL_app]
        exact setL_in _ _ _ (fun h => hk2 (List.mem_filter.1 h).1)
      have c1 : ∀ E : List Nat, k ∉ E → ∀ a, putL dst σ' E a = putL dst σ E a := fun E hE a => putL_congr dst E a fun j hj => by
        have : j ≠ k := fun e => hE (e ▸ hj)
        simp [σ', this]
      have e4 : (putL dst σ (F.filter p) a0).put (some (dst k)) v = putL dst σ' (F.filter p') a0 := by
        rw [e1, e2, putL_app, putL_app, putL_in dst σ _ _ _ _ hd2]
        show _ = putL dst σ' (F2.filter p) ((putL dst σ' (F1.filter p) a0).put (some (dst k)) (σ' k))
        rw [c1 _ (fun h => hk1 (List.mem_filter.1 h).1), c1 _ (fun h => hk2 (List.mem_filter.1 h).1)]
        simp [σ']
      rw [e3, e4]
      refine ih p' σ' w' ?_ hinv
      rw [e2]; rw [e1] at hl; simp only [List.length_append, List.length_cons] at *; omega
  intro w σ0 h0
  have e0 : F.filter (fun _ => false) = [] := List.filter_eq_nil_iff.2 (fun _ _ => by simp)
  have h := main F.length (fun _ => false) σ0 w (by rw [e0]; simp) h0
  rw [e0] at h
  exact h
end
end Go.Proofs.YticcphppnmoogaaGreatDoor

namespace Go.Proofs.YticcphppnmoogaaGreatDoor
open Go.RowKit
attribute [local go_sem ↓] Go.wp_at_zero Go.wp_at_succ

def bys (s : ByteArray) : List Nat := s.data.toList.map (·.toNat)
theorem bys_len (s : ByteArray) : (bys s).length = s.size := by simp [bys]
theorem digInfoQ : (Tryz.prog.info? 89).map (·.size) = some 32 := by kernel_rfl
def sealF (e : En) : List Nat := (shaF (frameF [bys (txtF e.path), e.data])).take 8

theorem conv_bys (s : ByteArray) (w : World) : (convert 9 22 (.string s)).run Tryz.prog w = .ok (.slice (some ⟨w.heap.size, 0, none⟩) s.size (grownCap w s.size 0 5)) (Lib.bytesWorld w 5 s) :=
  Lib.run_convert_string_bytes w _ _ _ s Tryz.underlying9 Tryz.underlying22 Tryz.underlying5
theorem bys_below (s : ByteArray) (w : World) : Below w.heap.size w (Lib.bytesWorld w 5 s) := ⟨rfl, rfl, rfl, by rw [Lib.bytesWorld_size]; omega, fun k hk => Lib.bytesWorld_at_old w _ s k hk⟩
theorem bys_reads (s : ByteArray) (w : World) : RdS (Lib.bytesWorld w 5 s) (fun b => b < (Lib.bytesWorld w 5 s).heap.size) (some ⟨w.heap.size, 0, none⟩) (bys s) :=
  rd_cells (by rw [Lib.bytesWorld_size]; omega) (fun j hj => by
    rw [bys_len] at hj
    rw [Lib.bytesWorld_cell w _ s j hj]
    simp [bys]
    cases s.data[j]? <;> rfl)

theorem txt_len {p : List ByteArray} (h1 : p.length ≤ 100) (h2 : ∀ s ∈ p, s.size ≤ 1000) : (txtF p).size ≤ 200000 := by
  have h := txtF_size p h2
  have : p.length * (1000 + 1) ≤ 100 * 1001 := Nat.mul_le_mul h1 (Nat.le_refl _)
  omega
theorem rdss_two {w : World} {S : Nat → Prop} {A A' : Option Addr} {c c' : Nat} {l l' : List Nat} {g : Nat} {t : TypeId} (hB : Blk w g t #[.slice A l.length c, .slice A' l'.length c']) (hg : S g) (hr : RdS w S A l) (hr' : RdS w S A' l') : RdSS w S (some ⟨g, 0, none⟩) [l, l'] := fun i hi => by
  match i, hi with
  | 0, _ => exact ⟨_, A, c, rfl, hg, by rw [add_zero']; exact hB.cell 0, hr⟩
  | 1, _ => exact ⟨_, A', c', rfl, hg, by rw [add_zero']; exact hB.cell 1, hr'⟩

/-- What each operation of seal's web leaves. -/
def SealP (B : Nat) (t : ByteArray) (d : List Nat) (k : Nat) (v : Value) (w : World) : Prop := match k with
  | 2 => v = .string t
  | 3 => ∃ g c, v = .slice (some ⟨g, 0, none⟩) t.size c ∧ RdS w (fun b => b < w.heap.size) (some ⟨g, 0, none⟩) (bys t)
  | 6 => ∃ g, v = .slice (some ⟨g, 0, none⟩) 2 2 ∧ RdSS w (fun b => b < w.heap.size) (some ⟨g, 0, none⟩) [bys t, d]
  | 7 => v = .agg (u8s (shaF (frameF [bys t, d]))).toArray
  | 8 => ∃ g, v = .pointer (some ⟨g, 0, none⟩) ∧ B ≤ g ∧ Blk w g 89 #[.int .u8 0, .int .u8 0, .int .u8 0, .int .u8 0, .int .u8 0, .int .u8 0, .int .u8 0, .int .u8 0, .int .u8 0, .int .u8 0, .int .u8 0, .int .u8 0, .int .u8 0, .int .u8 0, .int .u8 0, .int .u8 0, .int .u8 0, .int .u8 0, .int .u8 0, .int .u8 0, .int .u8 0, .int .u8 0, .int .u8 0, .int .u8 0, .int .u8 0, .int .u8 0, .int .u8 0, .int .u8 0, .int .u8 0, .int .u8 0, .int .u8 0, .int .u8 0]
  | _ => False

set_option maxRecDepth 100000 in
set_option maxHeartbeats 4000000 in
theorem seal_any (x : Ex) (w : World) (hx : ExOk w w.heap.size x) (hT : Tabs w) :
    Calls Tryz.prog 40 #[.agg (exC x).toArray] w fun e w' => ∃ g c, e = .returned (.slice (some ⟨g, 0, none⟩) 8 c) ∧ RdS w' (fun b => b < w'.heap.size) (some ⟨g, 0, none⟩) (sealF x.e) ∧ Below w.heap.size w w' := by
  obtain ⟨⟨p, k, m, d⟩, pa, pc, da, dc⟩ := x
  have HX := Sl.mk hx
  have HT := Sl.mk hT
  show Calls Tryz.prog 40 #[.agg #[.slice pa p.length pc, .int .i64 k, .int .i64 m, .slice da d.length dc]] w fun e w' => ∃ g c, e = .returned (.slice (some ⟨g, 0, none⟩) 8 c) ∧ RdS w' (fun b => b < w'.heap.size) (some ⟨g, 0, none⟩) ((shaF (frameF [bys (txtF p), d])).take 8) ∧ Below w.heap.size w w'
  have HE := Sl.mk (below_al (Below.refl w.heap.size w) (.cells #[.slice pa p.length pc, .int .i64 k, .int .i64 m, .slice da d.length dc] 40))
  have HS := Sl.mk (txt_len hx.plen hx.slen)
  clear hx hT
  go_enter Tryz.func40, Tryz.ntmps40
  go_wp2_with fail
  obtain ⟨wd, hwd⟩ : ∃ wd, (w.alloc (.cells #[.slice pa p.length pc, .int .i64 k, .int .i64 m, .slice da d.length dc] 40)).drew = wd := ⟨_, rfl⟩
  have hEd : Below w.heap.size w wd := by rw [← hwd]; exact HE.out.drew
  have hbx : Blk wd w.heap.size 40 #[.slice pa p.length pc, .int .i64 k, .int .i64 m, .slice da d.length dc] := by rw [← hwd]; exact Blk.new _ _ _
  have HBX := Sl.mk hbx
  have HSF : Sl (∀ W, Below wd.heap.size wd W → W.cell? ⟨w.heap.size, 0, none⟩ = some (.slice pa p.length pc) ∧ W.cell? ⟨w.heap.size, 3, none⟩ = some (.slice da d.length dc)) := Sl.mk (fun W hW =>
    ⟨(HBX.out.below hW HBX.out.lt).cell 0, (HBX.out.below hW HBX.out.lt).cell 3⟩)
  clear hbx
  refine wp_region_X (fun W => Below wd.heap.size wd W) [9] (by kernel_rfl) (by rw [hwd]; exact Below.refl _ _) (fun hS => ?_)
  rw [hwd] at hS ⊢
  clear hwd
  refine wpAnyX_S (i := 0) (v := ?_) rfl (by kernel_rfl) (by kernel_rfl) (by kernel_rfl) (by kernel_rfl) (fun _ _ _ h => h) (Or.inl ⟨by rfl, ?_⟩) hS ?_
  rotate_left 1
  · (intro w' hw'; (first | rw [hw'] | (have hw2 := HSF.out w' hw') | skip); go_simp; (try with_reducible rfl))
  simp only [Act.put, List.setIfInBounds_toArray, List.set_cons_zero, List.set_cons_succ]
  refine wpAnyX_S (i := 1) (v := ?_) rfl (by kernel_rfl) (by kernel_rfl) (by kernel_rfl) (by kernel_rfl) (fun _ _ _ h => h) (Or.inl ⟨by rfl, ?_⟩) hS ?_
  rotate_left 1
  · (intro w' hw'; (first | rw [hw'] | (have hw2 := HSF.out w' hw') | skip); go_simp; (try with_reducible rfl))
  simp only [Act.put, List.setIfInBounds_toArray, List.set_cons_zero, List.set_cons_succ]
  refine wpAnyX_S (i := 4) (v := ?_) rfl (by kernel_rfl) (by kernel_rfl) (by kernel_rfl) (by kernel_rfl) (fun _ _ _ h => h) (Or.inl ⟨by rfl, ?_⟩) hS ?_
  rotate_left 1
  · (intro w' hw'; (first | rw [hw'] | (have hw2 := HSF.out w' hw') | skip); go_simp; (try with_reducible rfl))
  simp only [Act.put, List.setIfInBounds_toArray, List.set_cons_zero, List.set_cons_succ]
  refine wpAnyX_S (i := 5) (v := ?_) rfl (by kernel_rfl) (by kernel_rfl) (by kernel_rfl) (by kernel_rfl) (fun _ _ _ h => h) (Or.inl ⟨by rfl, ?_⟩) hS ?_
  rotate_left 1
  · (intro w' hw'; (first | rw [hw'] | (have hw2 := HSF.out w' hw') | skip); go_simp; (try with_reducible rfl))
  simp only [Act.put, List.setIfInBounds_toArray, List.set_cons_zero, List.set_cons_succ]
  refine wpAnyX_web [2, 3, 6, 7, 8] (fun k => if k = 8 then 3 else k + 4) (fun k => if k = 3 then [2] else if k = 6 then [3] else if k = 7 then [6] else []) (SealP w.heap.size (txtF p) d) _ _ 13 1 (by kernel_rfl) (by decide) (by decide) (by kernel_rfl) (by rfl) (by decide) ?_ ?_ ?_ _ hS
  · intro k hk v W W' _ hP hb
    simp only [List.mem_cons, List.not_mem_nil, or_false] at hk
    rcases hk with rfl | rfl | rfl | rfl | rfl
    · exact hP
    · obtain ⟨g, c, rfl, h⟩ := hP
      exact ⟨g, c, rfl, rds_lt h hb⟩
    · obtain ⟨g, rfl, h⟩ := hP
      exact ⟨g, rfl, rdss_lt h hb⟩
    · exact hP
    · obtain ⟨g, rfl, hg, h⟩ := hP
      exact ⟨g, rfl, hg, h.below hb h.lt⟩
  · intro k hk a W σ hW hag hdep
    simp only [List.mem_cons, List.not_mem_nil, or_false] at hk
    have hx' := HX.out.be (below_tr hEd hW)
    have e5 : a.tmps[5]?.getD undef = .slice pa p.length pc := ev_at ((hag 5 (by decide)).trans rfl)
    have e9 : a.tmps[9]?.getD undef = .slice da d.length dc := ev_at ((hag 9 (by decide)).trans rfl)
    rcases hk with rfl | rfl | rfl | rfl | rfl
    all_goals simp only [List.getElem?_cons_succ, List.getElem?_cons_zero, Option.getD_some]
    · refine wp_of_call (f := 47) (args := #[.slice pa p.length pc]) (by go_simp) (text_any pa p.length pc p W (by have := hx'.plen; simp only at this; omega) hx'.pcap.1 hx'.slen hx'.path) (fun e w1 hq => ?_)
      obtain ⟨rfl, hB⟩ := hq
      exact ⟨_, rfl, _, rfl, hB, rfl⟩
    · obtain ⟨e6, h6⟩ := hdep 2 (by decide)
      have e6 : a.tmps[6]?.getD undef = .string (txtF p) := ev_at (e6.trans h6)
      have hcv := conv_bys (txtF p) W
      exact wp_of_run (by go_simp; rfl) ⟨_, rfl, bys_below _ _, _, _, rfl, bys_reads _ _⟩
    · obtain ⟨e7, g, c, h7, hr⟩ := hdep 3 (by decide)
      have e7 : a.tmps[7]?.getD undef = .slice (some ⟨g, 0, none⟩) (txtF p).size c := ev_at (e7.trans h7)
      refine wp_of_run (v := .slice (some ⟨W.heap.size, 0, none⟩) 2 2) (w' := W.alloc (.cells #[.slice (some ⟨g, 0, none⟩) (txtF p).size c, .slice da d.length dc] 22)) (by go_simp) ⟨_, rfl, below_al (Below.refl _ _) _, _, rfl, ?_⟩
      have hb := below_al (Below.refl W.heap.size W) (.cells #[.slice (some ⟨g, 0, none⟩) (txtF p).size c, .slice da d.length dc] 22)
      have hB := Blk.new W 22 #[.slice (some ⟨g, 0, none⟩) (txtF p).size c, .slice da d.length dc]
      rw [← bys_len] at hB hb ⊢
      exact rdss_two hB hB.lt (rds_lt hr hb) (rds_lt (rds_of_reads hx'.data) hb)
    · obtain ⟨e10, g, h10, hr⟩ := hdep 6 (by decide)
      have e10 : a.tmps[10]?.getD undef = .slice (some ⟨g, 0, none⟩) 2 2 := ev_at (e10.trans h10)
      refine wp_of_call (f := 54) (args := #[.slice (some ⟨g, 0, none⟩) 2 2]) (by go_simp) (framed_any (some ⟨g, 0, none⟩) 2 [bys (txtF p), d] (fun b => b < W.heap.size) W ?_ (by simp) (HT.out.below (below_tr hEd hW) HT.out.1) hr (fun _ h => h)) (fun e w1 hq => ?_)
      · have := hx'.dlen
        have := HS.out
        simp only [frameF, len4, List.flatMap_cons, List.flatMap_nil, List.length_append, List.length_map, List.length_range, bys_len, List.length_nil] at *
        omega
      · obtain ⟨rfl, hB⟩ := hq
        exact ⟨_, rfl, _, rfl, hB, rfl⟩
    · exact wp_of_run (v := .pointer (some ⟨W.heap.size, 0, none⟩)) (w' := W.alloc (.cells #[.int .u8 0, .int .u8 0, .int .u8 0, .int .u8 0, .int .u8 0, .int .u8 0, .int .u8 0, .int .u8 0, .int .u8 0, .int .u8 0, .int .u8 0, .int .u8 0, .int .u8 0, .int .u8 0, .int .u8 0, .int .u8 0, .int .u8 0, .int .u8 0, .int .u8 0, .int .u8 0, .int .u8 0, .int .u8 0, .int .u8 0, .int .u8 0, .int .u8 0, .int .u8 0, .int .u8 0, .int .u8 0, .int .u8 0, .int .u8 0, .int .u8 0, .int .u8 0] 89)) (by go_simp) ⟨_, rfl, below_al (Below.refl _ _) _, _, rfl, (below_tr hEd hW).size, Blk.new _ _ _⟩
  · intro σ W hW hP
    obtain ⟨g, h8, hgw, hB⟩ := hP 8 (by decide)
    have h7 : σ 7 = .agg (u8s (shaF (frameF [bys (txtF p), d]))).toArray := hP 7 (by decide)
    have hEW := below_tr hEd hW
    simp only [putL, List.foldl]
    rw [h7, h8]
    simp only [Nat.reduceEqDiff, if_true, if_false, Nat.reduceAdd]
    simp only [Act.put, List.setIfInBounds_toArray, List.set_cons_zero, List.set_cons_succ]
    have h32 : (u8s (shaF (frameF [bys (txtF p), d]))).length = 32 := by rw [u8s_len, shaF_len]
    obtain ⟨D, hD⟩ : ∃ D, shaF (frameF [bys (txtF p), d]) = D := ⟨_, rfl⟩
    rw [hD] at h32 ⊢
    have hD32 : D.length = 32 := by rw [← hD, shaF_len]
    refine wpAnyX_tailF [9] (by kernel_rfl) (by rfl) (by rfl) (by rfl) ?_
    simp only [List.filterMap_cons, List.filterMap_nil, List.getElem?_cons_succ, List.getElem?_cons_zero]
    refine wpList_store_all rfl 89 (.tmp 3) (.tmp 11) rfl g 89 #[.int .u8 0, .int .u8 0, .int .u8 0, .int .u8 0, .int .u8 0, .int .u8 0, .int .u8 0, .int .u8 0, .int .u8 0, .int .u8 0, .int .u8 0, .int .u8 0, .int .u8 0, .int .u8 0, .int .u8 0, .int .u8 0, .int .u8 0, .int .u8 0, .int .u8 0, .int .u8 0, .int .u8 0, .int .u8 0, .int .u8 0, .int .u8 0, .int .u8 0, .int .u8 0, .int .u8 0, .int .u8 0, .int .u8 0, .int .u8 0, .int .u8 0, .int .u8 0].toList (u8s D) hB rfl rfl (by rw [h32]; rfl) (by rw [h32]; exact digInfoQ) (u8s_one _) ?_
    intro w2 hB2 hG hsz
    have hE2 := hEW.grown hG hEW.size (fun g' h' => by injection h' with h'; omega)
    have HR := Sl.mk (show RdS w2 (fun b => b < w2.heap.size) (some ⟨g, 0, none⟩) (D.take 8) from rd_cells hB2.lt (fun j hj => by
      rw [hB2.cell j]
      rw [List.length_take] at hj
      have : j < D.length := by omega
      simp [u8s, this]
      rw [List.getElem?_take_of_lt (by omega)]
      simp [this]))
    have hlt := hB2.lt
    have HDD := Sl.mk hD
    clear hD hP h7 h8 hB hB2 hG hgw HSF HBX HX HE HS HT hEW hW
    go_wp2_with fail
    refine NoPanic.normal ?_
    go_wp2_with fail
    go_ret
    exact ⟨g, _, rfl, by rw [HDD.out]; exact HR.out, hE2⟩

end Go.Proofs.YticcphppnmoogaaGreatDoor
