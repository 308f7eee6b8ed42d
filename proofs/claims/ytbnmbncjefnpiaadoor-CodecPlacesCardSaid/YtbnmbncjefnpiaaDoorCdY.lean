/-
  The contract of Build (the tokens' lists).
-/
import Derived.Test.YtbnmbncjefnpiaaDoorCdX
import Derived.Test.YtbnmbncjefnpiaaDoorCdIn
namespace Go.Proofs.YtbnmbncjefnpiaaDoor
open Go.RowKit
attribute [local go_sem ↓] Go.wp_at_zero Go.wp_at_succ

set_option maxRecDepth 100000 in
theorem of_nil (w : World) :
    Calls Tryd.prog 18 #[.slice none 0 0] w fun e w' => e = .returned (.agg #[.int .i64 2, .int .i64 0, .slice none 0 0, .slice none 0 0]) ∧ Below w.heap.size w w' := by
  have hB0 := below_al (below_al (Below.refl w.heap.size w) (.cells #[.int .i64 0, .int .i64 0, .slice none 0 0, .slice none 0 0] 26)) (.cells #[.int .i64 2, .int .i64 0, .slice none 0 0, .slice none 0 0] 26)
  have hZ0 := (Blk.new w 26 #[.int .i64 0, .int .i64 0, .slice none 0 0, .slice none 0 0]).alloc (.cells #[.int .i64 2, .int .i64 0, .slice none 0 0, .slice none 0 0] 26)
  have hX0 : Blk ((w.alloc (.cells #[.int .i64 0, .int .i64 0, .slice none 0 0, .slice none 0 0] 26)).alloc (.cells #[.int .i64 2, .int .i64 0, .slice none 0 0, .slice none 0 0] 26)) (w.heap.size + 1) 26 #[.int .i64 2, .int .i64 0, .slice none 0 0, .slice none 0 0] := Blk.new' (by simp)
  have hws : (w.alloc (.cells #[.int .i64 0, .int .i64 0, .slice none 0 0, .slice none 0 0] 26)).heap.size = w.heap.size + 1 := by simp
  have HB0 := Sl.mk hB0
  clear hB0
  go_enter Tryd.func18, Tryd.ntmps18
  go_wp2_with fail
  go_loopw [9] (fun v9 wr => v9 = .int .i64 0 ∧ Blk wr (w.heap.size + 1) 26 #[.int .i64 2, .int .i64 0, .slice none 0 0, .slice none 0 0] ∧ Blk wr w.heap.size 26 #[.int .i64 0, .int .i64 0, .slice none 0 0, .slice none 0 0] ∧ Below w.heap.size w wr) (fun _ _ => 0)
  case atStart => exact ⟨rfl, hX0, hZ0, HB0.out⟩
  case round =>
    obtain ⟨rfl, hX, hZ, hB⟩ := hrel
    clear hX0 hZ0
    go_wp2_with (first | refine ld_vx0 hX rfl (.tmp 3) rfl rfl rfl ?_ | refine st_vx hZ rfl (.tmp 2) (.tmp 21) rfl 2 0 none 0 0 none 0 0 rfl rfl rfl ?_)
    intro w4 hZ4 hG4 _
    have hE4 := below_only hB hG4 hB.size (by omega)
    clear hG4
    go_wp2_with fail
    exact bodyPost_ret (v := .agg #[.int .i64 2, .int .i64 0, .slice none 0 0, .slice none 0 0]) (res_cell Tryd.results18 _ _ _ rfl hZ4 Tryd.underlying26 vxSize) rfl ⟨rfl, hE4⟩

def tkf (l : List Tx) (i : Nat) : Bs := ((l.map Tx.t).take i).foldl stepB ⟨[[]], true, 1⟩
def BldPost (w : World) (q : List Tk) (e : Ending) (w' : World) : Prop := ∃ x : Vx, e = .returned (.tuple #[.agg (vxC x).toArray, .bool (runB q).ok, .int .i64 (runB q).d]) ∧ x.v = valB q ∧ VxOk w' (fun g => w.heap.size ≤ g ∧ g < w'.heap.size) x ∧ Below w.heap.size w w'
/-- What holds at the loop's head. -/
structure Hd (wr : World) (base : Nat) (A : Option Addr) (n c : Nat) (os : List Opn) (q : Bs) : Prop where
  stk : Stk wr base A n c os
  map : os.map (fun o => vsOf o.l) = q.s.reverse
  ne : os ≠ []

theorem tkSize : (Tryd.prog.info? 51).map (·.size) = some 3 := by kernel_rfl
theorem ld_tx {ops : Array Oper} {rest : List Oper} {op : Oper} {a : Act} {w : World} {Q : Exit → Act → World → Prop} {ad : Addr} {k n : Int} {p : Option Addr} {q c : Nat} (hc : ∀ j v, [Value.int .i64 k, .int .i64 n, .slice p q c][j]? = some v → w.cell? (ad.add j) = some v) (hgd : op.guard = none) (y : Operand) (ho : op.op = .load 51 y) (hy : a.eval y = .pointer (some ad))
    (h : wpList Tryd.prog ops Q rest (a.put op.dst (.agg #[.int .i64 k, .int .i64 n, .slice p q c])) w) : wpList Tryd.prog ops Q (op :: rest) a w :=
  wpList_load_at hgd 51 y ho _ hy [.int .i64 k, .int .i64 n, .slice p q c] _ hc Tryd.underlying51 rfl (by rw [tkSize]; rfl) h
theorem inv_tkf {l : List Tx} (h : ∀ x ∈ l, -9223372036854775808 ≤ x.t.n ∧ x.t.n ≤ 9223372036854775807) (i : Nat) (hi : i ≤ l.length) : Inv (tkf l i) i := by
  have h0 : Inv ⟨[[]], true, 1⟩ 0 := ⟨by simp, by simp [dS, depL], by simp [aS, allL], by simp [eS, encL], by simp, by simp⟩
  have h1 := inv_run ((l.map Tx.t).take i) _ 0 h0 fun t ht => by
    obtain ⟨x, hx, rfl⟩ := List.mem_map.1 (List.mem_of_mem_take ht)
    exact h x hx
  have e : ((l.map Tx.t).take i).length = i := by simp; omega
  rw [e, Nat.zero_add] at h1
  exact h1
theorem tkf_succ {l : List Tx} {i : Nat} {x : Tx} (h : l[i]? = some x) : tkf l (i + 1) = stepB (tkf l i) x.t := by
  unfold tkf
  have hi : i < (l.map Tx.t).length := by simp; exact (List.getElem?_eq_some_iff.1 h).1
  have e : (l.map Tx.t)[i]'hi = x.t := by simp; rw [(List.getElem?_eq_some_iff.1 h).2]
  rw [List.take_succ_eq_append_getElem hi, e, List.foldl_append]
  rfl

def Pushed (w0 w2 : World) (wz m cs gs : Nat) (ps : List Opn) (o : Opn) (leaf : Vc) (wx : World) : Prop := ∃ o' : Opn, Stk wx (wz + 1) (some ⟨gs, 0, none⟩) m cs (ps ++ [o']) ∧ vsOf o'.l = vsOf o.l ++ [leaf] ∧ Below (wz + 1) w0 wx ∧ Blk wx wz 26 #[.int .i64 0, .int .i64 0, .slice none 0 0, .slice none 0 0] ∧ w2.heap.size ≤ wx.heap.size
theorem pushed_end {w0 w2 w6 W : World} {wz m cs gs gx cx : Nat} {ps : List Opn} {op : Option Addr} {ol : List Vx} {oc : Nat} {x : Vx} (hk : Stk W (wz + 1) (some ⟨gs, 0, none⟩) m cs (ps ++ [⟨some ⟨gx, 0, none⟩, ol ++ [x], cx⟩]) ∧ Below (wz + 1) w6 W)
    (he : Below (wz + 1) w0 w6 ∧ w2.heap.size ≤ w6.heap.size ∧ Blk w6 wz 26 #[.int .i64 0, .int .i64 0, .slice none 0 0, .slice none 0 0]) : Pushed w0 w2 wz m cs gs ps ⟨op, ol, oc⟩ x.v W :=
  ⟨_, hk.1, by show vsOf (ol ++ [x]) = _; rw [vsOf_app]; rfl, he.1.trans hk.2, he.2.2.below hk.2 (Nat.lt_succ_self _), Nat.le_trans he.2.1 hk.2.size⟩
theorem free_new {w w' : World} {base n c : Nat} {A : Option Addr} {os : List Opn} {x : Vx} (h : Stk w base A n c os) (hb : base ≤ w.heap.size) (hx : VxOk w' (fun g => w.heap.size ≤ g ∧ g < w'.heap.size) x) : VxOk w' (Free w' base (Value.slice A n c).ownBlock os) x :=
  VxOk.mono (fun g hg => ⟨by omega, hg.2, fun e => by have := (h.row.lt g e).2; omega, fun o ho e => by have := (h.lt ho e).2; omega⟩) x hx
theorem free_be {w w' : World} {base : Nat} {s : Option Nat} {os : List Opn} {x : Vx} (hx : VxOk w (Free w base s os) x) (hb : Below w.heap.size w w') : VxOk w' (Free w' base s os) x :=
  VxOk.mono (fun _ hg => ⟨hg.1, Nat.lt_of_lt_of_le hg.2.1 hb.size, hg.2.2⟩) x (VxOk.keep (fun _ hp => hb.cell hp.2.1) x hx)

theorem all_one {cs : Array Value} {x : Vx} (h : cs.toList = vxC x) : cs.all (·.oneCell') = true := by
  have e : cs = (vxC x).toArray := by rw [← h]
  rw [e]
  exact all_oneCell_toArray (vxC_one x)
theorem tok_ok {wr wd : World} {base n c mq c3 : Nat} {A A3 : Option Addr} {os : List Opn} {b : List Nat} {k : Int} (h : Stk wr base A n c os) (ho : wd.ownsRow (wr.heap.size + 1) 5 1 (.slice A3 mq c3) mq (u8s b)) (hlen : b.length = mq) (hq : mq ≤ 100) (hb : base ≤ wr.heap.size)
    (k1 : -9223372036854775808 ≤ k) (k2 : k ≤ 9223372036854775807) (hby : ∀ x ∈ b, x < 256) : VxOk wd (Free wd base (Value.slice A n c).ownBlock os) (.mk k k A3 b c3 none [] 0) := by
  subst hlen
  refine VxOk.iff.2 ⟨RdC.own ho fun g _ h1 h2 => ⟨by omega, h2, fun e => by have := (h.row.lt g e).2; omega, fun o ho e => by have := (h.lt ho e).2; omega⟩, RdC.nil, ⟨k1, k2, k1, k2, ownCapS ho, ⟨Nat.le_refl _, by simp⟩, by omega, by simp, hby⟩, fun x hx => nomatch hx⟩
theorem bys_strN {b : List Nat} (h : ∀ x ∈ b, x < 256) : bys (strN b) = b := by
  unfold bys strN
  simp only [List.map_map]
  conv => rhs; rw [← List.map_id b]
  refine List.map_congr_left fun x hx => ?_
  simp
  exact h x hx
theorem step_open {q : Bs} {t : Tk} (h : t.r = 2) : (stepB q t).s = [] :: q.s ∧ (stepB q t).ok = q.ok ∧ (stepB q t).d = max q.d (q.s.length + 1) := by
  unfold stepB
  rw [if_neg (by omega), if_pos h]
  exact ⟨rfl, rfl, rfl⟩
theorem step_close {q : Bs} {t : Tk} (h : t.r = 3) : (stepB q t).s = closeT q.s ∧ (stepB q t).ok = q.ok ∧ (stepB q t).d = q.d := by
  unfold stepB
  rw [if_neg (by omega), if_neg (by omega), if_pos h]
  exact ⟨rfl, rfl, rfl⟩
theorem step_bad {q : Bs} {t : Tk} (h : t.r = 4) : (stepB q t).s = addT (leafT t) q.s ∧ (stepB q t).ok = (q.ok && (decide (t.n = 0) && decide (t.b100 = []))) ∧ (stepB q t).d = if t.n = 2 then max q.d (q.s.length + 1) else q.d := by
  unfold stepB
  rw [if_neg (by omega), if_neg (by omega), if_neg (by omega)]
  exact ⟨rfl, rfl, rfl⟩
theorem hd_len {wr : World} {base m cs : Nat} {As : Option Addr} {os : List Opn} {q : Bs} (h : Hd wr base As m cs os q) : q.s.length = m := by
  have h1 := congrArg List.length h.map
  rw [List.length_map, List.length_reverse, h.stk.len] at h1
  exact h1.symm
theorem hd_close {ps : List Opn} {o p p' : Opn} {s : List (List Vc)} (h : (ps ++ [p, o]).map (fun o => vsOf o.l) = s.reverse) (hm : vsOf p'.l = vsOf p.l ++ [.mk 2 0 [] (vsOf o.l)]) : (ps ++ [p']).map (fun o => vsOf o.l) = (closeT s).reverse ∧ 2 ≤ s.length := by
  have h2 := congrArg List.reverse h
  rw [List.reverse_reverse] at h2
  rw [← h2]
  simp [closeT, hm]
theorem close_end {w0 w2 W : World} {wz M cs gs gx cx : Nat} {ps : List Opn} {o p : Opn} {s : List (List Vc)} (hk : Stk W (wz + 1) (some ⟨gs, 0, none⟩) M cs (ps ++ [⟨some ⟨gx, 0, none⟩, p.l ++ [o.x], cx⟩])) (hb : Below (wz + 1) w0 W)
    (hz : Blk W wz 26 #[.int .i64 0, .int .i64 0, .slice none 0 0, .slice none 0 0]) (hm : (ps ++ ([p] ++ [o])).map (fun o => vsOf o.l) = s.reverse) (hw : w2.heap.size ≤ W.heap.size) :
    Stk W (wz + 1) (some ⟨gs, 0, none⟩) M cs (ps ++ [⟨some ⟨gx, 0, none⟩, p.l ++ [o.x], cx⟩]) ∧ Below (wz + 1) w0 W ∧ Blk W wz 26 #[.int .i64 0, .int .i64 0, .slice none 0 0, .slice none 0 0] ∧
      ((ps ++ [(⟨some ⟨gx, 0, none⟩, p.l ++ [o.x], cx⟩ : Opn)]).map (fun o => vsOf o.l) = (closeT s).reverse ∧ 2 ≤ s.length) ∧ w2.heap.size ≤ W.heap.size :=
  ⟨hk, hb, hz, hd_close hm (by show vsOf (p.l ++ [o.x]) = _; rw [vsOf_app]; rfl), hw⟩
theorem topB_close {s : List (List Vc)} (h : 2 ≤ s.length) : topB (closeT s) = topB s := by
  unfold topB
  rw [close_len, if_pos h]
  obtain ⟨k, hk⟩ : ∃ k, s.length = k + 2 := ⟨s.length - 2, by omega⟩
  rw [hk]
  rfl
theorem close_tail : ∀ s : List (List Vc), ∀ l ∈ (closeT s).tail, l ∈ s.tail
  | [], _, h => nomatch h
  | [_], _, h => nomatch h
  | _ :: _ :: _, _, h => List.mem_cons_of_mem _ h
theorem few_two {ps : List Opn} {p o : Opn} {s : List (List Vc)} (h : ((ps ++ [p]) ++ [o]).map (fun o => vsOf o.l) = s.reverse) (hf : ∀ l ∈ s.tail, l.length ≤ 60) : p.l.length ≤ 60 := by
  have h2 := congrArg List.reverse h
  rw [List.reverse_reverse] at h2
  have h3 := hf (vsOf p.l) (by rw [← h2]; simp)
  rwa [vsOf_len] at h3
theorem top_of {o : Opn} {s : List (List Vc)} (h : ([] ++ [o] : List Opn).map (fun o => vsOf o.l) = s.reverse) : topB s = vsOf o.l := by
  have h2 := congrArg List.reverse h
  rw [List.reverse_reverse] at h2
  rw [← h2]
  rfl
theorem hd_push {wr wx : World} {base m cs : Nat} {As : Option Addr} {ps : List Opn} {o o' : Opn} {l : List Tx} {i : Nat} {x : Tx} {leaf : Vc} (h : Hd wr base As m cs (ps ++ [o]) (tkf l i)) (hx : l[i]? = some x) (hs : Stk wx base As m cs (ps ++ [o']))
    (hm : vsOf o'.l = vsOf o.l ++ [leaf]) (hq : (stepB (tkf l i) x.t).s = addT leaf (tkf l i).s) : Hd wx base As m cs (ps ++ [o']) (tkf l (i + 1)) := by
  refine ⟨hs, ?_, by simp⟩
  rw [tkf_succ hx, hq]
  have h1 := h.map
  simp only [List.map_append, List.map_cons, List.map_nil] at h1 ⊢
  have h2 := congrArg List.reverse h1
  rw [List.reverse_reverse, List.reverse_append] at h2
  rw [← h2, hm]
  simp [addT]
theorem step_leaf {q : Bs} {t : Tk} (h : t.r = 0 ∨ t.r = 1) : (stepB q t).s = addT (leafT t) q.s ∧ (stepB q t).ok = q.ok ∧ (stepB q t).d = q.d := by
  unfold stepB
  rw [if_pos h]
  exact ⟨rfl, rfl, rfl⟩

set_option maxRecDepth 100000 in
set_option maxHeartbeats 40000000 in
theorem build_any (A : Option Addr) (n c : Nat) (l : List Tx) (w : World) (hI : Toks w A n l) :
    Calls Tryd.prog 6 #[.slice A n c] w (BldPost w (l.map Tx.t)) := by
  have hN := hI.n_
  have hZ0 := Blk.new w 26 #[.int .i64 0, .int .i64 0, .slice none 0 0, .slice none 0 0]
  have hE0 := below_al (Below.refl w.heap.size w) (.cells #[.int .i64 0, .int .i64 0, .slice none 0 0, .slice none 0 0] 26)
  have hws : (w.alloc (.cells #[.int .i64 0, .int .i64 0, .slice none 0 0, .slice none 0 0] 26)).heap.size = w.heap.size + 1 := by simp
  have HN := Sl.mk hN
  have HI := Sl.mk hI
  clear hI hN
  obtain ⟨w0, hw0⟩ : ∃ w0, w.alloc (.cells #[.int .i64 0, .int .i64 0, .slice none 0 0, .slice none 0 0] 26) = w0 := ⟨_, rfl⟩
  rw [hw0] at hZ0 hE0 hws
  have HW0 := Sl.mk hw0
  have hE0' := hE0
  clear hw0
  go_enter Tryd.func6, Tryd.ntmps6
  go_wp2_with fail
  rw [HW0.out]
  refine (of_nil w0).mono ?_
  rintro e w1 ⟨rfl, hB1⟩
  have hZ1 := hZ0.be hB1
  have hE1 := below_tr hE0 hB1
  have hs1 := hB1.size
  rw [hws] at hs1 hB1
  clear hZ0 hE0 HW0
  have hwa := below_al (Below.refl w1.heap.size w1) (.cells #[.int .i64 2, .int .i64 0, .slice none 0 0, .slice none 0 0] 26)
  have hZ2 := hZ1.be hwa
  have hB2 : Below (w.heap.size + 1) w0 (w1.alloc (.cells #[.int .i64 2, .int .i64 0, .slice none 0 0, .slice none 0 0] 26)) := hB1.trans (hwa.mono hs1)
  have hE2 := below_tr hE1 hwa
  have HS2 := Sl.mk (show Stk (w1.alloc (.cells #[.int .i64 2, .int .i64 0, .slice none 0 0, .slice none 0 0] 26)) (w.heap.size + 1) (some ⟨w1.heap.size, 0, none⟩) 1 1 [⟨none, [], 0⟩] from
    ⟨World.ownsRow_lit w1 _ 1 hs1 (by unfold maxLen; omega) rfl, rfl, fun o ho => by
      obtain rfl : o = ⟨none, [], 0⟩ := by simpa using ho
      exact World.ownsRow_nil _ _ _ _, fun o ho => by
      obtain rfl : o = ⟨none, [], 0⟩ := by simpa using ho
      exact Nat.zero_le _, fun o ho => by
      obtain rfl : o = ⟨none, [], 0⟩ := by simpa using ho
      exact .inl rfl, by simp, fun o ho y hy => by
      obtain rfl : o = ⟨none, [], 0⟩ := by simpa using ho
      exact nomatch hy⟩)
  obtain ⟨w2, hw2⟩ : ∃ w2, w1.alloc (.cells #[.int .i64 2, .int .i64 0, .slice none 0 0, .slice none 0 0] 26) = w2 := ⟨_, rfl⟩
  rw [hw2] at hZ2 hB2 hE2 HS2
  have HW2 := Sl.mk hw2
  clear hw2 hZ1 hE1 hB1 hwa hs1
  go_wp2_with fail
  rw [HW2.out]
  have HT := Sl.mk (HI.out.be hE2)
  have HE0 := Sl.mk hE0'
  clear hE0'
  have HNB := Sl.mk (show ∀ x ∈ l, -9223372036854775808 ≤ x.t.n ∧ x.t.n ≤ 9223372036854775807 from fun x hx => ⟨(HI.out.ok x hx).n1, (HI.out.ok x hx).n2⟩)
  obtain ⟨u0, hu0, hu1, hu2, hu3⟩ := info_parts u8Info
  obtain ⟨i0, hi0, hz0, hz1, hz2⟩ := info_parts vxInfo
  have HU := Sl.mk (And.intro hu0 (And.intro hu1 (And.intro hu2 hu3)))
  have HINF := Sl.mk (And.intro hi0 (And.intro hz0 (And.intro hz1 hz2)))
  clear hu0 hu1 hu2 hu3 hi0 hz0 hz1 hz2
  go_loopw [5, 6, 7, 8] (fun v5 v6 v7 v8 wr => ∃ (i m cs : Nat) (As : Option Addr) (os : List Opn) (okq : Bool) (dq : Nat), i ≤ n ∧ i ≤ 60 ∧ m ≤ 61 ∧ v8 = .int .i64 i ∧ v5 = .slice As m cs ∧ v6 = .bool okq ∧ v7 = .int .i64 dq ∧ Blk wr w.heap.size 26 #[.int .i64 0, .int .i64 0, .slice none 0 0, .slice none 0 0] ∧ Below (w.heap.size + 1) w0 wr ∧
      Sl (Hd wr (w.heap.size + 1) As m cs os (tkf l i) ∧ okq = (tkf l i).ok ∧ dq = (tkf l i).d ∧ w2.heap.size ≤ wr.heap.size)) (fun _ _ _ v8 _ => n - (intOf v8).toNat)
  case atStart => exact ⟨0, 1, 1, some ⟨w1.heap.size, 0, none⟩, [⟨none, [], 0⟩], true, 1, Nat.zero_le _, Nat.zero_le _, by omega, rfl, rfl, rfl, rfl, hZ2, hB2, ⟨⟨HS2.out, rfl, by simp⟩, rfl, rfl, Nat.le_refl _⟩⟩
  case round =>
    obtain ⟨i, m, cs, As, os, okq, dq, hin, hi60, hm61, rfl, rfl, rfl, rfl, hZ, hB, HS⟩ := hrel
    by_cases hi : i < n ∧ i < 60
    · obtain ⟨x, hx⟩ : ∃ x, l[i]? = some x := ⟨_, List.getElem?_eq_getElem (by rw [HN.out]; exact hi.1)⟩
      have hEr : Below w.heap.size w wr := below_only HE0.out (only_below (only_refl _ (some w.heap.size)) (Below.refl _ _)) HE0.out.size (Nat.le_refl _) |>.trans (hB.mono (Nat.le_succ _))
      obtain ⟨ad, hA, hadb, hld, hok⟩ := (HI.out.be hEr).at_ hx
      subst hA
      have hlt := hi.1
      have hl6 := hi.2
      have hlti : (i : Int) < (n : Int) := by omega
      have hl6i : (i : Int) < 60 := by omega
      have HX := Sl.mk hx
      obtain ⟨⟨tk, tn, tb⟩, tp, tc⟩ := x
      obtain ⟨q, hq⟩ : ∃ q, tb.length = q := ⟨_, rfl⟩
      have hld' : ∀ j v, [Value.int .i64 tk, .int .i64 tn, .slice tp q tc][j]? = some v → wr.cell? ((ad.add (i * 3)).add j) = some v := by rw [← hq]; exact hld
      have hrow := hok.row
      have hcap := hok.cap
      simp only at hrow hcap
      rw [hq] at hrow hcap
      have HOK := Sl.mk hok
      have HQ := Sl.mk hq
      have HTN := Sl.mk (show -9223372036854775808 ≤ tn ∧ tn ≤ 9223372036854775807 from ⟨HOK.out.n1, HOK.out.n2⟩)
      clear hx hld hok hq hi
      obtain ⟨mq, hmq⟩ : ∃ mq, min q 100 = mq := ⟨_, rfl⟩
      have hmin : min (q : Int) 100 = (mq : Int) := by omega
      have hmqq : mq ≤ q := by omega
      have hmq1 : mq ≤ 100 := by omega
      have hmqc : (mq : Int) ≤ (tc : Int) := by omega
      have HMQ := Sl.mk hmq
      have HBY := Sl.mk (show ∀ b ∈ tb.take mq, b < 256 from fun b hb => HOK.out.by_ b (List.mem_of_mem_take hb))
      have HTK := Sl.mk (show tb.take 100 = tb.take mq by
        rw [← hmq]
        rcases Nat.le_total q 100 with h | h
        · rw [Nat.min_eq_left h, List.take_of_length_le (by rw [HQ.out]; exact h), List.take_of_length_le (by rw [HQ.out]; exact Nat.le_refl _)]
        · rw [Nat.min_eq_right h])
      clear hmq
      have hws1 : (wr.alloc (.cells #[.int .i64 tk, .int .i64 tn, .slice tp q tc] 51)).heap.size = wr.heap.size + 1 := by simp
      have hoe := own_empty (wr.alloc (.cells #[.int .i64 tk, .int .i64 tn, .slice tp q tc] 51)) 5 1
      rw [hws1] at hoe
      have hws2 : ((wr.alloc (.cells #[.int .i64 tk, .int .i64 tn, .slice tp q tc] 51)).alloc (.cells #[] 5)).heap.size = wr.heap.size + 2 := by simp
      obtain ⟨hu0, hu1, hu2, hu3⟩ := HU.out
      have hwt := below_al (below_al (Below.refl wr.heap.size wr) (.cells #[.int .i64 tk, .int .i64 tn, .slice tp q tc] 51)) (.cells #[] 5)
      have hXt := (Blk.new wr 51 #[.int .i64 tk, .int .i64 tn, .slice tp q tc]).alloc (.cells #[] 5)
      have hrd := (reads_take hrow hmqq).below hwt
      rw [show (u8s tb).take mq = u8s (tb.take mq) by simp [u8s]] at hrd
      go_wp2_with (first | refine ld_tx hld' rfl (.tmp 28) rfl rfl ?_ | (at_builtin; refine wpList_append_anyG _ rfl (.tmp 30) (.tmp 37) 23 rfl (wr.heap.size + 1) 5 u0 (.int .u8 0) 1 1 Tryd.underlying23 hu0 hu1 hu2 hu3 rfl (by decide) _ 0 [] rfl hoe wr.heap.size tp mq tc (u8s (tb.take mq)) rfl hrd (u8s_one _) (by unfold maxLen; omega) (by omega) (by rw [hws2]; omega) ?_))
      intro v10 w3 hown3 hg3 _
      obtain ⟨A3, c3, rfl⟩ := ownForm hown3
      have hb3 : Below wr.heap.size wr w3 := hwt.grown hg3 (by rw [hws2]; exact Nat.le_add_right _ _) (fun g e => by have e2 : some (wr.heap.size + 1) = some g := e; injection e2 with e2; omega)
      have hX3 := hXt.grown hg3 (fun e => by have e2 : some wr.heap.size = some (wr.heap.size + 1) := e; injection e2 with e2; omega)
      have hsz3 := hg3.size
      rw [hws2] at hsz3
      have hZ3 := hZ.be hb3
      have hB3 := hB.trans (hb3.mono (by have := hB.size; omega))
      obtain ⟨hSt, hMp, hNe⟩ := HS.out.1
      have hos : ∃ ps o, os = ps ++ [o] := ⟨os.dropLast, os.getLast hNe, (List.dropLast_concat_getLast hNe).symm⟩
      obtain ⟨ps, o, rfl⟩ := hos
      obtain ⟨gs, rfl⟩ := hSt.form hNe
      have hSt3 := hSt.be hb3
      obtain ⟨M, hM⟩ : ∃ M, ps.length = M := ⟨_, rfl⟩
      have hmM : M + 1 = m := by have := hSt.len; simp at this; omega
      have hm1 : (m : Int) - 1 = (M : Int) := by omega
      have hMm : (M : Int) < (m : Int) := by omega
      have hM0 : (0 : Int) ≤ (M : Int) := by omega
      obtain ⟨U, hU⟩ : ∃ U : Nat, (tk % 18446744073709551616).toNat = U := ⟨_, rfl⟩
      have hU1 : IntKind.u64.wrap tk = (U : Int) := by
        rw [← hU]
        show tk % 18446744073709551616 = _
        omega
      have hUr : (⟨tk, tn, tb⟩ : Tk).r = U % 5 := by unfold Tk.r; rw [hU]
      have c0 := hX3.cell 0
      have c1 := hX3.cell 1
      have c2 := hX3.cell 2
      have HSt3 := Sl.mk hSt3
      have HOWN3 := Sl.mk hown3
      have HB3 := Sl.mk hB3
      have HZ3 := Sl.mk hZ3
      have HMP := Sl.mk hMp
      have HUR := Sl.mk hUr
      have HMM := Sl.mk hmM
      have HM := Sl.mk hM
      have HFEW := Sl.mk (show o.l.length ≤ 60 by
        have h1 := (inv_tkf HNB.out i (by rw [HN.out]; omega)).few (vsOf o.l) (by
          rw [← List.mem_reverse, ← hMp]
          exact List.mem_map.2 ⟨o, by simp, rfl⟩)
        rw [vsOf_len] at h1
        omega)
      have hsr := HS.out.2.2.2
      have hsz3' : wr.heap.size ≤ w3.heap.size := by omega
      have hsz3'' : wr.heap.size + 1 ≤ w3.heap.size := by omega
      clear hu0 hu1 hu2 hu3 hrd hwt hXt hg3 hoe hws1 hws2 hZ hB hEr hadb hld' hrow hcap hSt hMp hNe hSt3 hown3 hB3 hZ3 hUr hU hmin hmM hM
      by_cases r0 : U % 5 = 0
      · as_aux_lemma =>
        have hr : (U : Int) % 5 = 0 := by omega
        have HST := Sl.mk (step_leaf (q := tkf l i) (t := ⟨tk, tn, tb⟩) (.inl (by rw [HUR.out]; exact r0)))
        have HLF := Sl.mk (show (vxInt tn).v = leafT ⟨tk, tn, tb⟩ by unfold leafT; rw [if_pos (by rw [HUR.out]; exact r0)]; rfl)
        clear r0 HUR
        go_wp2_with fail
        obtain ⟨wd, hwd⟩ : ∃ wd, w3.drew = wd := ⟨_, rfl⟩
        have hSd : Stk wd (w.heap.size + 1) (some ⟨gs, 0, none⟩) m cs (ps ++ [o]) := by rw [← hwd]; exact HSt3.out.be (Below.refl _ _).drew
        have hXd : Blk wd wr.heap.size 51 #[.int .i64 tk, .int .i64 tn, .slice tp q tc] := by rw [← hwd]; exact hX3.drew
        have hZd : Blk wd w.heap.size 26 #[.int .i64 0, .int .i64 0, .slice none 0 0, .slice none 0 0] := by rw [← hwd]; exact HZ3.out.drew
        have hBd : Below (w.heap.size + 1) w0 wd := by rw [← hwd]; exact HB3.out.drew
        have hOd : wd.ownsRow (wr.heap.size + 1) 5 1 (.slice A3 mq c3) mq (u8s (tb.take mq)) := by rw [← hwd]; exact own_below HOWN3.out (Below.refl _ _).drew
        have hzd : w2.heap.size ≤ wd.heap.size := by rw [← hwd]; exact Nat.le_trans hsr hsz3'
        have hzr : wr.heap.size + 1 ≤ wd.heap.size := by rw [← hwd]; exact hsz3''
        have HSF : Sl (∀ W, Below wd.heap.size wd W → (W.cell? ⟨gs, M * 4 + 3, none⟩ = some o.row ∧ W.cell? ⟨wr.heap.size, 0, none⟩ = some (.int .i64 tk) ∧ W.cell? ⟨wr.heap.size, 1, none⟩ = some (.int .i64 tn))) := Sl.mk (fun W hW => ⟨by have := (hSd.be hW).hdr.1; rw [HM.out] at this; exact this, (hXd.be hW).cell 0, (hXd.be hW).cell 1⟩)
        have HPM := Sl.mk (HM.out)
        have HSD := Sl.mk hSd
        have HBD := Sl.mk hBd
        have HZD := Sl.mk hZd
        have HOD := Sl.mk hOd
        have hML : M * 4 + 3 = M * 4 + 3 := rfl
        obtain ⟨op, ol, oc⟩ := o
        obtain ⟨L, hL⟩ : ∃ L, ol.length = L := ⟨_, rfl⟩
        have hor : (Opn.mk op ol oc).row = .slice op L oc := by unfold Opn.row; rw [hL]
        rw [hor] at HSF
        have HLL := Sl.mk hL
        have hL2 : L ≤ 60 := by have := HFEW.out; rw [← hL]; exact this
        have HOR := Sl.mk hor
        clear hX3 hSd hXd hZd hBd hOd hML hL hor c0 c1 c2
        refine wp_region_X (fun W => Below wd.heap.size wd W) [10, 11, 12, 13, 14, 15] (by kernel_rfl) (by rw [hwd]; exact Below.refl _ _) (fun hS => ?_)
        rw [hwd] at hS ⊢
        clear hwd
        refine wpAnyX_S (i := 0) (v := ?_) rfl (by kernel_rfl) (by kernel_rfl) (by kernel_rfl) (by kernel_rfl) (fun _ _ _ h => h) (Or.inl ⟨by rfl, ?_⟩) hS ?_
        rotate_left 1
        · (intro w' hw'; (first | rw [hw'] | (have hw2 := HSF.out w' hw') | skip); go_simp; (try with_reducible rfl))
        simp only [Act.put, List.setIfInBounds_toArray, List.set_cons_zero, List.set_cons_succ]
        refine wpAnyX_S (i := 1) (v := ?_) rfl (by kernel_rfl) (by kernel_rfl) (by kernel_rfl) (by kernel_rfl) (fun _ _ _ h => h) (Or.inl ⟨by rfl, ?_⟩) hS ?_
        rotate_left 1
        · (intro w' hw'; (first | rw [hw'] | (have hw2 := HSF.out w' hw') | skip); go_simp; (try with_reducible rfl))
        simp only [Act.put, List.setIfInBounds_toArray, List.set_cons_zero, List.set_cons_succ]
        refine wpAnyX_S (i := 2) (v := ?_) rfl (by kernel_rfl) (by kernel_rfl) (by kernel_rfl) (by kernel_rfl) (fun _ _ _ h => h) (Or.inl ⟨by rfl, ?_⟩) hS ?_
        rotate_left 1
        · (intro w' hw'; (first | rw [hw'] | (have hw2 := HSF.out w' hw') | skip); go_simp; (try with_reducible rfl))
        simp only [Act.put, List.setIfInBounds_toArray, List.set_cons_zero, List.set_cons_succ]
        refine wpAnyX_S (i := 3) (v := ?_) rfl (by kernel_rfl) (by kernel_rfl) (by kernel_rfl) (by kernel_rfl) (fun _ _ _ h => h) (Or.inl ⟨by rfl, ?_⟩) hS ?_
        rotate_left 1
        · (intro w' hw'; (first | rw [hw'] | (have hw2 := HSF.out w' hw') | skip); go_simp; (try with_reducible rfl))
        simp only [Act.put, List.setIfInBounds_toArray, List.set_cons_zero, List.set_cons_succ]
        refine wpAnyX_S (i := 4) (v := ?_) rfl (by kernel_rfl) (by kernel_rfl) (by kernel_rfl) (by kernel_rfl) (fun _ _ _ h => h) (Or.inl ⟨by rfl, ?_⟩) hS ?_
        rotate_left 1
        · (intro w' hw'; (first | rw [hw'] | (have hw2 := HSF.out w' hw') | skip); go_simp; (try with_reducible rfl))
        simp only [Act.put, List.setIfInBounds_toArray, List.set_cons_zero, List.set_cons_succ]
        refine wpAnyX_S (i := 5) (v := ?_) rfl (by kernel_rfl) (by kernel_rfl) (by kernel_rfl) (by kernel_rfl) (fun _ _ _ h => h) (Or.inl ⟨by rfl, ?_⟩) hS ?_
        rotate_left 1
        · (intro w' hw'; (first | rw [hw'] | (have hw2 := HSF.out w' hw') | skip); go_simp; (try with_reducible rfl))
        simp only [Act.put, List.setIfInBounds_toArray, List.set_cons_zero, List.set_cons_succ]
        refine wpAnyX_S (i := 6) (v := ?_) rfl (by kernel_rfl) (by kernel_rfl) (by kernel_rfl) (by kernel_rfl) (fun _ _ _ h => h) (Or.inl ⟨by rfl, ?_⟩) hS ?_
        rotate_left 1
        · (intro w' hw'; (first | rw [hw'] | (have hw2 := HSF.out w' hw') | skip); go_simp; (try with_reducible rfl))
        simp only [Act.put, List.setIfInBounds_toArray, List.set_cons_zero, List.set_cons_succ]
        refine wpAnyX_S (i := 8) (v := ?_) rfl (by kernel_rfl) (by kernel_rfl) (by kernel_rfl) (by kernel_rfl) (fun _ _ _ h => h) (Or.inl ⟨by rfl, ?_⟩) hS ?_
        rotate_left 1
        · (intro w' hw'; (first | rw [hw'] | (have hw2 := HSF.out w' hw') | skip); go_simp; (try with_reducible rfl))
        simp only [Act.put, List.setIfInBounds_toArray, List.set_cons_zero, List.set_cons_succ]
        refine wpAnyX_twoL (i := 7) (j := 9) rfl rfl (by kernel_rfl) rfl rfl ?_ ?_
        · refine wp_of_call (f := 19) (args := #[.int .i64 tn]) (by go_simp) (int_any tn wd) (fun e w4 hq => ?_)
          obtain ⟨rfl, hb4⟩ := hq
          have hx4 := fun (_ : Stk wd (w.heap.size + 1) (some ⟨gs, 0, none⟩) m cs (ps ++ [⟨op, ol, oc⟩])) => vxInt_ok w4 (Free w4 (w.heap.size + 1) (some gs) (ps ++ [⟨op, ol, oc⟩])) tn HTN.out.1 HTN.out.2
          refine ⟨_, rfl, fun _ => hb4, ?_⟩
          simp only [Act.put, List.setIfInBounds_toArray, List.set_cons_zero, List.set_cons_succ]
          refine wpAnyX_oneL (k := 9) rfl (by kernel_rfl) rfl ?_
          refine wp_of_run (v := .slice (some ⟨w4.heap.size, 0, none⟩) 1 1) (w' := w4.alloc (.cells #[.int .i64 0, .int .i64 0, .slice none 0 0, .slice none 0 0] 26)) (by go_simp) ⟨fun _ => hb4.alloc hb4.size _, ?_⟩
          simp only [Act.put, List.setIfInBounds_toArray, List.set_cons_zero, List.set_cons_succ]
          have hb5 : Below wd.heap.size wd (w4.alloc (.cells #[.int .i64 0, .int .i64 0, .slice none 0 0, .slice none 0 0] 26)) := hb4.alloc hb4.size _
          have hz5 := Blk.new w4 26 #[.int .i64 0, .int .i64 0, .slice none 0 0, .slice none 0 0]
          have hx5 := free_be (hx4 HSD.out) (below_al (Below.refl w4.heap.size w4) (.cells #[.int .i64 0, .int .i64 0, .slice none 0 0, .slice none 0 0] 26))
          obtain ⟨g5, hg5⟩ : ∃ g5, w4.heap.size = g5 := ⟨_, rfl⟩
          obtain ⟨w5, hw5⟩ : ∃ w5, w4.alloc (.cells #[.int .i64 0, .int .i64 0, .slice none 0 0, .slice none 0 0] 26) = w5 := ⟨_, rfl⟩
          rw [hw5] at hb5 hz5 hx5 ⊢
          rw [hg5] at hz5 ⊢
          clear hw5 hg5 hb4 hx4 hS
          obtain ⟨hz0, hz1, hz2, hz3⟩ := HINF.out
          have hS5 := HSD.out.be hb5
          have hkid : w5.ownsRow (w.heap.size + 1) 26 4 (.slice op L oc) L (vxsC ol) := by
            have h := hS5.kid ⟨op, ol, oc⟩ (by simp)
            have e : (Opn.mk op ol oc).l.length = L := HLL.out
            rw [HOR.out, e] at h
            exact h
          have hRz : Reads w5 w5.heap.size 4 (some ⟨g5, 0, none⟩) 1 [.int .i64 0, .int .i64 0, .slice none 0 0, .slice none 0 0] := ⟨rfl, fun _ => ⟨_, rfl, hz5.lt, fun j u hu => by rw [ad_zero, hz5.cell j]; simpa using hu⟩⟩
          have hsz5 := hb5.size
          have hbs := HBD.out.size
          refine wpAnyX_oneL (k := 10) rfl (by kernel_rfl) rfl ?_
          refine wp_append_any w5 (.tmp 89) (.tmp 94) 24 rfl (w.heap.size + 1) 26 i0 (.agg #[.int .i64 0, .int .i64 0, .slice none 0 0, .slice none 0 0]) 4 64 Tryd.underlying24 hz0 hz1 hz2 hz3 rfl (by decide) (.slice op L oc) L (vxsC ol) rfl hkid w5.heap.size (some ⟨g5, 0, none⟩) 1 1 _ rfl hRz (vxC_one (.mk 0 0 none [] 0 none [] 0)) (by unfold maxLen; omega) (by omega) (by omega) (fun v6 w6 ho6 hg6 hv6 => ?_)
          obtain ⟨gx, cx, rfl, -⟩ := ownCells ho6 (Nat.succ_pos L)
          have HP := push_facts (x := vxInt tn) hS5 HPM.out HLL.out (by omega) hx5 rfl (by omega) ho6 (by unfold Opn.blk; rw [HOR.out]; exact hg6) (by unfold Opn.blk; rw [HOR.out]; exact hv6)
          have hb6 : Below (w.heap.size + 1) w0 w6 := (HBD.out.trans (hb5.mono (by omega))).grown hg6 (by omega) (fun g e => (hkid.lt g e).1)
          have hsz6 := hg6.size
          have hw62 : w2.heap.size ≤ w6.heap.size := by omega
          have hZ6 : Blk w6 w.heap.size 26 #[.int .i64 0, .int .i64 0, .slice none 0 0, .slice none 0 0] := (HZD.out.be hb5).grown hg6 (fun e => by have := (hkid.lt _ e.symm).1; omega)
          refine ⟨fun he => absurd he (by decide), ?_⟩
          have HP2 := Sl.mk HP
          have HE6 := Sl.mk (And.intro hb6 (And.intro hw62 hZ6))
          clear hz0 hz1 hz2 hz3 hS5 hkid hRz ho6 hg6 hv6 HP hb6 hZ6 hb5 hz5 hx5 hsz5 hsz6 hbs hw62
          simp only [Act.put, List.setIfInBounds_toArray, List.set_cons_zero, List.set_cons_succ]
          have hLL1 : (L : Int) < (L : Int) + 1 := by omega
          refine wpAnyX_P (i := 11) (v := ?_) rfl (by kernel_rfl) (by kernel_rfl) (by kernel_rfl) (by kernel_rfl) (fun _ _ _ h => h) (Or.inl ⟨by rfl, ?_⟩) ?_
          rotate_left 1
          · (intro w' hw'; (first | rw [hw'] | (have hw2 := HSF.out w' hw') | skip); go_simp; (try with_reducible rfl))
          simp only [Act.put, List.setIfInBounds_toArray, List.set_cons_zero, List.set_cons_succ]
          refine wpAnyX_P (i := 13) (v := ?_) rfl (by kernel_rfl) (by kernel_rfl) (by kernel_rfl) (by kernel_rfl) (fun _ _ _ h => h) (Or.inl ⟨by rfl, ?_⟩) ?_
          rotate_left 1
          · (intro w' hw'; (first | rw [hw'] | (have hw2 := HSF.out w' hw') | skip); go_simp; (try with_reducible rfl))
          simp only [Act.put, List.setIfInBounds_toArray, List.set_cons_zero, List.set_cons_succ]
          refine wpAnyX_P (i := 14) (v := ?_) rfl (by kernel_rfl) (by kernel_rfl) (by kernel_rfl) (by kernel_rfl) (fun _ _ _ h => h) (Or.inl ⟨by rfl, ?_⟩) ?_
          rotate_left 1
          · (intro w' hw'; (first | rw [hw'] | (have hw2 := HSF.out w' hw') | skip); go_simp; (try with_reducible rfl))
          simp only [Act.put, List.setIfInBounds_toArray, List.set_cons_zero, List.set_cons_succ]
          refine wpAnyX_twoL (i := 12) (j := 15) rfl rfl (by kernel_rfl) rfl rfl ?_ ?_
          · refine wp_store_mid 26 (.tmp 96) (.tmp 92) rfl gx (L * 4) (vxC (vxInt tn)).toArray rfl rfl HP2.out.th (by rw [vxSize]; rfl) (all_oneCell_toArray (vxC_one _)) ⟨fun he => absurd he (by decide), ?_⟩
            obtain ⟨w7, hw7⟩ : ∃ w7, w6.setCells gx (L * 4) (vxC (vxInt tn)) = w7 := ⟨_, rfl⟩
            have hab := HP2.out.ab
            rw [show (Opn.mk (some ⟨gx, 0, none⟩) (ol ++ [vxInt tn]) cx).row = .slice (some ⟨gx, 0, none⟩) (L + 1) cx by unfold Opn.row; simp [HLL.out]] at hab
            rw [hw7] at hab
            rw [show ((vxC (vxInt tn)).toArray).toList = vxC (vxInt tn) from rfl, hw7]
            obtain ⟨hc7, hf7, hk7, hb7⟩ := hab
            have HK7 := Sl.mk (And.intro hk7 hb7)
            simp only [Act.put]
            refine wpAnyX_oneL (k := 15) rfl (by kernel_rfl) rfl ?_
            rw [HOR.out] at hc7
            clear hk7 hb7 hw7
            refine wp_of_skip (w' := w7.setCell ⟨gs, M * 4 + 3, none⟩ (.slice (some ⟨gx, 0, none⟩) (L + 1) cx)) (by go_simp) ⟨fun he => absurd he (by decide), ?_⟩
            refine wpAnyX_tailF [] (by kernel_rfl) (by rfl) (by rfl) (by rfl) ?_
            simp only [List.filterMap_nil]
            go_wp2_with fail
            refine NoPanic.normal ?_
            have HPE := Sl.mk (pushed_end (op := op) (oc := oc) HK7.out HE6.out)
            clear HK7 HE6 HP2
            clear HSD HBD HZD HOD
            go_wp2_with fail
            go_roundw
            case rel =>
              obtain ⟨o2, hs2, hm2, hb2, hz2, hw2⟩ := HPE.out
              exact ⟨i + 1, m, cs, _, ps ++ [o2], okq, dq, by omega, by omega, by omega, by go_num, rfl, rfl, rfl, hz2, hb2, ⟨hd_push HS.out.1 HX.out hs2 hm2 (by rw [HLF.out]; exact HST.out.1), by rw [tkf_succ HX.out, HST.out.2.1]; exact HS.out.2.1, by rw [tkf_succ HX.out, HST.out.2.2]; exact HS.out.2.2.1, hw2⟩⟩
            case measure => simp [intOf]; omega
          · obtain ⟨hc6, hf6⟩ := HP2.out.ce
            rw [HOR.out] at hc6
            refine wp_of_skip (w' := w6.setCell ⟨gs, M * 4 + 3, none⟩ (.slice (some ⟨gx, 0, none⟩) (L + 1) cx)) (by go_simp) ⟨fun he => absurd he (by decide), ?_⟩
            clear hc6 hf6
            have hba := HP2.out.ba
            rw [show (Opn.mk (some ⟨gx, 0, none⟩) (ol ++ [vxInt tn]) cx).row = .slice (some ⟨gx, 0, none⟩) (L + 1) cx by unfold Opn.row; simp [HLL.out]] at hba
            obtain ⟨w7, hw7⟩ : ∃ w7, w6.setCell ⟨gs, M * 4 + 3, none⟩ (.slice (some ⟨gx, 0, none⟩) (L + 1) cx) = w7 := ⟨_, rfl⟩
            rw [hw7] at hba ⊢
            obtain ⟨ht7, hk7, hb7⟩ := hba
            have HK7 := Sl.mk (And.intro hk7 hb7)
            have HT7 := Sl.mk ht7
            clear hk7 hb7 hw7 ht7
            simp only [Act.put]
            refine wpAnyX_oneL (k := 12) rfl (by kernel_rfl) rfl ?_
            refine wp_store_mid 26 (.tmp 96) (.tmp 92) rfl gx (L * 4) (vxC (vxInt tn)).toArray rfl rfl HT7.out (by rw [vxSize]; rfl) (all_oneCell_toArray (vxC_one _)) ⟨fun he => absurd he (by decide), ?_⟩
            rw [show ((vxC (vxInt tn)).toArray).toList = vxC (vxInt tn) from rfl]
            refine wpAnyX_tailF [] (by kernel_rfl) (by rfl) (by rfl) (by rfl) ?_
            simp only [List.filterMap_nil]
            go_wp2_with fail
            refine NoPanic.normal ?_
            have HPE := Sl.mk (pushed_end (op := op) (oc := oc) HK7.out HE6.out)
            clear HK7 HE6 HP2
            clear HSD HBD HZD HOD
            go_wp2_with fail
            go_roundw
            case rel =>
              obtain ⟨o2, hs2, hm2, hb2, hz2, hw2⟩ := HPE.out
              exact ⟨i + 1, m, cs, _, ps ++ [o2], okq, dq, by omega, by omega, by omega, by go_num, rfl, rfl, rfl, hz2, hb2, ⟨hd_push HS.out.1 HX.out hs2 hm2 (by rw [HLF.out]; exact HST.out.1), by rw [tkf_succ HX.out, HST.out.2.1]; exact HS.out.2.1, by rw [tkf_succ HX.out, HST.out.2.2]; exact HS.out.2.2.1, hw2⟩⟩
            case measure => simp [intOf]; omega
        · refine wp_of_run (v := .slice (some ⟨wd.heap.size, 0, none⟩) 1 1) (w' := wd.alloc (.cells #[.int .i64 0, .int .i64 0, .slice none 0 0, .slice none 0 0] 26)) (by go_simp) ⟨fun _ => (Below.refl wd.heap.size wd).alloc (Nat.le_refl _) _, ?_⟩
          simp only [Act.put, List.setIfInBounds_toArray, List.set_cons_zero, List.set_cons_succ]
          have hb3' : Below wd.heap.size wd (wd.alloc (.cells #[.int .i64 0, .int .i64 0, .slice none 0 0, .slice none 0 0] 26)) := (Below.refl wd.heap.size wd).alloc (Nat.le_refl _) _
          have hz3 := Blk.new wd 26 #[.int .i64 0, .int .i64 0, .slice none 0 0, .slice none 0 0]
          obtain ⟨g5, hg5⟩ : ∃ g5, wd.heap.size = g5 := ⟨_, rfl⟩
          obtain ⟨w3', hw3'⟩ : ∃ w3', wd.alloc (.cells #[.int .i64 0, .int .i64 0, .slice none 0 0, .slice none 0 0] 26) = w3' := ⟨_, rfl⟩
          rw [hw3'] at hb3' hz3 ⊢
          have e5 : (Value.slice (some ⟨wd.heap.size, 0, none⟩) 1 1) = .slice (some ⟨g5, 0, none⟩) 1 1 := by rw [hg5]
          rw [e5]
          rw [hg5] at hz3
          clear hw3' hg5 e5
          refine wpAnyX_oneL (k := 7) rfl (by kernel_rfl) rfl ?_
          refine wp_of_call (f := 19) (args := #[.int .i64 tn]) (by go_simp) (int_any tn w3') (fun e w5 hq => ?_)
          obtain ⟨rfl, hb4'⟩ := hq
          have hx4 := fun (_ : Stk w3' (w.heap.size + 1) (some ⟨gs, 0, none⟩) m cs (ps ++ [⟨op, ol, oc⟩])) => vxInt_ok w5 (Free w5 (w.heap.size + 1) (some gs) (ps ++ [⟨op, ol, oc⟩])) tn HTN.out.1 HTN.out.2
          have hb5 := hb3'.trans (hb4'.mono hb3'.size)
          have hz5 := hz3.be hb4'
          have hx5 := hx4 (HSD.out.be hb3')
          refine ⟨_, rfl, fun _ => hb5, ?_⟩
          simp only [Act.put, List.setIfInBounds_toArray, List.set_cons_zero, List.set_cons_succ]
          clear hb4' hx4 hb3' hz3 hS
          obtain ⟨hz0, hz1, hz2, hz3⟩ := HINF.out
          have hS5 := HSD.out.be hb5
          have hkid : w5.ownsRow (w.heap.size + 1) 26 4 (.slice op L oc) L (vxsC ol) := by
            have h := hS5.kid ⟨op, ol, oc⟩ (by simp)
            have e : (Opn.mk op ol oc).l.length = L := HLL.out
            rw [HOR.out, e] at h
            exact h
          have hRz : Reads w5 w5.heap.size 4 (some ⟨g5, 0, none⟩) 1 [.int .i64 0, .int .i64 0, .slice none 0 0, .slice none 0 0] := ⟨rfl, fun _ => ⟨_, rfl, hz5.lt, fun j u hu => by rw [ad_zero, hz5.cell j]; simpa using hu⟩⟩
          have hsz5 := hb5.size
          have hbs := HBD.out.size
          refine wpAnyX_oneL (k := 10) rfl (by kernel_rfl) rfl ?_
          refine wp_append_any w5 (.tmp 89) (.tmp 94) 24 rfl (w.heap.size + 1) 26 i0 (.agg #[.int .i64 0, .int .i64 0, .slice none 0 0, .slice none 0 0]) 4 64 Tryd.underlying24 hz0 hz1 hz2 hz3 rfl (by decide) (.slice op L oc) L (vxsC ol) rfl hkid w5.heap.size (some ⟨g5, 0, none⟩) 1 1 _ rfl hRz (vxC_one (.mk 0 0 none [] 0 none [] 0)) (by unfold maxLen; omega) (by omega) (by omega) (fun v6 w6 ho6 hg6 hv6 => ?_)
          obtain ⟨gx, cx, rfl, -⟩ := ownCells ho6 (Nat.succ_pos L)
          have HP := push_facts (x := vxInt tn) hS5 HPM.out HLL.out (by omega) hx5 rfl (by omega) ho6 (by unfold Opn.blk; rw [HOR.out]; exact hg6) (by unfold Opn.blk; rw [HOR.out]; exact hv6)
          have hb6 : Below (w.heap.size + 1) w0 w6 := (HBD.out.trans (hb5.mono (by omega))).grown hg6 (by omega) (fun g e => (hkid.lt g e).1)
          have hsz6 := hg6.size
          have hw62 : w2.heap.size ≤ w6.heap.size := by omega
          have hZ6 : Blk w6 w.heap.size 26 #[.int .i64 0, .int .i64 0, .slice none 0 0, .slice none 0 0] := (HZD.out.be hb5).grown hg6 (fun e => by have := (hkid.lt _ e.symm).1; omega)
          refine ⟨fun he => absurd he (by decide), ?_⟩
          have HP2 := Sl.mk HP
          have HE6 := Sl.mk (And.intro hb6 (And.intro hw62 hZ6))
          clear hz0 hz1 hz2 hz3 hS5 hkid hRz ho6 hg6 hv6 HP hb6 hZ6 hb5 hz5 hx5 hsz5 hsz6 hbs hw62
          simp only [Act.put, List.setIfInBounds_toArray, List.set_cons_zero, List.set_cons_succ]
          have hLL1 : (L : Int) < (L : Int) + 1 := by omega
          refine wpAnyX_P (i := 11) (v := ?_) rfl (by kernel_rfl) (by kernel_rfl) (by kernel_rfl) (by kernel_rfl) (fun _ _ _ h => h) (Or.inl ⟨by rfl, ?_⟩) ?_
          rotate_left 1
          · (intro w' hw'; (first | rw [hw'] | (have hw2 := HSF.out w' hw') | skip); go_simp; (try with_reducible rfl))
          simp only [Act.put, List.setIfInBounds_toArray, List.set_cons_zero, List.set_cons_succ]
          refine wpAnyX_P (i := 13) (v := ?_) rfl (by kernel_rfl) (by kernel_rfl) (by kernel_rfl) (by kernel_rfl) (fun _ _ _ h => h) (Or.inl ⟨by rfl, ?_⟩) ?_
          rotate_left 1
          · (intro w' hw'; (first | rw [hw'] | (have hw2 := HSF.out w' hw') | skip); go_simp; (try with_reducible rfl))
          simp only [Act.put, List.setIfInBounds_toArray, List.set_cons_zero, List.set_cons_succ]
          refine wpAnyX_P (i := 14) (v := ?_) rfl (by kernel_rfl) (by kernel_rfl) (by kernel_rfl) (by kernel_rfl) (fun _ _ _ h => h) (Or.inl ⟨by rfl, ?_⟩) ?_
          rotate_left 1
          · (intro w' hw'; (first | rw [hw'] | (have hw2 := HSF.out w' hw') | skip); go_simp; (try with_reducible rfl))
          simp only [Act.put, List.setIfInBounds_toArray, List.set_cons_zero, List.set_cons_succ]
          refine wpAnyX_twoL (i := 12) (j := 15) rfl rfl (by kernel_rfl) rfl rfl ?_ ?_
          · refine wp_store_mid 26 (.tmp 96) (.tmp 92) rfl gx (L * 4) (vxC (vxInt tn)).toArray rfl rfl HP2.out.th (by rw [vxSize]; rfl) (all_oneCell_toArray (vxC_one _)) ⟨fun he => absurd he (by decide), ?_⟩
            obtain ⟨w7, hw7⟩ : ∃ w7, w6.setCells gx (L * 4) (vxC (vxInt tn)) = w7 := ⟨_, rfl⟩
            have hab := HP2.out.ab
            rw [show (Opn.mk (some ⟨gx, 0, none⟩) (ol ++ [vxInt tn]) cx).row = .slice (some ⟨gx, 0, none⟩) (L + 1) cx by unfold Opn.row; simp [HLL.out]] at hab
            rw [hw7] at hab
            rw [show ((vxC (vxInt tn)).toArray).toList = vxC (vxInt tn) from rfl, hw7]
            obtain ⟨hc7, hf7, hk7, hb7⟩ := hab
            have HK7 := Sl.mk (And.intro hk7 hb7)
            simp only [Act.put]
            refine wpAnyX_oneL (k := 15) rfl (by kernel_rfl) rfl ?_
            rw [HOR.out] at hc7
            clear hk7 hb7 hw7
            refine wp_of_skip (w' := w7.setCell ⟨gs, M * 4 + 3, none⟩ (.slice (some ⟨gx, 0, none⟩) (L + 1) cx)) (by go_simp) ⟨fun he => absurd he (by decide), ?_⟩
            refine wpAnyX_tailF [] (by kernel_rfl) (by rfl) (by rfl) (by rfl) ?_
            simp only [List.filterMap_nil]
            go_wp2_with fail
            refine NoPanic.normal ?_
            have HPE := Sl.mk (pushed_end (op := op) (oc := oc) HK7.out HE6.out)
            clear HK7 HE6 HP2
            clear HSD HBD HZD HOD
            go_wp2_with fail
            go_roundw
            case rel =>
              obtain ⟨o2, hs2, hm2, hb2, hz2, hw2⟩ := HPE.out
              exact ⟨i + 1, m, cs, _, ps ++ [o2], okq, dq, by omega, by omega, by omega, by go_num, rfl, rfl, rfl, hz2, hb2, ⟨hd_push HS.out.1 HX.out hs2 hm2 (by rw [HLF.out]; exact HST.out.1), by rw [tkf_succ HX.out, HST.out.2.1]; exact HS.out.2.1, by rw [tkf_succ HX.out, HST.out.2.2]; exact HS.out.2.2.1, hw2⟩⟩
            case measure => simp [intOf]; omega
          · obtain ⟨hc6, hf6⟩ := HP2.out.ce
            rw [HOR.out] at hc6
            refine wp_of_skip (w' := w6.setCell ⟨gs, M * 4 + 3, none⟩ (.slice (some ⟨gx, 0, none⟩) (L + 1) cx)) (by go_simp) ⟨fun he => absurd he (by decide), ?_⟩
            clear hc6 hf6
            have hba := HP2.out.ba
            rw [show (Opn.mk (some ⟨gx, 0, none⟩) (ol ++ [vxInt tn]) cx).row = .slice (some ⟨gx, 0, none⟩) (L + 1) cx by unfold Opn.row; simp [HLL.out]] at hba
            obtain ⟨w7, hw7⟩ : ∃ w7, w6.setCell ⟨gs, M * 4 + 3, none⟩ (.slice (some ⟨gx, 0, none⟩) (L + 1) cx) = w7 := ⟨_, rfl⟩
            rw [hw7] at hba ⊢
            obtain ⟨ht7, hk7, hb7⟩ := hba
            have HK7 := Sl.mk (And.intro hk7 hb7)
            have HT7 := Sl.mk ht7
            clear hk7 hb7 hw7 ht7
            simp only [Act.put]
            refine wpAnyX_oneL (k := 12) rfl (by kernel_rfl) rfl ?_
            refine wp_store_mid 26 (.tmp 96) (.tmp 92) rfl gx (L * 4) (vxC (vxInt tn)).toArray rfl rfl HT7.out (by rw [vxSize]; rfl) (all_oneCell_toArray (vxC_one _)) ⟨fun he => absurd he (by decide), ?_⟩
            rw [show ((vxC (vxInt tn)).toArray).toList = vxC (vxInt tn) from rfl]
            refine wpAnyX_tailF [] (by kernel_rfl) (by rfl) (by rfl) (by rfl) ?_
            simp only [List.filterMap_nil]
            go_wp2_with fail
            refine NoPanic.normal ?_
            have HPE := Sl.mk (pushed_end (op := op) (oc := oc) HK7.out HE6.out)
            clear HK7 HE6 HP2
            clear HSD HBD HZD HOD
            go_wp2_with fail
            go_roundw
            case rel =>
              obtain ⟨o2, hs2, hm2, hb2, hz2, hw2⟩ := HPE.out
              exact ⟨i + 1, m, cs, _, ps ++ [o2], okq, dq, by omega, by omega, by omega, by go_num, rfl, rfl, rfl, hz2, hb2, ⟨hd_push HS.out.1 HX.out hs2 hm2 (by rw [HLF.out]; exact HST.out.1), by rw [tkf_succ HX.out, HST.out.2.1]; exact HS.out.2.1, by rw [tkf_succ HX.out, HST.out.2.2]; exact HS.out.2.2.1, hw2⟩⟩
            case measure => simp [intOf]; omega
      by_cases r1 : U % 5 = 1
      · as_aux_lemma =>
        have hr : (U : Int) % 5 = 1 := by omega
        obtain ⟨S, hS⟩ : ∃ S, strN (tb.take mq) = S := ⟨_, rfl⟩
        have HSS := Sl.mk hS
        have HST := Sl.mk (step_leaf (q := tkf l i) (t := ⟨tk, tn, tb⟩) (.inr (by rw [HUR.out]; exact r1)))
        have HLF := Sl.mk (show ∀ A5 c5, (Vx.mk 1 0 A5 (bys S) c5 none [] 0).v = leafT ⟨tk, tn, tb⟩ from fun A5 c5 => by
          unfold leafT
          rw [if_neg (by rw [HUR.out]; omega), if_pos (by rw [HUR.out]; exact r1), ← hS]
          show Vc.mk 1 0 (bys (strN (tb.take mq))) [] = _
          rw [bys_strN HBY.out]
          unfold Tk.b100
          rw [HTK.out])
        have HSZ := Sl.mk (show S.size ≤ 1000000 by rw [← hS, strN_size, List.length_take]; omega)
        clear r0 r1 HUR hS
        go_wp2_with fail
        obtain ⟨wd, hwd⟩ : ∃ wd, w3.drew = wd := ⟨_, rfl⟩
        have hSd : Stk wd (w.heap.size + 1) (some ⟨gs, 0, none⟩) m cs (ps ++ [o]) := by rw [← hwd]; exact HSt3.out.be (Below.refl _ _).drew
        have hXd : Blk wd wr.heap.size 51 #[.int .i64 tk, .int .i64 tn, .slice tp q tc] := by rw [← hwd]; exact hX3.drew
        have hZd : Blk wd w.heap.size 26 #[.int .i64 0, .int .i64 0, .slice none 0 0, .slice none 0 0] := by rw [← hwd]; exact HZ3.out.drew
        have hBd : Below (w.heap.size + 1) w0 wd := by rw [← hwd]; exact HB3.out.drew
        have hOd : wd.ownsRow (wr.heap.size + 1) 5 1 (.slice A3 mq c3) mq (u8s (tb.take mq)) := by rw [← hwd]; exact own_below HOWN3.out (Below.refl _ _).drew
        have hzd : w2.heap.size ≤ wd.heap.size := by rw [← hwd]; exact Nat.le_trans hsr hsz3'
        have hzr : wr.heap.size + 1 ≤ wd.heap.size := by rw [← hwd]; exact hsz3''
        have HSF : Sl (∀ W, Below wd.heap.size wd W → (W.cell? ⟨gs, M * 4 + 3, none⟩ = some o.row ∧ W.cell? ⟨wr.heap.size, 0, none⟩ = some (.int .i64 tk) ∧ W.cell? ⟨wr.heap.size, 1, none⟩ = some (.int .i64 tn))) := Sl.mk (fun W hW => ⟨by have := (hSd.be hW).hdr.1; rw [HM.out] at this; exact this, (hXd.be hW).cell 0, (hXd.be hW).cell 1⟩)
        have HPM := Sl.mk (HM.out)
        have HSD := Sl.mk hSd
        have HBD := Sl.mk hBd
        have HZD := Sl.mk hZd
        have HOD := Sl.mk hOd
        have hML : M * 4 + 3 = M * 4 + 3 := rfl
        obtain ⟨op, ol, oc⟩ := o
        obtain ⟨L, hL⟩ : ∃ L, ol.length = L := ⟨_, rfl⟩
        have hor : (Opn.mk op ol oc).row = .slice op L oc := by unfold Opn.row; rw [hL]
        rw [hor] at HSF
        have HLL := Sl.mk hL
        have hL2 : L ≤ 60 := by have := HFEW.out; rw [← hL]; exact this
        have HOR := Sl.mk hor
        have HCV : Sl (∀ W, Below wd.heap.size wd W → (convert 23 9 (.slice A3 mq c3)).run Tryd.prog W = .ok (.string S) W) := Sl.mk (fun W hW => by rw [← HSS.out]; exact conv_str (Reads.of_own (own_below HOD.out hW)) HBY.out)
        have hbs0 : w.heap.size + 1 ≤ wd.heap.size := by have := HBD.out.size; omega
        clear hX3 hSd hXd hZd hBd hOd hML hL hor c0 c1 c2
        refine wp_region_X (fun W => Below wd.heap.size wd W) [10, 11, 12, 13, 14, 15] (by kernel_rfl) (by rw [hwd]; exact Below.refl _ _) (fun hS => ?_)
        rw [hwd] at hS ⊢
        clear hwd
        refine wpAnyX_S (i := 0) (v := ?_) rfl (by kernel_rfl) (by kernel_rfl) (by kernel_rfl) (by kernel_rfl) (fun _ _ _ h => h) (Or.inl ⟨by rfl, ?_⟩) hS ?_
        rotate_left 1
        · (intro w' hw'; (first | rw [hw'] | (have hw2 := HSF.out w' hw') | skip); go_simp; (try with_reducible rfl))
        simp only [Act.put, List.setIfInBounds_toArray, List.set_cons_zero, List.set_cons_succ]
        refine wpAnyX_S (i := 1) (v := ?_) rfl (by kernel_rfl) (by kernel_rfl) (by kernel_rfl) (by kernel_rfl) (fun _ _ _ h => h) (Or.inl ⟨by rfl, ?_⟩) hS ?_
        rotate_left 1
        · (intro w' hw'; (first | rw [hw'] | (have hw2 := HSF.out w' hw') | skip); go_simp; (try with_reducible rfl))
        simp only [Act.put, List.setIfInBounds_toArray, List.set_cons_zero, List.set_cons_succ]
        refine wpAnyX_S (i := 2) (v := ?_) rfl (by kernel_rfl) (by kernel_rfl) (by kernel_rfl) (by kernel_rfl) (fun _ _ _ h => h) (Or.inl ⟨by rfl, ?_⟩) hS ?_
        rotate_left 1
        · (intro w' hw'; (first | rw [hw'] | (have hw2 := HSF.out w' hw') | skip); go_simp; (try with_reducible rfl))
        simp only [Act.put, List.setIfInBounds_toArray, List.set_cons_zero, List.set_cons_succ]
        refine wpAnyX_S (i := 3) (v := ?_) rfl (by kernel_rfl) (by kernel_rfl) (by kernel_rfl) (by kernel_rfl) (fun _ _ _ h => h) (Or.inl ⟨by rfl, ?_⟩) hS ?_
        rotate_left 1
        · (intro w' hw'; (first | rw [hw'] | (have hw2 := HSF.out w' hw') | skip); go_simp; (try with_reducible rfl))
        simp only [Act.put, List.setIfInBounds_toArray, List.set_cons_zero, List.set_cons_succ]
        refine wpAnyX_S (i := 4) (v := ?_) rfl (by kernel_rfl) (by kernel_rfl) (by kernel_rfl) (by kernel_rfl) (fun _ _ _ h => h) (Or.inl ⟨by rfl, ?_⟩) hS ?_
        rotate_left 1
        · (intro w' hw'; (first | rw [hw'] | (have hw2 := HSF.out w' hw') | skip); go_simp; (try with_reducible rfl))
        simp only [Act.put, List.setIfInBounds_toArray, List.set_cons_zero, List.set_cons_succ]
        refine wpAnyX_S (i := 5) (v := ?_) rfl (by kernel_rfl) (by kernel_rfl) (by kernel_rfl) (by kernel_rfl) (fun _ _ _ h => h) (Or.inl ⟨by rfl, ?_⟩) hS ?_
        rotate_left 1
        · (intro w' hw'; (first | rw [hw'] | (have hw2 := HSF.out w' hw') | skip); go_simp; (try with_reducible rfl))
        simp only [Act.put, List.setIfInBounds_toArray, List.set_cons_zero, List.set_cons_succ]
        refine wpAnyX_S (i := 6) (v := .string S) rfl (by kernel_rfl) (by kernel_rfl) (by kernel_rfl) (by kernel_rfl) (fun _ _ _ h => h) (.inl ⟨by rfl, fun w' hw' => by have hcv := HCV.out w' hw'; go_simp⟩) hS ?_
        simp only [Act.put, List.setIfInBounds_toArray, List.set_cons_zero, List.set_cons_succ]
        refine wpAnyX_S (i := 8) (v := ?_) rfl (by kernel_rfl) (by kernel_rfl) (by kernel_rfl) (by kernel_rfl) (fun _ _ _ h => h) (Or.inl ⟨by rfl, ?_⟩) hS ?_
        rotate_left 1
        · (intro w' hw'; (first | rw [hw'] | (have hw2 := HSF.out w' hw') | skip); go_simp; (try with_reducible rfl))
        simp only [Act.put, List.setIfInBounds_toArray, List.set_cons_zero, List.set_cons_succ]
        refine wpAnyX_twoL (i := 7) (j := 9) rfl rfl (by kernel_rfl) rfl rfl ?_ ?_
        · refine wp_of_call (f := 20) (args := #[.string S]) (by go_simp) (text_any S wd HSZ.out) (fun e w4 hq => ?_)
          obtain ⟨A5, c5, rfl, hk4, hb4⟩ := hq
          have hx4 := fun (h : Stk wd (w.heap.size + 1) (some ⟨gs, 0, none⟩) m cs (ps ++ [⟨op, ol, oc⟩])) => free_new h (by have := h.row.lt gs rfl; omega) hk4
          refine ⟨_, rfl, fun _ => hb4, ?_⟩
          simp only [Act.put, List.setIfInBounds_toArray, List.set_cons_zero, List.set_cons_succ]
          refine wpAnyX_oneL (k := 9) rfl (by kernel_rfl) rfl ?_
          refine wp_of_run (v := .slice (some ⟨w4.heap.size, 0, none⟩) 1 1) (w' := w4.alloc (.cells #[.int .i64 0, .int .i64 0, .slice none 0 0, .slice none 0 0] 26)) (by go_simp) ⟨fun _ => hb4.alloc hb4.size _, ?_⟩
          simp only [Act.put, List.setIfInBounds_toArray, List.set_cons_zero, List.set_cons_succ]
          have hb5 : Below wd.heap.size wd (w4.alloc (.cells #[.int .i64 0, .int .i64 0, .slice none 0 0, .slice none 0 0] 26)) := hb4.alloc hb4.size _
          have hz5 := Blk.new w4 26 #[.int .i64 0, .int .i64 0, .slice none 0 0, .slice none 0 0]
          have hx5 := free_be (hx4 HSD.out) (below_al (Below.refl w4.heap.size w4) (.cells #[.int .i64 0, .int .i64 0, .slice none 0 0, .slice none 0 0] 26))
          obtain ⟨g5, hg5⟩ : ∃ g5, w4.heap.size = g5 := ⟨_, rfl⟩
          obtain ⟨w5, hw5⟩ : ∃ w5, w4.alloc (.cells #[.int .i64 0, .int .i64 0, .slice none 0 0, .slice none 0 0] 26) = w5 := ⟨_, rfl⟩
          rw [hw5] at hb5 hz5 hx5 ⊢
          rw [hg5] at hz5 ⊢
          clear hw5 hg5 hb4 hx4 hS
          obtain ⟨hz0, hz1, hz2, hz3⟩ := HINF.out
          have hS5 := HSD.out.be hb5
          have hkid : w5.ownsRow (w.heap.size + 1) 26 4 (.slice op L oc) L (vxsC ol) := by
            have h := hS5.kid ⟨op, ol, oc⟩ (by simp)
            have e : (Opn.mk op ol oc).l.length = L := HLL.out
            rw [HOR.out, e] at h
            exact h
          have hRz : Reads w5 w5.heap.size 4 (some ⟨g5, 0, none⟩) 1 [.int .i64 0, .int .i64 0, .slice none 0 0, .slice none 0 0] := ⟨rfl, fun _ => ⟨_, rfl, hz5.lt, fun j u hu => by rw [ad_zero, hz5.cell j]; simpa using hu⟩⟩
          have hsz5 := hb5.size
          have hbs := HBD.out.size
          refine wpAnyX_oneL (k := 10) rfl (by kernel_rfl) rfl ?_
          refine wp_append_any w5 (.tmp 105) (.tmp 110) 24 rfl (w.heap.size + 1) 26 i0 (.agg #[.int .i64 0, .int .i64 0, .slice none 0 0, .slice none 0 0]) 4 64 Tryd.underlying24 hz0 hz1 hz2 hz3 rfl (by decide) (.slice op L oc) L (vxsC ol) rfl hkid w5.heap.size (some ⟨g5, 0, none⟩) 1 1 _ rfl hRz (vxC_one (.mk 0 0 none [] 0 none [] 0)) (by unfold maxLen; omega) (by omega) (by omega) (fun v6 w6 ho6 hg6 hv6 => ?_)
          obtain ⟨gx, cx, rfl, -⟩ := ownCells ho6 (Nat.succ_pos L)
          have HP := push_facts (x := .mk 1 0 A5 (bys S) c5 none [] 0) hS5 HPM.out HLL.out (by omega) hx5 rfl (by omega) ho6 (by unfold Opn.blk; rw [HOR.out]; exact hg6) (by unfold Opn.blk; rw [HOR.out]; exact hv6)
          have hb6 : Below (w.heap.size + 1) w0 w6 := (HBD.out.trans (hb5.mono (by omega))).grown hg6 (by omega) (fun g e => (hkid.lt g e).1)
          have hsz6 := hg6.size
          have hw62 : w2.heap.size ≤ w6.heap.size := by omega
          have hZ6 : Blk w6 w.heap.size 26 #[.int .i64 0, .int .i64 0, .slice none 0 0, .slice none 0 0] := (HZD.out.be hb5).grown hg6 (fun e => by have := (hkid.lt _ e.symm).1; omega)
          refine ⟨fun he => absurd he (by decide), ?_⟩
          have HP2 := Sl.mk HP
          have HE6 := Sl.mk (And.intro hb6 (And.intro hw62 hZ6))
          clear hz0 hz1 hz2 hz3 hS5 hkid hRz ho6 hg6 hv6 HP hb6 hZ6 hb5 hz5 hx5 hsz5 hsz6 hbs hw62
          simp only [Act.put, List.setIfInBounds_toArray, List.set_cons_zero, List.set_cons_succ]
          have hLL1 : (L : Int) < (L : Int) + 1 := by omega
          refine wpAnyX_P (i := 11) (v := ?_) rfl (by kernel_rfl) (by kernel_rfl) (by kernel_rfl) (by kernel_rfl) (fun _ _ _ h => h) (Or.inl ⟨by rfl, ?_⟩) ?_
          rotate_left 1
          · (intro w' hw'; (first | rw [hw'] | (have hw2 := HSF.out w' hw') | skip); go_simp; (try with_reducible rfl))
          simp only [Act.put, List.setIfInBounds_toArray, List.set_cons_zero, List.set_cons_succ]
          refine wpAnyX_P (i := 13) (v := ?_) rfl (by kernel_rfl) (by kernel_rfl) (by kernel_rfl) (by kernel_rfl) (fun _ _ _ h => h) (Or.inl ⟨by rfl, ?_⟩) ?_
          rotate_left 1
          · (intro w' hw'; (first | rw [hw'] | (have hw2 := HSF.out w' hw') | skip); go_simp; (try with_reducible rfl))
          simp only [Act.put, List.setIfInBounds_toArray, List.set_cons_zero, List.set_cons_succ]
          refine wpAnyX_P (i := 14) (v := ?_) rfl (by kernel_rfl) (by kernel_rfl) (by kernel_rfl) (by kernel_rfl) (fun _ _ _ h => h) (Or.inl ⟨by rfl, ?_⟩) ?_
          rotate_left 1
          · (intro w' hw'; (first | rw [hw'] | (have hw2 := HSF.out w' hw') | skip); go_simp; (try with_reducible rfl))
          simp only [Act.put, List.setIfInBounds_toArray, List.set_cons_zero, List.set_cons_succ]
          refine wpAnyX_twoL (i := 12) (j := 15) rfl rfl (by kernel_rfl) rfl rfl ?_ ?_
          · refine wp_store_mid 26 (.tmp 112) (.tmp 108) rfl gx (L * 4) (vxC (.mk 1 0 A5 (bys S) c5 none [] 0)).toArray rfl rfl HP2.out.th (by rw [vxSize]; rfl) (all_oneCell_toArray (vxC_one _)) ⟨fun he => absurd he (by decide), ?_⟩
            obtain ⟨w7, hw7⟩ : ∃ w7, w6.setCells gx (L * 4) (vxC (.mk 1 0 A5 (bys S) c5 none [] 0)) = w7 := ⟨_, rfl⟩
            have hab := HP2.out.ab
            rw [show (Opn.mk (some ⟨gx, 0, none⟩) (ol ++ [.mk 1 0 A5 (bys S) c5 none [] 0]) cx).row = .slice (some ⟨gx, 0, none⟩) (L + 1) cx by unfold Opn.row; simp [HLL.out]] at hab
            rw [hw7] at hab
            rw [show ((vxC (.mk 1 0 A5 (bys S) c5 none [] 0)).toArray).toList = vxC (.mk 1 0 A5 (bys S) c5 none [] 0) from rfl, hw7]
            obtain ⟨hc7, hf7, hk7, hb7⟩ := hab
            have HK7 := Sl.mk (And.intro hk7 hb7)
            simp only [Act.put]
            refine wpAnyX_oneL (k := 15) rfl (by kernel_rfl) rfl ?_
            rw [HOR.out] at hc7
            clear hk7 hb7 hw7
            refine wp_of_skip (w' := w7.setCell ⟨gs, M * 4 + 3, none⟩ (.slice (some ⟨gx, 0, none⟩) (L + 1) cx)) (by go_simp) ⟨fun he => absurd he (by decide), ?_⟩
            refine wpAnyX_tailF [] (by kernel_rfl) (by rfl) (by rfl) (by rfl) ?_
            simp only [List.filterMap_nil]
            go_wp2_with fail
            refine NoPanic.normal ?_
            have HPE := Sl.mk (pushed_end (op := op) (oc := oc) HK7.out HE6.out)
            clear HK7 HE6 HP2
            clear HSD HBD HZD HOD
            go_wp2_with fail
            go_roundw
            case rel =>
              obtain ⟨o2, hs2, hm2, hb2, hz2, hw2⟩ := HPE.out
              exact ⟨i + 1, m, cs, _, ps ++ [o2], okq, dq, by omega, by omega, by omega, by go_num, rfl, rfl, rfl, hz2, hb2, ⟨hd_push HS.out.1 HX.out hs2 hm2 (by rw [HLF.out]; exact HST.out.1), by rw [tkf_succ HX.out, HST.out.2.1]; exact HS.out.2.1, by rw [tkf_succ HX.out, HST.out.2.2]; exact HS.out.2.2.1, hw2⟩⟩
            case measure => simp [intOf]; omega
          · obtain ⟨hc6, hf6⟩ := HP2.out.ce
            rw [HOR.out] at hc6
            refine wp_of_skip (w' := w6.setCell ⟨gs, M * 4 + 3, none⟩ (.slice (some ⟨gx, 0, none⟩) (L + 1) cx)) (by go_simp) ⟨fun he => absurd he (by decide), ?_⟩
            clear hc6 hf6
            have hba := HP2.out.ba
            rw [show (Opn.mk (some ⟨gx, 0, none⟩) (ol ++ [.mk 1 0 A5 (bys S) c5 none [] 0]) cx).row = .slice (some ⟨gx, 0, none⟩) (L + 1) cx by unfold Opn.row; simp [HLL.out]] at hba
            obtain ⟨w7, hw7⟩ : ∃ w7, w6.setCell ⟨gs, M * 4 + 3, none⟩ (.slice (some ⟨gx, 0, none⟩) (L + 1) cx) = w7 := ⟨_, rfl⟩
            rw [hw7] at hba ⊢
            obtain ⟨ht7, hk7, hb7⟩ := hba
            have HK7 := Sl.mk (And.intro hk7 hb7)
            have HT7 := Sl.mk ht7
            clear hk7 hb7 hw7 ht7
            simp only [Act.put]
            refine wpAnyX_oneL (k := 12) rfl (by kernel_rfl) rfl ?_
            refine wp_store_mid 26 (.tmp 112) (.tmp 108) rfl gx (L * 4) (vxC (.mk 1 0 A5 (bys S) c5 none [] 0)).toArray rfl rfl HT7.out (by rw [vxSize]; rfl) (all_oneCell_toArray (vxC_one _)) ⟨fun he => absurd he (by decide), ?_⟩
            rw [show ((vxC (.mk 1 0 A5 (bys S) c5 none [] 0)).toArray).toList = vxC (.mk 1 0 A5 (bys S) c5 none [] 0) from rfl]
            refine wpAnyX_tailF [] (by kernel_rfl) (by rfl) (by rfl) (by rfl) ?_
            simp only [List.filterMap_nil]
            go_wp2_with fail
            refine NoPanic.normal ?_
            have HPE := Sl.mk (pushed_end (op := op) (oc := oc) HK7.out HE6.out)
            clear HK7 HE6 HP2
            clear HSD HBD HZD HOD
            go_wp2_with fail
            go_roundw
            case rel =>
              obtain ⟨o2, hs2, hm2, hb2, hz2, hw2⟩ := HPE.out
              exact ⟨i + 1, m, cs, _, ps ++ [o2], okq, dq, by omega, by omega, by omega, by go_num, rfl, rfl, rfl, hz2, hb2, ⟨hd_push HS.out.1 HX.out hs2 hm2 (by rw [HLF.out]; exact HST.out.1), by rw [tkf_succ HX.out, HST.out.2.1]; exact HS.out.2.1, by rw [tkf_succ HX.out, HST.out.2.2]; exact HS.out.2.2.1, hw2⟩⟩
            case measure => simp [intOf]; omega
        · refine wp_of_run (v := .slice (some ⟨wd.heap.size, 0, none⟩) 1 1) (w' := wd.alloc (.cells #[.int .i64 0, .int .i64 0, .slice none 0 0, .slice none 0 0] 26)) (by go_simp) ⟨fun _ => (Below.refl wd.heap.size wd).alloc (Nat.le_refl _) _, ?_⟩
          simp only [Act.put, List.setIfInBounds_toArray, List.set_cons_zero, List.set_cons_succ]
          have hb3' : Below wd.heap.size wd (wd.alloc (.cells #[.int .i64 0, .int .i64 0, .slice none 0 0, .slice none 0 0] 26)) := (Below.refl wd.heap.size wd).alloc (Nat.le_refl _) _
          have hz3 := Blk.new wd 26 #[.int .i64 0, .int .i64 0, .slice none 0 0, .slice none 0 0]
          obtain ⟨g5, hg5⟩ : ∃ g5, wd.heap.size = g5 := ⟨_, rfl⟩
          obtain ⟨w3', hw3'⟩ : ∃ w3', wd.alloc (.cells #[.int .i64 0, .int .i64 0, .slice none 0 0, .slice none 0 0] 26) = w3' := ⟨_, rfl⟩
          rw [hw3'] at hb3' hz3 ⊢
          have e5 : (Value.slice (some ⟨wd.heap.size, 0, none⟩) 1 1) = .slice (some ⟨g5, 0, none⟩) 1 1 := by rw [hg5]
          rw [e5]
          rw [hg5] at hz3
          clear hw3' hg5 e5
          refine wpAnyX_oneL (k := 7) rfl (by kernel_rfl) rfl ?_
          refine wp_of_call (f := 20) (args := #[.string S]) (by go_simp) (text_any S w3' HSZ.out) (fun e w5 hq => ?_)
          obtain ⟨A5, c5, rfl, hk4, hb4'⟩ := hq
          have hx4 := fun (h : Stk w3' (w.heap.size + 1) (some ⟨gs, 0, none⟩) m cs (ps ++ [⟨op, ol, oc⟩])) => free_new h (by have := h.row.lt gs rfl; omega) hk4
          have hb5 := hb3'.trans (hb4'.mono hb3'.size)
          have hz5 := hz3.be hb4'
          have hx5 := hx4 (HSD.out.be hb3')
          refine ⟨_, rfl, fun _ => hb5, ?_⟩
          simp only [Act.put, List.setIfInBounds_toArray, List.set_cons_zero, List.set_cons_succ]
          clear hb4' hx4 hb3' hz3 hS
          obtain ⟨hz0, hz1, hz2, hz3⟩ := HINF.out
          have hS5 := HSD.out.be hb5
          have hkid : w5.ownsRow (w.heap.size + 1) 26 4 (.slice op L oc) L (vxsC ol) := by
            have h := hS5.kid ⟨op, ol, oc⟩ (by simp)
            have e : (Opn.mk op ol oc).l.length = L := HLL.out
            rw [HOR.out, e] at h
            exact h
          have hRz : Reads w5 w5.heap.size 4 (some ⟨g5, 0, none⟩) 1 [.int .i64 0, .int .i64 0, .slice none 0 0, .slice none 0 0] := ⟨rfl, fun _ => ⟨_, rfl, hz5.lt, fun j u hu => by rw [ad_zero, hz5.cell j]; simpa using hu⟩⟩
          have hsz5 := hb5.size
          have hbs := HBD.out.size
          refine wpAnyX_oneL (k := 10) rfl (by kernel_rfl) rfl ?_
          refine wp_append_any w5 (.tmp 105) (.tmp 110) 24 rfl (w.heap.size + 1) 26 i0 (.agg #[.int .i64 0, .int .i64 0, .slice none 0 0, .slice none 0 0]) 4 64 Tryd.underlying24 hz0 hz1 hz2 hz3 rfl (by decide) (.slice op L oc) L (vxsC ol) rfl hkid w5.heap.size (some ⟨g5, 0, none⟩) 1 1 _ rfl hRz (vxC_one (.mk 0 0 none [] 0 none [] 0)) (by unfold maxLen; omega) (by omega) (by omega) (fun v6 w6 ho6 hg6 hv6 => ?_)
          obtain ⟨gx, cx, rfl, -⟩ := ownCells ho6 (Nat.succ_pos L)
          have HP := push_facts (x := .mk 1 0 A5 (bys S) c5 none [] 0) hS5 HPM.out HLL.out (by omega) hx5 rfl (by omega) ho6 (by unfold Opn.blk; rw [HOR.out]; exact hg6) (by unfold Opn.blk; rw [HOR.out]; exact hv6)
          have hb6 : Below (w.heap.size + 1) w0 w6 := (HBD.out.trans (hb5.mono (by omega))).grown hg6 (by omega) (fun g e => (hkid.lt g e).1)
          have hsz6 := hg6.size
          have hw62 : w2.heap.size ≤ w6.heap.size := by omega
          have hZ6 : Blk w6 w.heap.size 26 #[.int .i64 0, .int .i64 0, .slice none 0 0, .slice none 0 0] := (HZD.out.be hb5).grown hg6 (fun e => by have := (hkid.lt _ e.symm).1; omega)
          refine ⟨fun he => absurd he (by decide), ?_⟩
          have HP2 := Sl.mk HP
          have HE6 := Sl.mk (And.intro hb6 (And.intro hw62 hZ6))
          clear hz0 hz1 hz2 hz3 hS5 hkid hRz ho6 hg6 hv6 HP hb6 hZ6 hb5 hz5 hx5 hsz5 hsz6 hbs hw62
          simp only [Act.put, List.setIfInBounds_toArray, List.set_cons_zero, List.set_cons_succ]
          have hLL1 : (L : Int) < (L : Int) + 1 := by omega
          refine wpAnyX_P (i := 11) (v := ?_) rfl (by kernel_rfl) (by kernel_rfl) (by kernel_rfl) (by kernel_rfl) (fun _ _ _ h => h) (Or.inl ⟨by rfl, ?_⟩) ?_
          rotate_left 1
          · (intro w' hw'; (first | rw [hw'] | (have hw2 := HSF.out w' hw') | skip); go_simp; (try with_reducible rfl))
          simp only [Act.put, List.setIfInBounds_toArray, List.set_cons_zero, List.set_cons_succ]
          refine wpAnyX_P (i := 13) (v := ?_) rfl (by kernel_rfl) (by kernel_rfl) (by kernel_rfl) (by kernel_rfl) (fun _ _ _ h => h) (Or.inl ⟨by rfl, ?_⟩) ?_
          rotate_left 1
          · (intro w' hw'; (first | rw [hw'] | (have hw2 := HSF.out w' hw') | skip); go_simp; (try with_reducible rfl))
          simp only [Act.put, List.setIfInBounds_toArray, List.set_cons_zero, List.set_cons_succ]
          refine wpAnyX_P (i := 14) (v := ?_) rfl (by kernel_rfl) (by kernel_rfl) (by kernel_rfl) (by kernel_rfl) (fun _ _ _ h => h) (Or.inl ⟨by rfl, ?_⟩) ?_
          rotate_left 1
          · (intro w' hw'; (first | rw [hw'] | (have hw2 := HSF.out w' hw') | skip); go_simp; (try with_reducible rfl))
          simp only [Act.put, List.setIfInBounds_toArray, List.set_cons_zero, List.set_cons_succ]
          refine wpAnyX_twoL (i := 12) (j := 15) rfl rfl (by kernel_rfl) rfl rfl ?_ ?_
          · refine wp_store_mid 26 (.tmp 112) (.tmp 108) rfl gx (L * 4) (vxC (.mk 1 0 A5 (bys S) c5 none [] 0)).toArray rfl rfl HP2.out.th (by rw [vxSize]; rfl) (all_oneCell_toArray (vxC_one _)) ⟨fun he => absurd he (by decide), ?_⟩
            obtain ⟨w7, hw7⟩ : ∃ w7, w6.setCells gx (L * 4) (vxC (.mk 1 0 A5 (bys S) c5 none [] 0)) = w7 := ⟨_, rfl⟩
            have hab := HP2.out.ab
            rw [show (Opn.mk (some ⟨gx, 0, none⟩) (ol ++ [.mk 1 0 A5 (bys S) c5 none [] 0]) cx).row = .slice (some ⟨gx, 0, none⟩) (L + 1) cx by unfold Opn.row; simp [HLL.out]] at hab
            rw [hw7] at hab
            rw [show ((vxC (.mk 1 0 A5 (bys S) c5 none [] 0)).toArray).toList = vxC (.mk 1 0 A5 (bys S) c5 none [] 0) from rfl, hw7]
            obtain ⟨hc7, hf7, hk7, hb7⟩ := hab
            have HK7 := Sl.mk (And.intro hk7 hb7)
            simp only [Act.put]
            refine wpAnyX_oneL (k := 15) rfl (by kernel_rfl) rfl ?_
            rw [HOR.out] at hc7
            clear hk7 hb7 hw7
            refine wp_of_skip (w' := w7.setCell ⟨gs, M * 4 + 3, none⟩ (.slice (some ⟨gx, 0, none⟩) (L + 1) cx)) (by go_simp) ⟨fun he => absurd he (by decide), ?_⟩
            refine wpAnyX_tailF [] (by kernel_rfl) (by rfl) (by rfl) (by rfl) ?_
            simp only [List.filterMap_nil]
            go_wp2_with fail
            refine NoPanic.normal ?_
            have HPE := Sl.mk (pushed_end (op := op) (oc := oc) HK7.out HE6.out)
            clear HK7 HE6 HP2
            clear HSD HBD HZD HOD
            go_wp2_with fail
            go_roundw
            case rel =>
              obtain ⟨o2, hs2, hm2, hb2, hz2, hw2⟩ := HPE.out
              exact ⟨i + 1, m, cs, _, ps ++ [o2], okq, dq, by omega, by omega, by omega, by go_num, rfl, rfl, rfl, hz2, hb2, ⟨hd_push HS.out.1 HX.out hs2 hm2 (by rw [HLF.out]; exact HST.out.1), by rw [tkf_succ HX.out, HST.out.2.1]; exact HS.out.2.1, by rw [tkf_succ HX.out, HST.out.2.2]; exact HS.out.2.2.1, hw2⟩⟩
            case measure => simp [intOf]; omega
          · obtain ⟨hc6, hf6⟩ := HP2.out.ce
            rw [HOR.out] at hc6
            refine wp_of_skip (w' := w6.setCell ⟨gs, M * 4 + 3, none⟩ (.slice (some ⟨gx, 0, none⟩) (L + 1) cx)) (by go_simp) ⟨fun he => absurd he (by decide), ?_⟩
            clear hc6 hf6
            have hba := HP2.out.ba
            rw [show (Opn.mk (some ⟨gx, 0, none⟩) (ol ++ [.mk 1 0 A5 (bys S) c5 none [] 0]) cx).row = .slice (some ⟨gx, 0, none⟩) (L + 1) cx by unfold Opn.row; simp [HLL.out]] at hba
            obtain ⟨w7, hw7⟩ : ∃ w7, w6.setCell ⟨gs, M * 4 + 3, none⟩ (.slice (some ⟨gx, 0, none⟩) (L + 1) cx) = w7 := ⟨_, rfl⟩
            rw [hw7] at hba ⊢
            obtain ⟨ht7, hk7, hb7⟩ := hba
            have HK7 := Sl.mk (And.intro hk7 hb7)
            have HT7 := Sl.mk ht7
            clear hk7 hb7 hw7 ht7
            simp only [Act.put]
            refine wpAnyX_oneL (k := 12) rfl (by kernel_rfl) rfl ?_
            refine wp_store_mid 26 (.tmp 112) (.tmp 108) rfl gx (L * 4) (vxC (.mk 1 0 A5 (bys S) c5 none [] 0)).toArray rfl rfl HT7.out (by rw [vxSize]; rfl) (all_oneCell_toArray (vxC_one _)) ⟨fun he => absurd he (by decide), ?_⟩
            rw [show ((vxC (.mk 1 0 A5 (bys S) c5 none [] 0)).toArray).toList = vxC (.mk 1 0 A5 (bys S) c5 none [] 0) from rfl]
            refine wpAnyX_tailF [] (by kernel_rfl) (by rfl) (by rfl) (by rfl) ?_
            simp only [List.filterMap_nil]
            go_wp2_with fail
            refine NoPanic.normal ?_
            have HPE := Sl.mk (pushed_end (op := op) (oc := oc) HK7.out HE6.out)
            clear HK7 HE6 HP2
            clear HSD HBD HZD HOD
            go_wp2_with fail
            go_roundw
            case rel =>
              obtain ⟨o2, hs2, hm2, hb2, hz2, hw2⟩ := HPE.out
              exact ⟨i + 1, m, cs, _, ps ++ [o2], okq, dq, by omega, by omega, by omega, by go_num, rfl, rfl, rfl, hz2, hb2, ⟨hd_push HS.out.1 HX.out hs2 hm2 (by rw [HLF.out]; exact HST.out.1), by rw [tkf_succ HX.out, HST.out.2.1]; exact HS.out.2.1, by rw [tkf_succ HX.out, HST.out.2.2]; exact HS.out.2.2.1, hw2⟩⟩
            case measure => simp [intOf]; omega
      by_cases r2 : U % 5 = 2
      · as_aux_lemma =>
        have hr : (U : Int) % 5 = 2 := by omega
        have HST := Sl.mk (step_open (q := tkf l i) (t := ⟨tk, tn, tb⟩) (by rw [HUR.out]; exact r2))
        have hm62 : m + 1 ≤ 61 := by have := (inv_tkf HNB.out i (by rw [HN.out]; omega)).len; rw [hd_len HS.out.1] at this; omega
        clear r0 r1 r2 HUR
        go_wp2_with fail
        refine (of_nil w3).mono ?_
        rintro e w4 ⟨rfl, hb4⟩
        have hba := below_tr hb4 (below_al (Below.refl w4.heap.size w4) (.cells #[.int .i64 2, .int .i64 0, .slice none 0 0, .slice none 0 0] 26))
        have hS4 := HSt3.out.be hba
        have hrow4 := hS4.row
        have hRx : Reads (w4.alloc (.cells #[.int .i64 2, .int .i64 0, .slice none 0 0, .slice none 0 0] 26)) (w4.heap.size + 1) 4 (some ⟨w4.heap.size, 0, none⟩) 1 (osC [⟨none, [], 0⟩]) := ⟨rfl, fun _ => ⟨_, rfl, Nat.lt_succ_self _, fun j u hu => by rw [ad_zero, (Blk.new _ _ _).cell j]; rw [osC_one] at hu; simpa [Opn.row] using hu⟩⟩
        obtain ⟨hz0, hz1, hz2, hz3⟩ := HINF.out
        have hsz4 := hba.size
        have hbs0 := HB3.out.size
        have hmax : max (dq : Int) ((m : Int) + 1) = ((max dq (m + 1) : Nat) : Int) := by omega
        go_wp2_with (at_builtin; refine wpList_append_any _ rfl (.tmp 117) (.tmp 119) 24 rfl (w.heap.size + 1) 26 i0 (.agg #[.int .i64 0, .int .i64 0, .slice none 0 0, .slice none 0 0]) 4 64 Tryd.underlying24 hz0 hz1 hz2 hz3 rfl (by decide) _ m (osC (ps ++ [o])) rfl hrow4 (w4.heap.size + 1) _ 1 1 (osC [⟨none, [], 0⟩]) rfl hRx (by intro v hv; rw [osC_one] at hv; exact vxC_one (.mk 2 0 none [] 0 none [] 0) v hv) (by unfold maxLen; omega) (by omega) (by omega) ?_)
        intro v5 w5 ho5 hg5 hv5
        obtain ⟨A5, c5, rfl⟩ := ownForm ho5
        have e5 : (w4.alloc (.cells #[.int .i64 2, .int .i64 0, .slice none 0 0, .slice none 0 0] 26)).heap.size = w4.heap.size + 1 := by simp
        rw [← e5] at hv5
        clear e5
        have hS5 := hS4.open_ (by rw [osC_app]; exact ho5) hg5 hv5
        have hgs5 := hrow4.lt gs rfl
        have hB5 := (HB3.out.trans (hba.mono (by omega))).grown hg5 (by omega) (fun g e => (hrow4.lt g e).1)
        have hZ5 := (HZ3.out.be hba).grown hg5 (fun e => by have := (hrow4.lt _ e.symm).1; omega)
        have hsz5 := hg5.size
        have hw5 : w2.heap.size ≤ w5.heap.size := by omega
        have HF := Sl.mk (And.intro hS5 (And.intro hB5 (And.intro hZ5 hw5)))
        clear hz0 hz1 hz2 hz3 hRx hS4 hrow4 hba hb4 ho5 hg5 hv5 hS5 hB5 hZ5 hX3 c0 c1 c2 hw5
        go_wp2_with fail
        go_roundw
        case rel => exact ⟨i + 1, m + 1, c5, A5, (ps ++ [o]) ++ [⟨none, [], 0⟩], okq, max dq (m + 1), by omega, by omega, hm62, by go_num, rfl, rfl, rfl, HF.out.2.2.1, HF.out.2.1, ⟨⟨HF.out.1, by rw [tkf_succ HX.out, HST.out.1, List.map_append, HMP.out]; simp [vsOf], by simp⟩, by rw [tkf_succ HX.out, HST.out.2.1]; exact HS.out.2.1, by rw [tkf_succ HX.out, HST.out.2.2, hd_len HS.out.1, ← HS.out.2.2.1], HF.out.2.2.2⟩⟩
        case measure => simp [intOf]; omega
      by_cases r3 : U % 5 = 3
      · as_aux_lemma =>
        have hr : (U : Int) % 5 = 3 := by omega
        have HST := Sl.mk (step_close (q := tkf l i) (t := ⟨tk, tn, tb⟩) (by rw [HUR.out]; exact r3))
        clear r0 r1 r2 r3 HUR
        by_cases hM1 : M = 0
        · have hMi : ¬ (0 : Int) < (M : Int) := by omega
          have hcl : closeT (tkf l i).s = (tkf l i).s := by
            have h1 : (tkf l i).s.length = 1 := by rw [hd_len HS.out.1, ← HMM.out, hM1]
            obtain ⟨y, hy⟩ := List.length_eq_one_iff.1 h1
            rw [hy]; rfl
          have HCL := Sl.mk hcl
          clear hcl hM1
          have HF := Sl.mk (And.intro HSt3.out (And.intro HB3.out HZ3.out))
          go_wp2_with fail
          go_roundw
          case rel => exact ⟨i + 1, m, cs, _, ps ++ [o], okq, dq, by omega, by omega, by omega, by go_num, rfl, rfl, rfl, HF.out.2.2, HF.out.2.1, ⟨⟨HF.out.1, by rw [tkf_succ HX.out, HST.out.1, HCL.out]; exact HMP.out, by simp⟩, by rw [tkf_succ HX.out, HST.out.2.1]; exact HS.out.2.1, by rw [tkf_succ HX.out, HST.out.2.2]; exact HS.out.2.2.1, by omega⟩⟩
          case measure => simp [intOf]; omega
        · have hMi : (0 : Int) < (M : Int) := by omega
          have HREST := Sl.mk (show M ≠ 0 from hM1)
          clear hM1
          have hStW := HSt3.out
          have hBW := HB3.out
          have hZW := HZ3.out
          have hwW : w2.heap.size ≤ w3.heap.size := by omega
          have hMAP := HMP.out
          have HFEWo := HFEW
          have hps : ∃ ps' p, ps = ps' ++ [p] := ⟨ps.dropLast, ps.getLast (fun e => HREST.out (by rw [← HM.out, e]; rfl)), (List.dropLast_concat_getLast _).symm⟩
          obtain ⟨ps', p, rfl⟩ := hps
          obtain ⟨K, hK⟩ : ∃ K, ps'.length = K := ⟨_, rfl⟩
          have hKM : K + 1 = M := by have := HM.out; simp at this; omega
          have hK1 : (M : Int) - 1 = (K : Int) := by omega
          have hkw : IntKind.i64.wrap (K : Int) = (K : Int) := IntWalk.i64_in _ (by omega)
          have hKm : (K : Int) < (m : Int) := by omega
          have hMm2 : (M : Int) < (m : Int) := by have := HMM.out; omega
          have hMc : (M : Int) ≤ (cs : Int) := by have h1 := (ownCapS hStW.row).1; have := HMM.out; omega
          have hM0 : (0 : Int) ≤ (M : Int) := by omega
          have hK0 : (0 : Int) ≤ (K : Int) := by omega
          have HFEWp := Sl.mk (show p.l.length ≤ 60 from by
                  have h1 := (inv_tkf HNB.out i (by rw [HN.out]; omega)).few (vsOf p.l) (by
                    rw [← List.mem_reverse, ← hMAP]
                    exact List.mem_map.2 ⟨p, by simp, rfl⟩)
                  rw [vsOf_len] at h1
                  omega)
          have HSTW := Sl.mk (show Stk w3 (w.heap.size + 1) (some ⟨gs, 0, none⟩) (M + 1) cs ((ps' ++ [p]) ++ [o]) by rw [HMM.out]; exact hStW)
          have HBW := Sl.mk hBW
          have HZW := Sl.mk hZW
          have HWW := Sl.mk hwW
          have HMAP := Sl.mk hMAP
          have HK := Sl.mk hK
          have HKM := Sl.mk hKM
          obtain ⟨op, ol, oc⟩ := p
          obtain ⟨tp0, tl, tc0⟩ := o
          obtain ⟨L, hL⟩ : ∃ L, ol.length = L := ⟨_, rfl⟩
          obtain ⟨Lt, hLt⟩ : ∃ Lt, tl.length = Lt := ⟨_, rfl⟩
          have hor : (Opn.mk op ol oc).row = .slice op L oc := by unfold Opn.row; rw [hL]
          have hox : vxC (Opn.mk tp0 tl tc0).x = [.int .i64 2, .int .i64 0, .slice none 0 0, .slice tp0 Lt tc0] := by unfold Opn.x; rw [vxC_mk, hLt]; rfl
          have HOR := Sl.mk hor
          have HOX := Sl.mk hox
          have HLL := Sl.mk hL
          have hL2 : L ≤ 60 := by have := HFEWp.out; rw [← hL]; exact this
          clear hStW hBW hZW hwW hMAP hK hKM hL hLt hor hox
          go_wp2_with fail
          refine wp_region_X (fun _ => True) [0, 1, 2, 3] (by kernel_rfl) trivial (fun _ => ?_)
          obtain ⟨we, hwe⟩ : ∃ we, w3.drew = we := ⟨_, rfl⟩
          have HBE := Sl.mk (show Below w3.heap.size w3 we by rw [← hwe]; exact (Below.refl _ _).drew)
          rw [hwe]
          clear hwe
          refine wpAnyX_oneL (k := 0) rfl (by kernel_rfl) rfl ?_
          refine wp_of_run (v := .pointer (some ⟨we.heap.size, 0, none⟩)) (w' := we.alloc (.cells #[.bool false] 4)) (by go_simp) ⟨fun he => absurd he (by decide), ?_⟩
          simp only [Act.put, List.setIfInBounds_toArray, List.set_cons_zero, List.set_cons_succ]
          refine wpAnyX_twoL (i := 1) (j := 2) rfl rfl (by kernel_rfl) rfl rfl ?_ ?_
          · refine wp_of_skip (w' := we.alloc (.cells #[.bool true] 4)) (by go_simp) ⟨fun he => absurd he (by decide), ?_⟩
            simp only [Act.put]
            refine wpAnyX_tailF [2, 3] (by kernel_rfl) (by rfl) (by rfl) (by rfl) ?_
            simp only [List.filterMap_cons, List.filterMap_nil, List.getElem?_cons_succ, List.getElem?_cons_zero]
            go_wp2_with fail
            refine NoPanic.normal ?_
            have HB4 := Sl.mk (HBE.out.trans ((below_al (Below.refl we.heap.size we) (.cells #[.bool false] 4)).mono HBE.out.size))
            obtain ⟨w4, hw4⟩ : ∃ w4, we.alloc (.cells #[.bool false] 4) = w4 := ⟨_, rfl⟩
            rw [hw4] at HB4 ⊢
            clear hw4
            go_wp2_with fail
            obtain ⟨wd, hwd⟩ : ∃ wd, w4.drew = wd := ⟨_, rfl⟩
            have hbd : Below w3.heap.size w3 wd := by rw [← hwd]; exact HB4.out.drew
            have hSd := HSTW.out.be hbd
            have hPop := hSd.pop
            have hzd : Blk wd w.heap.size 26 #[.int .i64 0, .int .i64 0, .slice none 0 0, .slice none 0 0] := HZW.out.be hbd
            have hBd : Below (w.heap.size + 1) w0 wd := HBW.out.trans (hbd.mono (by have := HBW.out.size; omega))
            have hwdz : w2.heap.size ≤ wd.heap.size := Nat.le_trans HWW.out hbd.size
            have HSF : Sl (∀ W, Below wd.heap.size wd W → W.cell? ⟨gs, K * 4 + 3, none⟩ = some (.slice op L oc)) := Sl.mk (fun W hW => by
              have h1 := (hPop.1.be hW).hdr.1
              rw [HK.out, HOR.out] at h1
              exact h1)
            have HLV : Sl (∀ W, Below wd.heap.size wd W → (loadVar 26 ⟨gs, M * 4, none⟩).run Tryd.prog W = .ok (.agg #[.int .i64 2, .int .i64 0, .slice none 0 0, .slice tp0 Lt tc0]) W) := Sl.mk (fun W hW => by
              have h1 := (hSd.be hW).whole HM.out
              rw [HOX.out] at h1
              exact h1)
            have HSD := Sl.mk hPop
            have HBD := Sl.mk hBd
            have HZD := Sl.mk hzd
            have HWD := Sl.mk hwdz
            clear hSd hPop hzd hBd hbd hwdz
            refine wp_region_X (fun W => Below wd.heap.size wd W) [0, 1, 2, 14, 15, 16, 17] (by kernel_rfl) (by rw [hwd]; exact Below.refl _ _) (fun hS => ?_)
            rw [hwd] at hS ⊢
            clear hwd
            refine wpAnyX_P (i := 0) (v := ?_) rfl (by kernel_rfl) (by kernel_rfl) (by kernel_rfl) (by kernel_rfl) (fun _ _ _ h => h) (Or.inl ⟨by rfl, ?_⟩) ?_
            rotate_left 1
            · (intro w' hw'; (first | rw [hw'] | (have hw2 := HSF.out w' hw') | skip); go_simp; (try with_reducible rfl))
            simp only [Act.put, List.setIfInBounds_toArray, List.set_cons_zero, List.set_cons_succ]
            refine wpAnyX_P (i := 1) (v := ?_) rfl (by kernel_rfl) (by kernel_rfl) (by kernel_rfl) (by kernel_rfl) (fun _ _ _ h => h) (Or.inl ⟨by rfl, ?_⟩) ?_
            rotate_left 1
            · (intro w' hw'; (first | rw [hw'] | (have hw2 := HSF.out w' hw') | skip); go_simp; (try with_reducible rfl))
            simp only [Act.put, List.setIfInBounds_toArray, List.set_cons_zero, List.set_cons_succ]
            refine wpAnyX_P (i := 2) (v := ?_) rfl (by kernel_rfl) (by kernel_rfl) (by kernel_rfl) (by kernel_rfl) (fun _ _ _ h => h) (Or.inl ⟨by rfl, ?_⟩) ?_
            rotate_left 1
            · (intro w' hw'; (first | rw [hw'] | (have hw2 := HSF.out w' hw') | skip); go_simp; (try with_reducible rfl))
            simp only [Act.put, List.setIfInBounds_toArray, List.set_cons_zero, List.set_cons_succ]
            refine wpAnyX_S (i := 3) (v := ?_) rfl (by kernel_rfl) (by kernel_rfl) (by kernel_rfl) (by kernel_rfl) (fun _ _ _ h => h) (Or.inl ⟨by rfl, ?_⟩) hS ?_
            rotate_left 1
            · (intro w' hw'; (first | rw [hw'] | (have hw2 := HSF.out w' hw') | skip); go_simp; (try with_reducible rfl))
            simp only [Act.put, List.setIfInBounds_toArray, List.set_cons_zero, List.set_cons_succ]
            refine wpAnyX_S (i := 4) (v := ?_) rfl (by kernel_rfl) (by kernel_rfl) (by kernel_rfl) (by kernel_rfl) (fun _ _ _ h => h) (Or.inl ⟨by rfl, ?_⟩) hS ?_
            rotate_left 1
            · (intro w' hw'; (first | rw [hw'] | (have hw2 := HSF.out w' hw') | skip); go_simp; (try with_reducible rfl))
            simp only [Act.put, List.setIfInBounds_toArray, List.set_cons_zero, List.set_cons_succ]
            refine wpAnyX_S (i := 5) (v := ?_) rfl (by kernel_rfl) (by kernel_rfl) (by kernel_rfl) (by kernel_rfl) (fun _ _ _ h => h) (Or.inl ⟨by rfl, ?_⟩) hS ?_
            rotate_left 1
            · (intro w' hw'; (first | rw [hw'] | (have hw2 := HSF.out w' hw') | skip); go_simp; (try with_reducible rfl))
            simp only [Act.put, List.setIfInBounds_toArray, List.set_cons_zero, List.set_cons_succ]
            refine wpAnyX_S (i := 6) (v := ?_) rfl (by kernel_rfl) (by kernel_rfl) (by kernel_rfl) (by kernel_rfl) (fun _ _ _ h => h) (Or.inl ⟨by rfl, ?_⟩) hS ?_
            rotate_left 1
            · (intro w' hw'; (first | rw [hw'] | (have hw2 := HSF.out w' hw') | skip); go_simp; (try with_reducible rfl))
            simp only [Act.put, List.setIfInBounds_toArray, List.set_cons_zero, List.set_cons_succ]
            refine wpAnyX_S (i := 7) (v := ?_) rfl (by kernel_rfl) (by kernel_rfl) (by kernel_rfl) (by kernel_rfl) (fun _ _ _ h => h) (Or.inl ⟨by rfl, ?_⟩) hS ?_
            rotate_left 1
            · (intro w' hw'; (first | rw [hw'] | (have hw2 := HSF.out w' hw') | skip); go_simp; (try with_reducible rfl))
            simp only [Act.put, List.setIfInBounds_toArray, List.set_cons_zero, List.set_cons_succ]
            refine wpAnyX_S (i := 8) (v := ?_) rfl (by kernel_rfl) (by kernel_rfl) (by kernel_rfl) (by kernel_rfl) (fun _ _ _ h => h) (Or.inl ⟨by rfl, ?_⟩) hS ?_
            rotate_left 1
            · (intro w' hw'; (first | rw [hw'] | (have hw2 := HSF.out w' hw') | skip); go_simp; (try with_reducible rfl))
            simp only [Act.put, List.setIfInBounds_toArray, List.set_cons_zero, List.set_cons_succ]
            refine wpAnyX_S (i := 9) (v := ?_) rfl (by kernel_rfl) (by kernel_rfl) (by kernel_rfl) (by kernel_rfl) (fun _ _ _ h => h) (Or.inl ⟨by rfl, ?_⟩) hS ?_
            rotate_left 1
            · (intro w' hw'; (first | rw [hw'] | (have hw2 := HSF.out w' hw') | skip); go_simp; (try with_reducible rfl))
            simp only [Act.put, List.setIfInBounds_toArray, List.set_cons_zero, List.set_cons_succ]
            refine wpAnyX_S (i := 10) (v := ?_) rfl (by kernel_rfl) (by kernel_rfl) (by kernel_rfl) (by kernel_rfl) (fun _ _ _ h => h) (Or.inl ⟨by rfl, ?_⟩) hS ?_
            rotate_left 1
            · (intro w' hw'; (first | rw [hw'] | (have hw2 := HSF.out w' hw') | skip); go_simp; (try with_reducible rfl))
            simp only [Act.put, List.setIfInBounds_toArray, List.set_cons_zero, List.set_cons_succ]
            refine wpAnyX_S (i := 11) (v := ?_) rfl (by kernel_rfl) (by kernel_rfl) (by kernel_rfl) (by kernel_rfl) (fun _ _ _ h => h) (Or.inl ⟨by rfl, ?_⟩) hS ?_
            rotate_left 1
            · (intro w' hw'; (first | rw [hw'] | (have hw2 := HSF.out w' hw') | skip); go_simp; (try with_reducible rfl))
            simp only [Act.put, List.setIfInBounds_toArray, List.set_cons_zero, List.set_cons_succ]
            refine wpAnyX_S (i := 12) (v := .agg #[.int .i64 2, .int .i64 0, .slice none 0 0, .slice tp0 Lt tc0]) rfl (by kernel_rfl) (by kernel_rfl) (by kernel_rfl) (by kernel_rfl) (fun _ _ _ h => h) (yieldsIf_loadA (by rfl) 26 (.tmp 161) rfl ⟨gs, M * 4, none⟩ _ rfl (fun w' hw' => HLV.out w' hw')) hS ?_
            simp only [Act.put, List.setIfInBounds_toArray, List.set_cons_zero, List.set_cons_succ]
            refine wpAnyX_oneL (k := 13) rfl (by kernel_rfl) rfl ?_
            refine wp_of_run (v := .slice (some ⟨wd.heap.size, 0, none⟩) 1 1) (w' := wd.alloc (.cells #[.int .i64 2, .int .i64 0, .slice none 0 0, .slice tp0 Lt tc0] 26)) (by go_simp) ⟨fun _ => (Below.refl wd.heap.size wd).alloc (Nat.le_refl _) _, ?_⟩
            simp only [Act.put, List.setIfInBounds_toArray, List.set_cons_zero, List.set_cons_succ]
            have hb5 := below_al (Below.refl wd.heap.size wd) (.cells #[.int .i64 2, .int .i64 0, .slice none 0 0, .slice tp0 Lt tc0] 26)
            have hz5 := Blk.new wd 26 #[.int .i64 2, .int .i64 0, .slice none 0 0, .slice tp0 Lt tc0]
            have e5 : (wd.alloc (.cells #[.int .i64 2, .int .i64 0, .slice none 0 0, .slice tp0 Lt tc0] 26)).heap.size = wd.heap.size + 1 := by simp
            obtain ⟨g5, hg5⟩ : ∃ g5, wd.heap.size = g5 := ⟨_, rfl⟩
            have HG5 := Sl.mk hg5
            have eg5 : (Value.slice (some ⟨wd.heap.size, 0, none⟩) 1 1) = .slice (some ⟨g5, 0, none⟩) 1 1 := by rw [hg5]
            rw [eg5]
            rw [hg5] at hz5
            obtain ⟨w5, hw5⟩ : ∃ w5, wd.alloc (.cells #[.int .i64 2, .int .i64 0, .slice none 0 0, .slice tp0 Lt tc0] 26) = w5 := ⟨_, rfl⟩
            rw [hw5] at hb5 hz5 e5 ⊢
            clear hw5 hg5 eg5 hS
            obtain ⟨hz0, hz1, hz2, hz3⟩ := HINF.out
            have hS5 := HSD.out.1.be hb5
            have hX5 := free_be HSD.out.2 hb5
            have hkid : w5.ownsRow (w.heap.size + 1) 26 4 (.slice op L oc) L (vxsC ol) := by
              have h := hS5.kid ⟨op, ol, oc⟩ (by simp)
              have e : (Opn.mk op ol oc).l.length = L := HLL.out
              rw [HOR.out, e] at h
              exact h
            have hsz5 := hb5.size
            have hbs := HBD.out.size
            have hRz : Reads w5 w5.heap.size 4 (some ⟨g5, 0, none⟩) 1 (vxC (Opn.mk tp0 tl tc0).x) := ⟨by rw [vxC_len], fun _ => ⟨_, rfl, hz5.lt, fun j u hu => by rw [HOX.out] at hu; rw [ad_zero, hz5.cell j]; simpa using hu⟩⟩
            refine wpAnyX_tailF [14, 15, 16, 17] (by kernel_rfl) (by rfl) (by rfl) (by rfl) ?_
            simp only [List.filterMap_cons, List.filterMap_nil, List.getElem?_cons_succ, List.getElem?_cons_zero]
            refine wpList_append_any w5 rfl (.tmp 158) (.tmp 163) 24 rfl (w.heap.size + 1) 26 i0 (.agg #[.int .i64 0, .int .i64 0, .slice none 0 0, .slice none 0 0]) 4 64 Tryd.underlying24 hz0 hz1 hz2 hz3 rfl (by decide) (.slice op L oc) L (vxsC ol) rfl hkid w5.heap.size (some ⟨g5, 0, none⟩) 1 1 (vxC (Opn.mk tp0 tl tc0).x) rfl hRz (vxC_one _) (by unfold maxLen; omega) (by omega) (by omega) ?_
            intro v6 w6 ho6 hg6 hv6
            obtain ⟨gx, cx, rfl, -⟩ := ownCells ho6 (Nat.succ_pos L)
            have HP := push_hdr (x := (Opn.mk tp0 tl tc0).x) hS5 HK.out HLL.out (by omega) hX5 (by omega) ho6 (by unfold Opn.blk; rw [HOR.out]; exact hg6) (by unfold Opn.blk; rw [HOR.out]; exact hv6)
            have hb6 : Below (w.heap.size + 1) w0 w6 := (HBD.out.trans (hb5.mono (by omega))).grown hg6 (by omega) (fun g e => (hkid.lt g e).1)
            have hsz6 := hg6.size
            have hw62 : w2.heap.size ≤ w6.heap.size := by have := HWD.out; omega
            have hZ6 : Blk w6 w.heap.size 26 #[.int .i64 0, .int .i64 0, .slice none 0 0, .slice none 0 0] := (HZD.out.be hb5).grown hg6 (fun e => by have := (hkid.lt _ e.symm).1; omega)
            obtain ⟨⟨hc6, hf6⟩, hk7, hb7⟩ := HP
            rw [HOR.out] at hc6
            have HF := Sl.mk (close_end (ps := ps') (o := ⟨tp0, tl, tc0⟩) (p := ⟨op, ol, oc⟩) hk7 (hb6.trans hb7) (hZ6.below hb7 (Nat.lt_succ_self _)) (by have h := HMAP.out; rw [List.append_assoc] at h; exact h) (Nat.le_trans hw62 hb7.size))
            clear hz0 hz1 hz2 hz3 hS5 hX5 hkid hRz ho6 hg6 hv6 hb6 hZ6 hb5 hz5 hsz5 hsz6 hbs hw62 hk7 hb7 e5 HSD HBD HZD HLV HSF
            obtain ⟨w7, hw7⟩ : ∃ w7, w6.setCell ⟨gs, K * 4 + 3, none⟩ (.slice (some ⟨gx, 0, none⟩) (L + 1) cx) = w7 := ⟨_, rfl⟩
            have HW7 := Sl.mk hw7
            rw [hw7] at HF
            clear hw7
            obtain ⟨p2, hp2⟩ : ∃ p2 : Opn, p2 = ⟨some ⟨gx, 0, none⟩, ol ++ [(Opn.mk tp0 tl tc0).x], cx⟩ := ⟨_, rfl⟩
            rw [← hp2] at HF
            clear hp2
            go_wp2_with fail
            refine NoPanic.normal ?_
            rw [HW7.out]
            clear HW7
            go_wp2_with fail
            go_roundw
            case rel => exact ⟨i + 1, M, cs, _, ps' ++ [p2], okq, dq, by omega, by omega, by omega, by go_num, rfl, rfl, rfl, HF.out.2.2.1, HF.out.2.1, ⟨⟨HF.out.1, by rw [tkf_succ HX.out, HST.out.1]; exact HF.out.2.2.2.1.1, by simp⟩, by rw [tkf_succ HX.out, HST.out.2.1]; exact HS.out.2.1, by rw [tkf_succ HX.out, HST.out.2.2]; exact HS.out.2.2.1, HF.out.2.2.2.2⟩⟩
            case measure => simp [intOf]; omega
          · refine wp_of_skip (w' := we.alloc (.cells #[.bool false] 4)) (by go_simp) ⟨fun he => absurd he (by decide), ?_⟩
            simp only [Act.put]
            refine wpAnyX_tailF [1, 3] (by kernel_rfl) (by rfl) (by rfl) (by rfl) ?_
            simp only [List.filterMap_cons, List.filterMap_nil, List.getElem?_cons_succ, List.getElem?_cons_zero]
            go_wp2_with fail
            refine NoPanic.normal ?_
            have HB4 := Sl.mk (HBE.out.trans ((below_al (Below.refl we.heap.size we) (.cells #[.bool true] 4)).mono HBE.out.size))
            obtain ⟨w4, hw4⟩ : ∃ w4, we.alloc (.cells #[.bool true] 4) = w4 := ⟨_, rfl⟩
            rw [hw4] at HB4 ⊢
            clear hw4
            go_wp2_with fail
            obtain ⟨wd, hwd⟩ : ∃ wd, w4.drew = wd := ⟨_, rfl⟩
            have hbd : Below w3.heap.size w3 wd := by rw [← hwd]; exact HB4.out.drew
            have hSd := HSTW.out.be hbd
            have hPop := hSd.pop
            have hzd : Blk wd w.heap.size 26 #[.int .i64 0, .int .i64 0, .slice none 0 0, .slice none 0 0] := HZW.out.be hbd
            have hBd : Below (w.heap.size + 1) w0 wd := HBW.out.trans (hbd.mono (by have := HBW.out.size; omega))
            have hwdz : w2.heap.size ≤ wd.heap.size := Nat.le_trans HWW.out hbd.size
            have HSF : Sl (∀ W, Below wd.heap.size wd W → W.cell? ⟨gs, K * 4 + 3, none⟩ = some (.slice op L oc)) := Sl.mk (fun W hW => by
              have h1 := (hPop.1.be hW).hdr.1
              rw [HK.out, HOR.out] at h1
              exact h1)
            have HLV : Sl (∀ W, Below wd.heap.size wd W → (loadVar 26 ⟨gs, M * 4, none⟩).run Tryd.prog W = .ok (.agg #[.int .i64 2, .int .i64 0, .slice none 0 0, .slice tp0 Lt tc0]) W) := Sl.mk (fun W hW => by
              have h1 := (hSd.be hW).whole HM.out
              rw [HOX.out] at h1
              exact h1)
            have HSD := Sl.mk hPop
            have HBD := Sl.mk hBd
            have HZD := Sl.mk hzd
            have HWD := Sl.mk hwdz
            clear hSd hPop hzd hBd hbd hwdz
            refine wp_region_X (fun W => Below wd.heap.size wd W) [15, 16, 17, 18] (by kernel_rfl) (by rw [hwd]; exact Below.refl _ _) (fun hS => ?_)
            rw [hwd] at hS ⊢
            clear hwd
            refine wpAnyX_S (i := 0) (v := ?_) rfl (by kernel_rfl) (by kernel_rfl) (by kernel_rfl) (by kernel_rfl) (fun _ _ _ h => h) (Or.inl ⟨by rfl, ?_⟩) hS ?_
            rotate_left 1
            · (intro w' hw'; (first | rw [hw'] | (have hw2 := HSF.out w' hw') | skip); go_simp; (try with_reducible rfl))
            simp only [Act.put, List.setIfInBounds_toArray, List.set_cons_zero, List.set_cons_succ]
            refine wpAnyX_S (i := 1) (v := ?_) rfl (by kernel_rfl) (by kernel_rfl) (by kernel_rfl) (by kernel_rfl) (fun _ _ _ h => h) (Or.inl ⟨by rfl, ?_⟩) hS ?_
            rotate_left 1
            · (intro w' hw'; (first | rw [hw'] | (have hw2 := HSF.out w' hw') | skip); go_simp; (try with_reducible rfl))
            simp only [Act.put, List.setIfInBounds_toArray, List.set_cons_zero, List.set_cons_succ]
            refine wpAnyX_S (i := 2) (v := ?_) rfl (by kernel_rfl) (by kernel_rfl) (by kernel_rfl) (by kernel_rfl) (fun _ _ _ h => h) (Or.inl ⟨by rfl, ?_⟩) hS ?_
            rotate_left 1
            · (intro w' hw'; (first | rw [hw'] | (have hw2 := HSF.out w' hw') | skip); go_simp; (try with_reducible rfl))
            simp only [Act.put, List.setIfInBounds_toArray, List.set_cons_zero, List.set_cons_succ]
            refine wpAnyX_S (i := 3) (v := ?_) rfl (by kernel_rfl) (by kernel_rfl) (by kernel_rfl) (by kernel_rfl) (fun _ _ _ h => h) (Or.inl ⟨by rfl, ?_⟩) hS ?_
            rotate_left 1
            · (intro w' hw'; (first | rw [hw'] | (have hw2 := HSF.out w' hw') | skip); go_simp; (try with_reducible rfl))
            simp only [Act.put, List.setIfInBounds_toArray, List.set_cons_zero, List.set_cons_succ]
            refine wpAnyX_S (i := 4) (v := ?_) rfl (by kernel_rfl) (by kernel_rfl) (by kernel_rfl) (by kernel_rfl) (fun _ _ _ h => h) (Or.inl ⟨by rfl, ?_⟩) hS ?_
            rotate_left 1
            · (intro w' hw'; (first | rw [hw'] | (have hw2 := HSF.out w' hw') | skip); go_simp; (try with_reducible rfl))
            simp only [Act.put, List.setIfInBounds_toArray, List.set_cons_zero, List.set_cons_succ]
            refine wpAnyX_S (i := 5) (v := ?_) rfl (by kernel_rfl) (by kernel_rfl) (by kernel_rfl) (by kernel_rfl) (fun _ _ _ h => h) (Or.inl ⟨by rfl, ?_⟩) hS ?_
            rotate_left 1
            · (intro w' hw'; (first | rw [hw'] | (have hw2 := HSF.out w' hw') | skip); go_simp; (try with_reducible rfl))
            simp only [Act.put, List.setIfInBounds_toArray, List.set_cons_zero, List.set_cons_succ]
            refine wpAnyX_S (i := 6) (v := ?_) rfl (by kernel_rfl) (by kernel_rfl) (by kernel_rfl) (by kernel_rfl) (fun _ _ _ h => h) (Or.inl ⟨by rfl, ?_⟩) hS ?_
            rotate_left 1
            · (intro w' hw'; (first | rw [hw'] | (have hw2 := HSF.out w' hw') | skip); go_simp; (try with_reducible rfl))
            simp only [Act.put, List.setIfInBounds_toArray, List.set_cons_zero, List.set_cons_succ]
            refine wpAnyX_S (i := 7) (v := ?_) rfl (by kernel_rfl) (by kernel_rfl) (by kernel_rfl) (by kernel_rfl) (fun _ _ _ h => h) (Or.inl ⟨by rfl, ?_⟩) hS ?_
            rotate_left 1
            · (intro w' hw'; (first | rw [hw'] | (have hw2 := HSF.out w' hw') | skip); go_simp; (try with_reducible rfl))
            simp only [Act.put, List.setIfInBounds_toArray, List.set_cons_zero, List.set_cons_succ]
            refine wpAnyX_S (i := 8) (v := ?_) rfl (by kernel_rfl) (by kernel_rfl) (by kernel_rfl) (by kernel_rfl) (fun _ _ _ h => h) (Or.inl ⟨by rfl, ?_⟩) hS ?_
            rotate_left 1
            · (intro w' hw'; (first | rw [hw'] | (have hw2 := HSF.out w' hw') | skip); go_simp; (try with_reducible rfl))
            simp only [Act.put, List.setIfInBounds_toArray, List.set_cons_zero, List.set_cons_succ]
            refine wpAnyX_S (i := 9) (v := ?_) rfl (by kernel_rfl) (by kernel_rfl) (by kernel_rfl) (by kernel_rfl) (fun _ _ _ h => h) (Or.inl ⟨by rfl, ?_⟩) hS ?_
            rotate_left 1
            · (intro w' hw'; (first | rw [hw'] | (have hw2 := HSF.out w' hw') | skip); go_simp; (try with_reducible rfl))
            simp only [Act.put, List.setIfInBounds_toArray, List.set_cons_zero, List.set_cons_succ]
            refine wpAnyX_S (i := 10) (v := ?_) rfl (by kernel_rfl) (by kernel_rfl) (by kernel_rfl) (by kernel_rfl) (fun _ _ _ h => h) (Or.inl ⟨by rfl, ?_⟩) hS ?_
            rotate_left 1
            · (intro w' hw'; (first | rw [hw'] | (have hw2 := HSF.out w' hw') | skip); go_simp; (try with_reducible rfl))
            simp only [Act.put, List.setIfInBounds_toArray, List.set_cons_zero, List.set_cons_succ]
            refine wpAnyX_S (i := 11) (v := ?_) rfl (by kernel_rfl) (by kernel_rfl) (by kernel_rfl) (by kernel_rfl) (fun _ _ _ h => h) (Or.inl ⟨by rfl, ?_⟩) hS ?_
            rotate_left 1
            · (intro w' hw'; (first | rw [hw'] | (have hw2 := HSF.out w' hw') | skip); go_simp; (try with_reducible rfl))
            simp only [Act.put, List.setIfInBounds_toArray, List.set_cons_zero, List.set_cons_succ]
            refine wpAnyX_S (i := 12) (v := .agg #[.int .i64 2, .int .i64 0, .slice none 0 0, .slice tp0 Lt tc0]) rfl (by kernel_rfl) (by kernel_rfl) (by kernel_rfl) (by kernel_rfl) (fun _ _ _ h => h) (yieldsIf_loadA (by rfl) 26 (.tmp 142) rfl ⟨gs, M * 4, none⟩ _ rfl (fun w' hw' => HLV.out w' hw')) hS ?_
            simp only [Act.put, List.setIfInBounds_toArray, List.set_cons_zero, List.set_cons_succ]
            refine wpAnyX_S (i := 13) (v := ?_) rfl (by kernel_rfl) (by kernel_rfl) (by kernel_rfl) (by kernel_rfl) (fun _ _ _ h => h) (Or.inl ⟨by rfl, ?_⟩) hS ?_
            rotate_left 1
            · (intro w' hw'; (first | rw [hw'] | (have hw2 := HSF.out w' hw') | skip); go_simp; (try with_reducible rfl))
            simp only [Act.put, List.setIfInBounds_toArray, List.set_cons_zero, List.set_cons_succ]
            refine wpAnyX_oneL (k := 14) rfl (by kernel_rfl) rfl ?_
            refine wp_of_run (v := .slice (some ⟨wd.heap.size, 0, none⟩) 1 1) (w' := wd.alloc (.cells #[.int .i64 0, .int .i64 0, .slice none 0 0, .slice none 0 0] 26)) (by go_simp) ⟨fun _ => (Below.refl wd.heap.size wd).alloc (Nat.le_refl _) _, ?_⟩
            simp only [Act.put, List.setIfInBounds_toArray, List.set_cons_zero, List.set_cons_succ]
            have hb5 := below_al (Below.refl wd.heap.size wd) (.cells #[.int .i64 0, .int .i64 0, .slice none 0 0, .slice none 0 0] 26)
            have hz5 := Blk.new wd 26 #[.int .i64 0, .int .i64 0, .slice none 0 0, .slice none 0 0]
            have e5 : (wd.alloc (.cells #[.int .i64 0, .int .i64 0, .slice none 0 0, .slice none 0 0] 26)).heap.size = wd.heap.size + 1 := by simp
            obtain ⟨g5, hg5⟩ : ∃ g5, wd.heap.size = g5 := ⟨_, rfl⟩
            have HG5 := Sl.mk hg5
            have eg5 : (Value.slice (some ⟨wd.heap.size, 0, none⟩) 1 1) = .slice (some ⟨g5, 0, none⟩) 1 1 := by rw [hg5]
            rw [eg5]
            rw [hg5] at hz5
            obtain ⟨w5, hw5⟩ : ∃ w5, wd.alloc (.cells #[.int .i64 0, .int .i64 0, .slice none 0 0, .slice none 0 0] 26) = w5 := ⟨_, rfl⟩
            rw [hw5] at hb5 hz5 e5 ⊢
            clear hw5 hg5 eg5 hS
            obtain ⟨hz0, hz1, hz2, hz3⟩ := HINF.out
            have hS5 := HSD.out.1.be hb5
            have hX5 := free_be HSD.out.2 hb5
            have hkid : w5.ownsRow (w.heap.size + 1) 26 4 (.slice op L oc) L (vxsC ol) := by
              have h := hS5.kid ⟨op, ol, oc⟩ (by simp)
              have e : (Opn.mk op ol oc).l.length = L := HLL.out
              rw [HOR.out, e] at h
              exact h
            have hsz5 := hb5.size
            have hbs := HBD.out.size
            have hRz : Reads w5 w5.heap.size 4 (some ⟨g5, 0, none⟩) 1 [.int .i64 0, .int .i64 0, .slice none 0 0, .slice none 0 0] := ⟨rfl, fun _ => ⟨_, rfl, hz5.lt, fun j u hu => by rw [ad_zero, hz5.cell j]; simpa using hu⟩⟩
            refine wpAnyX_tailF [15, 16, 17, 18] (by kernel_rfl) (by rfl) (by rfl) (by rfl) ?_
            simp only [List.filterMap_cons, List.filterMap_nil, List.getElem?_cons_succ, List.getElem?_cons_zero]
            refine wpList_append_any w5 rfl (.tmp 139) (.tmp 145) 24 rfl (w.heap.size + 1) 26 i0 (.agg #[.int .i64 0, .int .i64 0, .slice none 0 0, .slice none 0 0]) 4 64 Tryd.underlying24 hz0 hz1 hz2 hz3 rfl (by decide) (.slice op L oc) L (vxsC ol) rfl hkid w5.heap.size (some ⟨g5, 0, none⟩) 1 1 _ rfl hRz (vxC_one (.mk 0 0 none [] 0 none [] 0)) (by unfold maxLen; omega) (by omega) (by omega) ?_
            intro v6 w6 ho6 hg6 hv6
            obtain ⟨gx, cx, rfl, -⟩ := ownCells ho6 (Nat.succ_pos L)
            have HP := push_facts (x := (Opn.mk tp0 tl tc0).x) hS5 HK.out HLL.out (by omega) hX5 rfl (by omega) ho6 (by unfold Opn.blk; rw [HOR.out]; exact hg6) (by unfold Opn.blk; rw [HOR.out]; exact hv6)
            have hb6 : Below (w.heap.size + 1) w0 w6 := (HBD.out.trans (hb5.mono (by omega))).grown hg6 (by omega) (fun g e => (hkid.lt g e).1)
            have hsz6 := hg6.size
            have hw62 : w2.heap.size ≤ w6.heap.size := by have := HWD.out; omega
            have hZ6 : Blk w6 w.heap.size 26 #[.int .i64 0, .int .i64 0, .slice none 0 0, .slice none 0 0] := (HZD.out.be hb5).grown hg6 (fun e => by have := (hkid.lt _ e.symm).1; omega)
            obtain ⟨hc6, hf6⟩ := HP.ce
            rw [HOR.out] at hc6
            have hba := HP.ba
            rw [show (Opn.mk (some ⟨gx, 0, none⟩) (ol ++ [(Opn.mk tp0 tl tc0).x]) cx).row = .slice (some ⟨gx, 0, none⟩) (L + 1) cx by unfold Opn.row; simp [HLL.out]] at hba
            obtain ⟨w7, hw7⟩ : ∃ w7, w6.setCell ⟨gs, K * 4 + 3, none⟩ (.slice (some ⟨gx, 0, none⟩) (L + 1) cx) = w7 := ⟨_, rfl⟩
            rw [hw7] at hba
            obtain ⟨ht7, hk7, hb7⟩ := hba
            have HF := Sl.mk (close_end (ps := ps') (o := ⟨tp0, tl, tc0⟩) (p := ⟨op, ol, oc⟩) hk7 (hb6.trans hb7) (hZ6.below hb7 (Nat.lt_succ_self _)) (by have h := HMAP.out; rw [List.append_assoc] at h; exact h) (Nat.le_trans hw62 hb7.size))
            have HT7 := Sl.mk ht7
            have HW7 := Sl.mk hw7
            have hLL1 : (L : Int) < (L : Int) + 1 := by omega
            clear hz0 hz1 hz2 hz3 hS5 hX5 hkid hRz ho6 hg6 hv6 hb6 hZ6 hb5 hz5 hsz5 hsz6 hbs hw62 hk7 hb7 e5 HSD HBD HZD HLV HSF HP ht7 hw7
            rw [HOX.out] at HF
            go_wp2_with fail
            refine NoPanic.normal ?_
            rw [HW7.out]
            clear hc6 hf6 HW7
            obtain ⟨p2, hp2⟩ : ∃ p2 : Opn, p2 = ⟨some ⟨gx, 0, none⟩, ol ++ [(Opn.mk tp0 tl tc0).x], cx⟩ := ⟨_, rfl⟩
            rw [← hp2] at HF
            clear hp2
            go_wp2_with (refine wpList_store_midL rfl 26 (.tmp 149) (.tmp 143) rfl gx (L * 4) #[.int .i64 2, .int .i64 0, .slice none 0 0, .slice tp0 Lt tc0] rfl rfl HT7.out (by rw [vxSize]; rfl) (all_one (x := (Opn.mk tp0 tl tc0).x) (by rw [HOX.out])) ?_)
            intro w8 hw8
            have hw8 : w7.setCells gx (L * 4) [.int .i64 2, .int .i64 0, .slice none 0 0, .slice tp0 Lt tc0] = w8 := hw8.out
            rw [hw8] at HF
            clear hw8 HT7
            go_wp2_with fail
            go_roundw
            case rel => exact ⟨i + 1, M, cs, _, ps' ++ [p2], okq, dq, by omega, by omega, by omega, by go_num, rfl, rfl, rfl, HF.out.2.2.1, HF.out.2.1, ⟨⟨HF.out.1, by rw [tkf_succ HX.out, HST.out.1]; exact HF.out.2.2.2.1.1, by simp⟩, by rw [tkf_succ HX.out, HST.out.2.1]; exact HS.out.2.1, by rw [tkf_succ HX.out, HST.out.2.2]; exact HS.out.2.2.1, HF.out.2.2.2.2⟩⟩
            case measure => simp [intOf]; omega
      · as_aux_lemma =>
        have hr : (U : Int) % 5 = 4 := by omega
        have HST := Sl.mk (step_bad (q := tkf l i) (t := ⟨tk, tn, tb⟩) (by rw [HUR.out]; omega))
        have HLF := Sl.mk (show (Vx.mk tn tn A3 (tb.take mq) c3 none [] 0).v = leafT ⟨tk, tn, tb⟩ by
          unfold leafT
          rw [if_neg (by rw [HUR.out]; omega), if_neg (by rw [HUR.out]; omega)]
          show Vc.mk tn tn (tb.take mq) [] = _
          unfold Tk.b100
          rw [HTK.out])
        have HTL := Sl.mk (show (tb.take mq).length = mq by rw [List.length_take, HQ.out]; omega)
        obtain ⟨rq, hrq⟩ : ∃ rq, (okq && (decide (tn = 0) && decide (mq = 0))) = rq := ⟨_, rfl⟩
        have HRQ := Sl.mk (show (okq && (decide (tn = 0) && decide ((⟨tk, tn, tb⟩ : Tk).b100 = []))) = rq by
          rw [← hrq]
          have e : decide ((⟨tk, tn, tb⟩ : Tk).b100 = []) = decide (mq = 0) := by
            have e1 : (⟨tk, tn, tb⟩ : Tk).b100 = tb.take mq := by unfold Tk.b100; rw [HTK.out]
            rw [e1]
            have h2 := HTL.out
            by_cases h0 : mq = 0
            · rw [decide_eq_true h0, h0]; simp
            · rw [decide_eq_false h0]
              refine decide_eq_false fun h3 => ?_
              rw [h3] at h2
              exact h0 h2.symm
          rw [e])
        obtain ⟨d2, hd2⟩ : ∃ d2, (if tn = 2 then max dq (m + 1) else dq) = d2 := ⟨_, rfl⟩
        have HD2 := Sl.mk hd2
        have HRQ2 := Sl.mk hrq
        clear r0 r1 r2 r3 HUR hrq hd2
        have hba := below_al (Below.refl w3.heap.size w3) (.cells #[.int .i64 tn, .int .i64 tn, .slice A3 mq c3, .slice none 0 0] 26)
        have hT12 := Blk.new w3 26 #[.int .i64 tn, .int .i64 tn, .slice A3 mq c3, .slice none 0 0]
        have hX3 := hX3.be hba
        have HSt3 := Sl.mk (HSt3.out.be hba)
        have HZ3 := Sl.mk (HZ3.out.be hba)
        have hB4 := HB3.out.trans (hba.mono (by have := HB3.out.size; omega))
        have HB3 := Sl.mk hB4
        have HOWN3 := Sl.mk (own_below HOWN3.out hba)
        have hszA := hba.size
        go_upto_region 11 with fail
        obtain ⟨w4, hw4⟩ : ∃ w4, w3.alloc (.cells #[.int .i64 tn, .int .i64 tn, .slice A3 mq c3, .slice none 0 0] 26) = w4 := ⟨_, rfl⟩
        rw [hw4] at hX3 HSt3 HZ3 HB3 HOWN3 hszA hT12 ⊢
        rw [hr]
        have hsz3' : wr.heap.size ≤ w4.heap.size := by omega
        have hsz3'' : wr.heap.size + 1 ≤ w4.heap.size := by omega
        have HT12 := Sl.mk hT12
        clear hw4 hba hB4 hT12 hszA c0 c1 c2
        have c0 := hX3.cell 0
        have c1 := hX3.cell 1
        have c2 := hX3.cell 2
        go_cut [6] (fun v6 wx => v6 = .bool rq ∧ wx = w4)
        case first =>
          cases okq
          · have e := HRQ2.out
            simp only [Bool.false_and] at e
            subst e
            go_wp2_with fail
            go_meet
            exact ⟨rfl, rfl⟩
          · by_cases n0 : tn = 0
            · by_cases q0 : mq = 0
              · have e := HRQ2.out
                rw [decide_eq_true n0, decide_eq_true q0] at e
                simp only [Bool.and_self] at e
                subst e
                have hn0 : (tn == 0) = true := by simpa using n0
                have hq0 : ((mq : Int) == 0) = true := by simp [q0]
                have hq0' : (mq == 0) = true := by simp [q0]
                clear n0 q0
                go_wp2_with fail
                go_meet
                exact ⟨rfl, rfl⟩
              · have e := HRQ2.out
                rw [decide_eq_true n0, decide_eq_false q0] at e
                simp only [Bool.and_false] at e
                subst e
                have hn0 : (tn == 0) = true := by simpa using n0
                have hq0 : ((mq : Int) == 0) = false := by simpa using q0
                have hq0' : (mq == 0) = false := by simpa using q0
                clear n0 q0
                go_wp2_with fail
                go_meet
                exact ⟨rfl, rfl⟩
            · have e := HRQ2.out
              rw [decide_eq_false n0] at e
              simp only [Bool.true_and, Bool.false_and] at e
              subst e
              have hn0 : (tn == 0) = false := by simpa using n0
              clear n0
              go_wp2_with fail
              go_meet
              exact ⟨rfl, rfl⟩
        case rest =>
          obtain ⟨rfl, hwc⟩ := hcut
          have hwc' := hwc.symm
          clear hwc
          subst hwc'
          have hmax : max (dq : Int) ((m : Int) + 1) = ((max dq (m + 1) : Nat) : Int) := by omega
          go_upto_if 65 with fail
          go_cut [7] (fun v7 wx => v7 = .int .i64 d2 ∧ wx = w4)
          case first =>
            by_cases n2 : tn = 2
            · have e := HD2.out
              rw [if_pos n2] at e
              subst e
              have hn2 : (tn == 2) = true := by simpa using n2
              clear n2
              go_wp2_with fail
              go_meet
              exact ⟨rfl, rfl⟩
            · have e := HD2.out
              rw [if_neg n2] at e
              subst e
              have hn2 : (tn == 2) = false := by simpa using n2
              clear n2
              go_wp2_with fail
              go_meet
              exact ⟨rfl, rfl⟩
          case rest =>
            obtain ⟨rfl, hwc⟩ := hcut
            have hwc' := hwc.symm
            clear hwc
            subst hwc'
            go_wp2_with fail
            obtain ⟨wd, hwd⟩ : ∃ wd, w4.drew = wd := ⟨_, rfl⟩
            have hSd : Stk wd (w.heap.size + 1) (some ⟨gs, 0, none⟩) m cs (ps ++ [o]) := by rw [← hwd]; exact HSt3.out.be (Below.refl _ _).drew
            have hXd : Blk wd wr.heap.size 51 #[.int .i64 tk, .int .i64 tn, .slice tp q tc] := by rw [← hwd]; exact hX3.drew
            have hZd : Blk wd w.heap.size 26 #[.int .i64 0, .int .i64 0, .slice none 0 0, .slice none 0 0] := by rw [← hwd]; exact HZ3.out.drew
            have hBd : Below (w.heap.size + 1) w0 wd := by rw [← hwd]; exact HB3.out.drew
            have hOd : wd.ownsRow (wr.heap.size + 1) 5 1 (.slice A3 mq c3) mq (u8s (tb.take mq)) := by rw [← hwd]; exact own_below HOWN3.out (Below.refl _ _).drew
            have hzd : w2.heap.size ≤ wd.heap.size := by rw [← hwd]; exact Nat.le_trans hsr hsz3'
            have hzr : wr.heap.size + 1 ≤ wd.heap.size := by rw [← hwd]; exact hsz3''
            have HSF : Sl (∀ W, Below wd.heap.size wd W → (W.cell? ⟨gs, M * 4 + 3, none⟩ = some o.row ∧ W.cell? ⟨wr.heap.size, 0, none⟩ = some (.int .i64 tk) ∧ W.cell? ⟨wr.heap.size, 1, none⟩ = some (.int .i64 tn))) := Sl.mk (fun W hW => ⟨by have := (hSd.be hW).hdr.1; rw [HM.out] at this; exact this, (hXd.be hW).cell 0, (hXd.be hW).cell 1⟩)
            have HPM := Sl.mk (HM.out)
            have HSD := Sl.mk hSd
            have HBD := Sl.mk hBd
            have HZD := Sl.mk hZd
            have HOD := Sl.mk hOd
            have hML : M * 4 + 3 = M * 4 + 3 := rfl
            obtain ⟨op, ol, oc⟩ := o
            obtain ⟨L, hL⟩ : ∃ L, ol.length = L := ⟨_, rfl⟩
            have hor : (Opn.mk op ol oc).row = .slice op L oc := by unfold Opn.row; rw [hL]
            rw [hor] at HSF
            have HLL := Sl.mk hL
            have hL2 : L ≤ 60 := by have := HFEW.out; rw [← hL]; exact this
            have HOR := Sl.mk hor
            have hT12d : Blk wd w3.heap.size 26 #[.int .i64 tn, .int .i64 tn, .slice A3 mq c3, .slice none 0 0] := by rw [← hwd]; exact HT12.out.drew
            have HLV : Sl (∀ W, Below wd.heap.size wd W → (loadVar 26 ⟨w3.heap.size, 0, none⟩).run Tryd.prog W = .ok (.agg #[.int .i64 tn, .int .i64 tn, .slice A3 mq c3, .slice none 0 0]) W) := Sl.mk (fun W hW => load_blk (hT12d.be hW) (d := .struct _) Tryd.underlying26 rfl vxSize W ⟨0, rfl⟩)
            have HXV : Sl (∀ W, Below wd.heap.size wd W → VxOk W (Free W (w.heap.size + 1) (some gs) (ps ++ [⟨op, ol, oc⟩])) (.mk tn tn A3 (tb.take mq) c3 none [] 0)) := Sl.mk (fun W hW => free_be (tok_ok HS.out.1.stk HOD.out HTL.out hmq1 (by have := HS.out.1.stk.row.lt gs rfl; omega) HTN.out.1 HTN.out.2 HBY.out) hW)
            clear hT12d
            clear hX3 hSd hXd hZd hBd hOd hML hL hor c0 c1 c2
            refine wp_region_X (fun W => Below wd.heap.size wd W) [8, 9, 10, 11, 12, 13] (by kernel_rfl) (by rw [hwd]; exact Below.refl _ _) (fun hS => ?_)
            rw [hwd] at hS ⊢
            clear hwd
            refine wpAnyX_S (i := 0) (v := ?_) rfl (by kernel_rfl) (by kernel_rfl) (by kernel_rfl) (by kernel_rfl) (fun _ _ _ h => h) (Or.inl ⟨by rfl, ?_⟩) hS ?_
            rotate_left 1
            · (intro w' hw'; (first | rw [hw'] | (have hw2 := HSF.out w' hw') | skip); go_simp; (try with_reducible rfl))
            simp only [Act.put, List.setIfInBounds_toArray, List.set_cons_zero, List.set_cons_succ]
            refine wpAnyX_S (i := 1) (v := ?_) rfl (by kernel_rfl) (by kernel_rfl) (by kernel_rfl) (by kernel_rfl) (fun _ _ _ h => h) (Or.inl ⟨by rfl, ?_⟩) hS ?_
            rotate_left 1
            · (intro w' hw'; (first | rw [hw'] | (have hw2 := HSF.out w' hw') | skip); go_simp; (try with_reducible rfl))
            simp only [Act.put, List.setIfInBounds_toArray, List.set_cons_zero, List.set_cons_succ]
            refine wpAnyX_S (i := 2) (v := ?_) rfl (by kernel_rfl) (by kernel_rfl) (by kernel_rfl) (by kernel_rfl) (fun _ _ _ h => h) (Or.inl ⟨by rfl, ?_⟩) hS ?_
            rotate_left 1
            · (intro w' hw'; (first | rw [hw'] | (have hw2 := HSF.out w' hw') | skip); go_simp; (try with_reducible rfl))
            simp only [Act.put, List.setIfInBounds_toArray, List.set_cons_zero, List.set_cons_succ]
            refine wpAnyX_S (i := 3) (v := ?_) rfl (by kernel_rfl) (by kernel_rfl) (by kernel_rfl) (by kernel_rfl) (fun _ _ _ h => h) (Or.inl ⟨by rfl, ?_⟩) hS ?_
            rotate_left 1
            · (intro w' hw'; (first | rw [hw'] | (have hw2 := HSF.out w' hw') | skip); go_simp; (try with_reducible rfl))
            simp only [Act.put, List.setIfInBounds_toArray, List.set_cons_zero, List.set_cons_succ]
            refine wpAnyX_S (i := 4) (v := ?_) rfl (by kernel_rfl) (by kernel_rfl) (by kernel_rfl) (by kernel_rfl) (fun _ _ _ h => h) (Or.inl ⟨by rfl, ?_⟩) hS ?_
            rotate_left 1
            · (intro w' hw'; (first | rw [hw'] | (have hw2 := HSF.out w' hw') | skip); go_simp; (try with_reducible rfl))
            simp only [Act.put, List.setIfInBounds_toArray, List.set_cons_zero, List.set_cons_succ]
            refine wpAnyX_S (i := 5) (v := .agg #[.int .i64 tn, .int .i64 tn, .slice A3 mq c3, .slice none 0 0]) rfl (by kernel_rfl) (by kernel_rfl) (by kernel_rfl) (by kernel_rfl) (fun _ _ _ h => h) (yieldsIf_loadA (by rfl) 26 (.tmp 12) rfl ⟨w3.heap.size, 0, none⟩ _ rfl (fun w' hw' => HLV.out w' hw')) hS ?_
            simp only [Act.put, List.setIfInBounds_toArray, List.set_cons_zero, List.set_cons_succ]
            refine wpAnyX_S (i := 6) (v := ?_) rfl (by kernel_rfl) (by kernel_rfl) (by kernel_rfl) (by kernel_rfl) (fun _ _ _ h => h) (Or.inl ⟨by rfl, ?_⟩) hS ?_
            rotate_left 1
            · (intro w' hw'; (first | rw [hw'] | (have hw2 := HSF.out w' hw') | skip); go_simp; (try with_reducible rfl))
            simp only [Act.put, List.setIfInBounds_toArray, List.set_cons_zero, List.set_cons_succ]
            refine wpAnyX_oneL (k := 7) rfl (by kernel_rfl) rfl ?_
            refine wp_of_run (v := .slice (some ⟨wd.heap.size, 0, none⟩) 1 1) (w' := wd.alloc (.cells #[.int .i64 0, .int .i64 0, .slice none 0 0, .slice none 0 0] 26)) (by go_simp) ⟨fun _ => (Below.refl wd.heap.size wd).alloc (Nat.le_refl _) _, ?_⟩
            simp only [Act.put, List.setIfInBounds_toArray, List.set_cons_zero, List.set_cons_succ]
            have hb5 : Below wd.heap.size wd (wd.alloc (.cells #[.int .i64 0, .int .i64 0, .slice none 0 0, .slice none 0 0] 26)) := (Below.refl wd.heap.size wd).alloc (Nat.le_refl _) _
            have hz5 := Blk.new wd 26 #[.int .i64 0, .int .i64 0, .slice none 0 0, .slice none 0 0]
            have hx5 := HXV.out _ hb5
            obtain ⟨g5, hg5⟩ : ∃ g5, wd.heap.size = g5 := ⟨_, rfl⟩
            have HG5 := Sl.mk hg5
            obtain ⟨w5, hw5⟩ : ∃ w5, wd.alloc (.cells #[.int .i64 0, .int .i64 0, .slice none 0 0, .slice none 0 0] 26) = w5 := ⟨_, rfl⟩
            rw [hw5] at hb5 hz5 hx5 ⊢
            have e5 : (Value.slice (some ⟨wd.heap.size, 0, none⟩) 1 1) = .slice (some ⟨g5, 0, none⟩) 1 1 := by rw [HG5.out]
            rw [e5]
            rw [HG5.out] at hz5
            clear hw5 hg5 e5 hS
            obtain ⟨hz0, hz1, hz2, hz3⟩ := HINF.out
            have hS5 := HSD.out.be hb5
            have hkid : w5.ownsRow (w.heap.size + 1) 26 4 (.slice op L oc) L (vxsC ol) := by
              have h := hS5.kid ⟨op, ol, oc⟩ (by simp)
              have e : (Opn.mk op ol oc).l.length = L := HLL.out
              rw [HOR.out, e] at h
              exact h
            have hRz : Reads w5 w5.heap.size 4 (some ⟨g5, 0, none⟩) 1 [.int .i64 0, .int .i64 0, .slice none 0 0, .slice none 0 0] := ⟨rfl, fun _ => ⟨_, rfl, hz5.lt, fun j u hu => by rw [ad_zero, hz5.cell j]; simpa using hu⟩⟩
            have hsz5 := hb5.size
            have hbs := HBD.out.size
            refine wpAnyX_oneL (k := 8) rfl (by kernel_rfl) rfl ?_
            refine wp_append_any w5 (.tmp 75) (.tmp 78) 24 rfl (w.heap.size + 1) 26 i0 (.agg #[.int .i64 0, .int .i64 0, .slice none 0 0, .slice none 0 0]) 4 64 Tryd.underlying24 hz0 hz1 hz2 hz3 rfl (by decide) (.slice op L oc) L (vxsC ol) rfl hkid w5.heap.size (some ⟨g5, 0, none⟩) 1 1 _ rfl hRz (vxC_one (.mk 0 0 none [] 0 none [] 0)) (by unfold maxLen; omega) (by omega) (by omega) (fun v6 w6 ho6 hg6 hv6 => ?_)
            obtain ⟨gx, cx, rfl, -⟩ := ownCells ho6 (Nat.succ_pos L)
            have HP := push_facts (x := .mk tn tn A3 (tb.take mq) c3 none [] 0) hS5 HPM.out HLL.out (by omega) hx5 rfl (by omega) ho6 (by unfold Opn.blk; rw [HOR.out]; exact hg6) (by unfold Opn.blk; rw [HOR.out]; exact hv6)
            have hb6 : Below (w.heap.size + 1) w0 w6 := (HBD.out.trans (hb5.mono (by omega))).grown hg6 (by omega) (fun g e => (hkid.lt g e).1)
            have hsz6 := hg6.size
            have hw62 : w2.heap.size ≤ w6.heap.size := by omega
            have hZ6 : Blk w6 w.heap.size 26 #[.int .i64 0, .int .i64 0, .slice none 0 0, .slice none 0 0] := (HZD.out.be hb5).grown hg6 (fun e => by have := (hkid.lt _ e.symm).1; omega)
            refine ⟨fun he => absurd he (by decide), ?_⟩
            have HP2 := Sl.mk HP
            have HE6 := Sl.mk (And.intro hb6 (And.intro hw62 hZ6))
            clear hz0 hz1 hz2 hz3 hS5 hkid hRz ho6 hg6 hv6 HP hb6 hZ6 hb5 hz5 hx5 hsz5 hsz6 hbs hw62
            simp only [Act.put, List.setIfInBounds_toArray, List.set_cons_zero, List.set_cons_succ]
            have hLL1 : (L : Int) < (L : Int) + 1 := by omega
            refine wpAnyX_P (i := 9) (v := ?_) rfl (by kernel_rfl) (by kernel_rfl) (by kernel_rfl) (by kernel_rfl) (fun _ _ _ h => h) (Or.inl ⟨by rfl, ?_⟩) ?_
            rotate_left 1
            · (intro w' hw'; (first | rw [hw'] | (have hw2 := HSF.out w' hw') | skip); go_simp; (try with_reducible rfl))
            simp only [Act.put, List.setIfInBounds_toArray, List.set_cons_zero, List.set_cons_succ]
            refine wpAnyX_P (i := 11) (v := ?_) rfl (by kernel_rfl) (by kernel_rfl) (by kernel_rfl) (by kernel_rfl) (fun _ _ _ h => h) (Or.inl ⟨by rfl, ?_⟩) ?_
            rotate_left 1
            · (intro w' hw'; (first | rw [hw'] | (have hw2 := HSF.out w' hw') | skip); go_simp; (try with_reducible rfl))
            simp only [Act.put, List.setIfInBounds_toArray, List.set_cons_zero, List.set_cons_succ]
            refine wpAnyX_P (i := 12) (v := ?_) rfl (by kernel_rfl) (by kernel_rfl) (by kernel_rfl) (by kernel_rfl) (fun _ _ _ h => h) (Or.inl ⟨by rfl, ?_⟩) ?_
            rotate_left 1
            · (intro w' hw'; (first | rw [hw'] | (have hw2 := HSF.out w' hw') | skip); go_simp; (try with_reducible rfl))
            simp only [Act.put, List.setIfInBounds_toArray, List.set_cons_zero, List.set_cons_succ]
            refine wpAnyX_twoL (i := 10) (j := 13) rfl rfl (by kernel_rfl) rfl rfl ?_ ?_
            · refine wp_store_mid 26 (.tmp 80) (.tmp 76) rfl gx (L * 4) #[.int .i64 tn, .int .i64 tn, .slice A3 mq c3, .slice none 0 0] rfl rfl HP2.out.th (by rw [vxSize]; rfl) (all_one (x := .mk tn tn A3 (tb.take mq) c3 none [] 0) (by rw [vxC_mk, HTL.out]; rfl)) ⟨fun he => absurd he (by decide), ?_⟩
              obtain ⟨w7, hw7⟩ : ∃ w7, w6.setCells gx (L * 4) (vxC (.mk tn tn A3 (tb.take mq) c3 none [] 0)) = w7 := ⟨_, rfl⟩
              have hab := HP2.out.ab
              rw [show (Opn.mk (some ⟨gx, 0, none⟩) (ol ++ [.mk tn tn A3 (tb.take mq) c3 none [] 0]) cx).row = .slice (some ⟨gx, 0, none⟩) (L + 1) cx by unfold Opn.row; simp [HLL.out]] at hab
              rw [hw7] at hab
              rw [show (#[.int .i64 tn, .int .i64 tn, .slice A3 mq c3, .slice none 0 0]).toList = vxC (.mk tn tn A3 (tb.take mq) c3 none [] 0) from (by rw [vxC_mk, HTL.out]; rfl), hw7]
              obtain ⟨hc7, hf7, hk7, hb7⟩ := hab
              have HK7 := Sl.mk (And.intro hk7 hb7)
              simp only [Act.put]
              refine wpAnyX_oneL (k := 13) rfl (by kernel_rfl) rfl ?_
              rw [HOR.out] at hc7
              clear hk7 hb7 hw7
              refine wp_of_skip (w' := w7.setCell ⟨gs, M * 4 + 3, none⟩ (.slice (some ⟨gx, 0, none⟩) (L + 1) cx)) (by go_simp) ⟨fun he => absurd he (by decide), ?_⟩
              refine wpAnyX_tailF [] (by kernel_rfl) (by rfl) (by rfl) (by rfl) ?_
              simp only [List.filterMap_nil]
              go_wp2_with fail
              refine NoPanic.normal ?_
              have HPE := Sl.mk (pushed_end (op := op) (oc := oc) HK7.out HE6.out)
              clear HK7 HE6 HP2
              clear HSD HBD HZD HOD HLV HXV
              go_wp2_with fail
              go_roundw
              case rel =>
                obtain ⟨o2, hs2, hm2, hb2, hz2, hw2⟩ := HPE.out
                exact ⟨i + 1, m, cs, _, ps ++ [o2], rq, d2, by omega, by omega, by omega, by go_num, rfl, rfl, rfl, hz2, hb2, ⟨hd_push HS.out.1 HX.out hs2 hm2 (by rw [HLF.out]; exact HST.out.1), by rw [tkf_succ HX.out, HST.out.2.1, HS.out.2.1.symm]; exact HRQ.out.symm, by rw [tkf_succ HX.out, HST.out.2.2, hd_len HS.out.1, ← HS.out.2.2.1]; exact HD2.out.symm, hw2⟩⟩
              case measure => simp [intOf]; omega
            · obtain ⟨hc6, hf6⟩ := HP2.out.ce
              rw [HOR.out] at hc6
              refine wp_of_skip (w' := w6.setCell ⟨gs, M * 4 + 3, none⟩ (.slice (some ⟨gx, 0, none⟩) (L + 1) cx)) (by go_simp) ⟨fun he => absurd he (by decide), ?_⟩
              clear hc6 hf6
              have hba := HP2.out.ba
              rw [show (Opn.mk (some ⟨gx, 0, none⟩) (ol ++ [.mk tn tn A3 (tb.take mq) c3 none [] 0]) cx).row = .slice (some ⟨gx, 0, none⟩) (L + 1) cx by unfold Opn.row; simp [HLL.out]] at hba
              obtain ⟨w7, hw7⟩ : ∃ w7, w6.setCell ⟨gs, M * 4 + 3, none⟩ (.slice (some ⟨gx, 0, none⟩) (L + 1) cx) = w7 := ⟨_, rfl⟩
              rw [hw7] at hba ⊢
              obtain ⟨ht7, hk7, hb7⟩ := hba
              have HK7 := Sl.mk (And.intro hk7 hb7)
              have HT7 := Sl.mk ht7
              clear hk7 hb7 hw7 ht7
              simp only [Act.put]
              refine wpAnyX_oneL (k := 10) rfl (by kernel_rfl) rfl ?_
              refine wp_store_mid 26 (.tmp 80) (.tmp 76) rfl gx (L * 4) #[.int .i64 tn, .int .i64 tn, .slice A3 mq c3, .slice none 0 0] rfl rfl HT7.out (by rw [vxSize]; rfl) (all_one (x := .mk tn tn A3 (tb.take mq) c3 none [] 0) (by rw [vxC_mk, HTL.out]; rfl)) ⟨fun he => absurd he (by decide), ?_⟩
              rw [show (#[.int .i64 tn, .int .i64 tn, .slice A3 mq c3, .slice none 0 0]).toList = vxC (.mk tn tn A3 (tb.take mq) c3 none [] 0) from (by rw [vxC_mk, HTL.out]; rfl)]
              refine wpAnyX_tailF [] (by kernel_rfl) (by rfl) (by rfl) (by rfl) ?_
              simp only [List.filterMap_nil]
              go_wp2_with fail
              refine NoPanic.normal ?_
              have HPE := Sl.mk (pushed_end (op := op) (oc := oc) HK7.out HE6.out)
              clear HK7 HE6 HP2
              clear HSD HBD HZD HOD HLV HXV
              go_wp2_with fail
              go_roundw
              case rel =>
                obtain ⟨o2, hs2, hm2, hb2, hz2, hw2⟩ := HPE.out
                exact ⟨i + 1, m, cs, _, ps ++ [o2], rq, d2, by omega, by omega, by omega, by go_num, rfl, rfl, rfl, hz2, hb2, ⟨hd_push HS.out.1 HX.out hs2 hm2 (by rw [HLF.out]; exact HST.out.1), by rw [tkf_succ HX.out, HST.out.2.1, HS.out.2.1.symm]; exact HRQ.out.symm, by rw [tkf_succ HX.out, HST.out.2.2, hd_len HS.out.1, ← HS.out.2.2.1]; exact HD2.out.symm, hw2⟩⟩
              case measure => simp [intOf]; omega
    · as_aux_lemma =>
      obtain ⟨hHd, hok, hdq, hw2r⟩ := HS.out
      have hin' : i = n ∨ i = 60 := by omega
      have htk : (tkf l i) = runB (l.map Tx.t) := by
        unfold tkf runB
        have e : (l.map Tx.t).take i = (l.map Tx.t).take 60 := by
          rcases hin' with h | h
          · rw [List.take_of_length_le (by rw [List.length_map, HN.out]; omega), List.take_of_length_le (by rw [List.length_map, HN.out]; omega)]
          · rw [h]
        rw [e]
      rw [htk] at hHd hok hdq
      have hFEW := (inv_tkf HNB.out i (by rw [HN.out]; omega)).few
      rw [htk] at hFEW
      have HRB := Sl.mk (And.intro hok hdq)
      have HFW := Sl.mk hFEW
      have hHdr := hHd.stk
      have hHm := hHd.map
      have hHn := hHd.ne
      obtain ⟨s0, hs0⟩ : ∃ s0, (runB (l.map Tx.t)).s = s0 := ⟨_, rfl⟩
      rw [hs0] at hHm
      have HS0 := Sl.mk hs0
      have HH := Sl.mk (And.intro hHdr (And.intro hHm (And.intro hHn hw2r)))
      clear HS hHd hok hdq htk hFEW hHdr hHm hHn hs0 hin'
      by_cases hin2 : i < n
      · as_aux_lemma =>
        have hi60' : ¬ i < 60 := by omega
        have hl1 : (i : Int) < (n : Int) := by omega
        have hl2 : ¬ (i : Int) < 60 := by omega
        clear hi hin2
        go_wp2_with fail
        go_loopw [5] (fun v5 wx => ∃ (m cs : Nat) (As : Option Addr) (os : List Opn) (s : List (List Vc)), v5 = .slice As m cs ∧ m ≤ 61 ∧ Blk wx w.heap.size 26 #[.int .i64 0, .int .i64 0, .slice none 0 0, .slice none 0 0] ∧ Below (w.heap.size + 1) w0 wx ∧
            Sl (Stk wx (w.heap.size + 1) As m cs os ∧ os.map (fun o => vsOf o.l) = s.reverse ∧ os ≠ [] ∧ topB s = topB s0 ∧ (∀ l ∈ s.tail, l.length ≤ 60) ∧ w2.heap.size ≤ wx.heap.size)) (fun v5 _ => lenS v5)
        case atStart => exact ⟨m, cs, As, os, s0, rfl, hm61, hZ, hB, ⟨HH.out.1, HH.out.2.1, HH.out.2.2.1, rfl, fun y hy => Nat.le_trans (HFW.out y (by rw [HS0.out]; exact List.mem_of_mem_tail hy)) hi60, HH.out.2.2.2⟩⟩
        case round =>
          clear hZ hB
          obtain ⟨m', cs', As', os', s, rfl, hm61', hZ, hB, HS⟩ := hrel
          obtain ⟨hStW, hMAP, hNe, hTB, hFT, hwW⟩ := HS.out
          have hos : ∃ ps o, os' = ps ++ [o] := ⟨os'.dropLast, os'.getLast hNe, (List.dropLast_concat_getLast hNe).symm⟩
          obtain ⟨ps, o, rfl⟩ := hos
          obtain ⟨gs, rfl⟩ := hStW.form hNe
          obtain ⟨M, hM⟩ : ∃ M, ps.length = M := ⟨_, rfl⟩
          have hmM : M + 1 = m' := by have := hStW.len; simp at this; omega
          have HMM := Sl.mk hmM
          have HM := Sl.mk hM
          have HTB := Sl.mk hTB
          have HFT := Sl.mk hFT
          by_cases hM1 : M = 0
          · have hps0 : ps = [] := List.eq_nil_of_length_eq_zero (by rw [hM, hM1])
            subst hps0
            have hm1 : m' = 1 := by omega
            subst hm1
            have hpop := hStW.pop
            have hcl := hStW.cells rfl
            have htop := top_of hMAP
            have HTOP := Sl.mk (htop.symm.trans hTB)
            obtain ⟨tp0, tl, tc0⟩ := o
            obtain ⟨Lt, hLt⟩ : ∃ Lt, tl.length = Lt := ⟨_, rfl⟩
            have hox : vxC (Opn.mk tp0 tl tc0).x = [.int .i64 2, .int .i64 0, .slice none 0 0, .slice tp0 Lt tc0] := by unfold Opn.x; rw [vxC_mk, hLt]; rfl
            rw [hox] at hcl
            have HPOP := Sl.mk hpop.2
            have HOX := Sl.mk hox
            have hcl0 : ∀ j v, [Value.int .i64 2, .int .i64 0, .slice none 0 0, .slice tp0 Lt tc0][j]? = some v → wr.cell? ((⟨gs, 0, none⟩ : Addr).add j) = some v := hcl
            have HBW := Sl.mk hB
            have hwr1 : w.heap.size + 1 ≤ wr.heap.size := by have := hB.size; omega
            clear HS hStW hMAP hNe hTB hFT hwW hM hmM hM1 hpop hcl htop hLt hox hB HMM HM HTB HFT
            go_wp2_with (first | refine ld_vxl hcl0 rfl (.tmp 218) rfl rfl ?_ | refine st_vx hZ rfl (.tmp 2) (.tmp 219) rfl 2 0 none 0 0 tp0 Lt tc0 rfl (by rfl) rfl ?_)
            intro w8 hZ8 hG8 _
            have hE8 : Below w.heap.size w w8 := below_only (HE0.out.trans (HBW.out.mono (Nat.le_succ _))) hG8 (by omega) (Nat.le_refl _)
            have HG8 := Sl.mk hG8
            clear hG8 hZ hcl0
            go_wp2_with fail
            refine bodyPost_ret (v := .tuple #[.agg #[.int .i64 2, .int .i64 0, .slice none 0 0, .slice tp0 Lt tc0], .bool okq, .int .i64 dq]) (results_cell2 Tryd.results6 _ _ _ rfl hZ8 Tryd.underlying26 vxSize rfl rfl) rfl ?_
            have hs8 := HG8.out.size
            refine ⟨(Opn.mk tp0 tl tc0).x, by rw [HOX.out, ← HRB.out.1, ← HRB.out.2], ?_, ?_, hE8⟩
            · unfold valB
              rw [HS0.out, ← HTOP.out]
              rfl
            · have h1 := HPOP.out.only HG8.out (fun g hg => ⟨hg.2.1, fun e => by injection e; have := hg.1; omega⟩)
              exact VxOk.mono (fun g hg => ⟨by have := hg.1; omega, by have := hg.2.1; omega⟩) _ h1
          · have hMi : (1 : Int) < (m' : Int) := by omega
            have hmi1 : (m' : Int) - 1 = (M : Int) := by omega
            have HREST := Sl.mk (show M ≠ 0 from hM1)
            have hBW := hB
            have hZW := hZ
            clear HS hNe hTB hFT hM hmM hM1 hB hZ
            have hps : ∃ ps' p, ps = ps' ++ [p] := ⟨ps.dropLast, ps.getLast (fun e => HREST.out (by rw [← HM.out, e]; rfl)), (List.dropLast_concat_getLast _).symm⟩
            obtain ⟨ps', p, rfl⟩ := hps
            obtain ⟨K, hK⟩ : ∃ K, ps'.length = K := ⟨_, rfl⟩
            have hKM : K + 1 = M := by have := HM.out; simp at this; omega
            have hK1 : (M : Int) - 1 = (K : Int) := by omega
            have hkw : IntKind.i64.wrap (K : Int) = (K : Int) := IntWalk.i64_in _ (by omega)
            have hKm : (K : Int) < (m' : Int) := by have := HMM.out; omega
            have hMm2 : (M : Int) < (m' : Int) := by have := HMM.out; omega
            have hMc : (M : Int) ≤ (cs' : Int) := by have h1 := (ownCapS hStW.row).1; have := HMM.out; omega
            have hM0 : (0 : Int) ≤ (M : Int) := by omega
            have hK0 : (0 : Int) ≤ (K : Int) := by omega
            have HFEWp := Sl.mk (show p.l.length ≤ 60 from few_two hMAP HFT.out)
            have HSTW := Sl.mk (show Stk wr (w.heap.size + 1) (some ⟨gs, 0, none⟩) (M + 1) cs' ((ps' ++ [p]) ++ [o]) by rw [HMM.out]; exact hStW)
            have HBW := Sl.mk hBW
            have HZW := Sl.mk hZW
            have HWW := Sl.mk hwW
            have HMAP := Sl.mk hMAP
            have HK := Sl.mk hK
            have HKM := Sl.mk hKM
            obtain ⟨op, ol, oc⟩ := p
            obtain ⟨tp0, tl, tc0⟩ := o
            obtain ⟨L, hL⟩ : ∃ L, ol.length = L := ⟨_, rfl⟩
            obtain ⟨Lt, hLt⟩ : ∃ Lt, tl.length = Lt := ⟨_, rfl⟩
            have hor : (Opn.mk op ol oc).row = .slice op L oc := by unfold Opn.row; rw [hL]
            have hox : vxC (Opn.mk tp0 tl tc0).x = [.int .i64 2, .int .i64 0, .slice none 0 0, .slice tp0 Lt tc0] := by unfold Opn.x; rw [vxC_mk, hLt]; rfl
            have HOR := Sl.mk hor
            have HOX := Sl.mk hox
            have HLL := Sl.mk hL
            have hL2 : L ≤ 60 := by have := HFEWp.out; rw [← hL]; exact this
            clear hStW hBW hZW hwW hMAP hK hKM hL hLt hor hox
            go_wp2_with fail
            refine wp_region_X (fun _ => True) [0, 1, 2, 3] (by kernel_rfl) trivial (fun _ => ?_)
            obtain ⟨we, hwe⟩ : ∃ we, wr.drew = we := ⟨_, rfl⟩
            have HBE := Sl.mk (show Below wr.heap.size wr we by rw [← hwe]; exact (Below.refl _ _).drew)
            rw [hwe]
            clear hwe
            refine wpAnyX_oneL (k := 0) rfl (by kernel_rfl) rfl ?_
            refine wp_of_run (v := .pointer (some ⟨we.heap.size, 0, none⟩)) (w' := we.alloc (.cells #[.bool false] 4)) (by go_simp) ⟨fun he => absurd he (by decide), ?_⟩
            simp only [Act.put, List.setIfInBounds_toArray, List.set_cons_zero, List.set_cons_succ]
            refine wpAnyX_twoL (i := 1) (j := 2) rfl rfl (by kernel_rfl) rfl rfl ?_ ?_
            · refine wp_of_skip (w' := we.alloc (.cells #[.bool true] 4)) (by go_simp) ⟨fun he => absurd he (by decide), ?_⟩
              simp only [Act.put]
              refine wpAnyX_tailF [2, 3] (by kernel_rfl) (by rfl) (by rfl) (by rfl) ?_
              simp only [List.filterMap_cons, List.filterMap_nil, List.getElem?_cons_succ, List.getElem?_cons_zero]
              go_wp2_with fail
              refine NoPanic.normal ?_
              have HB4 := Sl.mk (HBE.out.trans ((below_al (Below.refl we.heap.size we) (.cells #[.bool false] 4)).mono HBE.out.size))
              obtain ⟨w4, hw4⟩ : ∃ w4, we.alloc (.cells #[.bool false] 4) = w4 := ⟨_, rfl⟩
              rw [hw4] at HB4 ⊢
              clear hw4
              go_wp2_with fail
              obtain ⟨wd, hwd⟩ : ∃ wd, w4.drew = wd := ⟨_, rfl⟩
              have hbd : Below wr.heap.size wr wd := by rw [← hwd]; exact HB4.out.drew
              have hSd := HSTW.out.be hbd
              have hPop := hSd.pop
              have hzd : Blk wd w.heap.size 26 #[.int .i64 0, .int .i64 0, .slice none 0 0, .slice none 0 0] := HZW.out.be hbd
              have hBd : Below (w.heap.size + 1) w0 wd := HBW.out.trans (hbd.mono (by have := HBW.out.size; omega))
              have hwdz : w2.heap.size ≤ wd.heap.size := Nat.le_trans HWW.out hbd.size
              have HSF : Sl (∀ W, Below wd.heap.size wd W → W.cell? ⟨gs, K * 4 + 3, none⟩ = some (.slice op L oc)) := Sl.mk (fun W hW => by
                have h1 := (hPop.1.be hW).hdr.1
                rw [HK.out, HOR.out] at h1
                exact h1)
              have HLV : Sl (∀ W, Below wd.heap.size wd W → (loadVar 26 ⟨gs, M * 4, none⟩).run Tryd.prog W = .ok (.agg #[.int .i64 2, .int .i64 0, .slice none 0 0, .slice tp0 Lt tc0]) W) := Sl.mk (fun W hW => by
                have h1 := (hSd.be hW).whole HM.out
                rw [HOX.out] at h1
                exact h1)
              have HSD := Sl.mk hPop
              have HBD := Sl.mk hBd
              have HZD := Sl.mk hzd
              have HWD := Sl.mk hwdz
              clear hSd hPop hzd hBd hbd hwdz
              refine wp_region_X (fun W => Below wd.heap.size wd W) [0, 1, 2, 14, 15, 16, 17] (by kernel_rfl) (by rw [hwd]; exact Below.refl _ _) (fun hS => ?_)
              rw [hwd] at hS ⊢
              clear hwd
              refine wpAnyX_P (i := 0) (v := ?_) rfl (by kernel_rfl) (by kernel_rfl) (by kernel_rfl) (by kernel_rfl) (fun _ _ _ h => h) (Or.inl ⟨by rfl, ?_⟩) ?_
              rotate_left 1
              · (intro w' hw'; (first | rw [hw'] | (have hw2 := HSF.out w' hw') | skip); go_simp; (try with_reducible rfl))
              simp only [Act.put, List.setIfInBounds_toArray, List.set_cons_zero, List.set_cons_succ]
              refine wpAnyX_P (i := 1) (v := ?_) rfl (by kernel_rfl) (by kernel_rfl) (by kernel_rfl) (by kernel_rfl) (fun _ _ _ h => h) (Or.inl ⟨by rfl, ?_⟩) ?_
              rotate_left 1
              · (intro w' hw'; (first | rw [hw'] | (have hw2 := HSF.out w' hw') | skip); go_simp; (try with_reducible rfl))
              simp only [Act.put, List.setIfInBounds_toArray, List.set_cons_zero, List.set_cons_succ]
              refine wpAnyX_P (i := 2) (v := ?_) rfl (by kernel_rfl) (by kernel_rfl) (by kernel_rfl) (by kernel_rfl) (fun _ _ _ h => h) (Or.inl ⟨by rfl, ?_⟩) ?_
              rotate_left 1
              · (intro w' hw'; (first | rw [hw'] | (have hw2 := HSF.out w' hw') | skip); go_simp; (try with_reducible rfl))
              simp only [Act.put, List.setIfInBounds_toArray, List.set_cons_zero, List.set_cons_succ]
              refine wpAnyX_S (i := 3) (v := ?_) rfl (by kernel_rfl) (by kernel_rfl) (by kernel_rfl) (by kernel_rfl) (fun _ _ _ h => h) (Or.inl ⟨by rfl, ?_⟩) hS ?_
              rotate_left 1
              · (intro w' hw'; (first | rw [hw'] | (have hw2 := HSF.out w' hw') | skip); go_simp; (try with_reducible rfl))
              simp only [Act.put, List.setIfInBounds_toArray, List.set_cons_zero, List.set_cons_succ]
              refine wpAnyX_S (i := 4) (v := ?_) rfl (by kernel_rfl) (by kernel_rfl) (by kernel_rfl) (by kernel_rfl) (fun _ _ _ h => h) (Or.inl ⟨by rfl, ?_⟩) hS ?_
              rotate_left 1
              · (intro w' hw'; (first | rw [hw'] | (have hw2 := HSF.out w' hw') | skip); go_simp; (try with_reducible rfl))
              simp only [Act.put, List.setIfInBounds_toArray, List.set_cons_zero, List.set_cons_succ]
              refine wpAnyX_S (i := 5) (v := ?_) rfl (by kernel_rfl) (by kernel_rfl) (by kernel_rfl) (by kernel_rfl) (fun _ _ _ h => h) (Or.inl ⟨by rfl, ?_⟩) hS ?_
              rotate_left 1
              · (intro w' hw'; (first | rw [hw'] | (have hw2 := HSF.out w' hw') | skip); go_simp; (try with_reducible rfl))
              simp only [Act.put, List.setIfInBounds_toArray, List.set_cons_zero, List.set_cons_succ]
              refine wpAnyX_S (i := 6) (v := ?_) rfl (by kernel_rfl) (by kernel_rfl) (by kernel_rfl) (by kernel_rfl) (fun _ _ _ h => h) (Or.inl ⟨by rfl, ?_⟩) hS ?_
              rotate_left 1
              · (intro w' hw'; (first | rw [hw'] | (have hw2 := HSF.out w' hw') | skip); go_simp; (try with_reducible rfl))
              simp only [Act.put, List.setIfInBounds_toArray, List.set_cons_zero, List.set_cons_succ]
              refine wpAnyX_S (i := 7) (v := ?_) rfl (by kernel_rfl) (by kernel_rfl) (by kernel_rfl) (by kernel_rfl) (fun _ _ _ h => h) (Or.inl ⟨by rfl, ?_⟩) hS ?_
              rotate_left 1
              · (intro w' hw'; (first | rw [hw'] | (have hw2 := HSF.out w' hw') | skip); go_simp; (try with_reducible rfl))
              simp only [Act.put, List.setIfInBounds_toArray, List.set_cons_zero, List.set_cons_succ]
              refine wpAnyX_S (i := 8) (v := ?_) rfl (by kernel_rfl) (by kernel_rfl) (by kernel_rfl) (by kernel_rfl) (fun _ _ _ h => h) (Or.inl ⟨by rfl, ?_⟩) hS ?_
              rotate_left 1
              · (intro w' hw'; (first | rw [hw'] | (have hw2 := HSF.out w' hw') | skip); go_simp; (try with_reducible rfl))
              simp only [Act.put, List.setIfInBounds_toArray, List.set_cons_zero, List.set_cons_succ]
              refine wpAnyX_S (i := 9) (v := ?_) rfl (by kernel_rfl) (by kernel_rfl) (by kernel_rfl) (by kernel_rfl) (fun _ _ _ h => h) (Or.inl ⟨by rfl, ?_⟩) hS ?_
              rotate_left 1
              · (intro w' hw'; (first | rw [hw'] | (have hw2 := HSF.out w' hw') | skip); go_simp; (try with_reducible rfl))
              simp only [Act.put, List.setIfInBounds_toArray, List.set_cons_zero, List.set_cons_succ]
              refine wpAnyX_S (i := 10) (v := ?_) rfl (by kernel_rfl) (by kernel_rfl) (by kernel_rfl) (by kernel_rfl) (fun _ _ _ h => h) (Or.inl ⟨by rfl, ?_⟩) hS ?_
              rotate_left 1
              · (intro w' hw'; (first | rw [hw'] | (have hw2 := HSF.out w' hw') | skip); go_simp; (try with_reducible rfl))
              simp only [Act.put, List.setIfInBounds_toArray, List.set_cons_zero, List.set_cons_succ]
              refine wpAnyX_S (i := 11) (v := ?_) rfl (by kernel_rfl) (by kernel_rfl) (by kernel_rfl) (by kernel_rfl) (fun _ _ _ h => h) (Or.inl ⟨by rfl, ?_⟩) hS ?_
              rotate_left 1
              · (intro w' hw'; (first | rw [hw'] | (have hw2 := HSF.out w' hw') | skip); go_simp; (try with_reducible rfl))
              simp only [Act.put, List.setIfInBounds_toArray, List.set_cons_zero, List.set_cons_succ]
              refine wpAnyX_S (i := 12) (v := .agg #[.int .i64 2, .int .i64 0, .slice none 0 0, .slice tp0 Lt tc0]) rfl (by kernel_rfl) (by kernel_rfl) (by kernel_rfl) (by kernel_rfl) (fun _ _ _ h => h) (yieldsIf_loadA (by rfl) 26 (.tmp 208) rfl ⟨gs, M * 4, none⟩ _ rfl (fun w' hw' => HLV.out w' hw')) hS ?_
              simp only [Act.put, List.setIfInBounds_toArray, List.set_cons_zero, List.set_cons_succ]
              refine wpAnyX_oneL (k := 13) rfl (by kernel_rfl) rfl ?_
              refine wp_of_run (v := .slice (some ⟨wd.heap.size, 0, none⟩) 1 1) (w' := wd.alloc (.cells #[.int .i64 2, .int .i64 0, .slice none 0 0, .slice tp0 Lt tc0] 26)) (by go_simp) ⟨fun _ => (Below.refl wd.heap.size wd).alloc (Nat.le_refl _) _, ?_⟩
              simp only [Act.put, List.setIfInBounds_toArray, List.set_cons_zero, List.set_cons_succ]
              have hb5 := below_al (Below.refl wd.heap.size wd) (.cells #[.int .i64 2, .int .i64 0, .slice none 0 0, .slice tp0 Lt tc0] 26)
              have hz5 := Blk.new wd 26 #[.int .i64 2, .int .i64 0, .slice none 0 0, .slice tp0 Lt tc0]
              have e5 : (wd.alloc (.cells #[.int .i64 2, .int .i64 0, .slice none 0 0, .slice tp0 Lt tc0] 26)).heap.size = wd.heap.size + 1 := by simp
              obtain ⟨g5, hg5⟩ : ∃ g5, wd.heap.size = g5 := ⟨_, rfl⟩
              have HG5 := Sl.mk hg5
              have eg5 : (Value.slice (some ⟨wd.heap.size, 0, none⟩) 1 1) = .slice (some ⟨g5, 0, none⟩) 1 1 := by rw [hg5]
              rw [eg5]
              rw [hg5] at hz5
              obtain ⟨w5, hw5⟩ : ∃ w5, wd.alloc (.cells #[.int .i64 2, .int .i64 0, .slice none 0 0, .slice tp0 Lt tc0] 26) = w5 := ⟨_, rfl⟩
              rw [hw5] at hb5 hz5 e5 ⊢
              clear hw5 hg5 eg5 hS
              obtain ⟨hz0, hz1, hz2, hz3⟩ := HINF.out
              have hS5 := HSD.out.1.be hb5
              have hX5 := free_be HSD.out.2 hb5
              have hkid : w5.ownsRow (w.heap.size + 1) 26 4 (.slice op L oc) L (vxsC ol) := by
                have h := hS5.kid ⟨op, ol, oc⟩ (by simp)
                have e : (Opn.mk op ol oc).l.length = L := HLL.out
                rw [HOR.out, e] at h
                exact h
              have hsz5 := hb5.size
              have hbs := HBD.out.size
              have hRz : Reads w5 w5.heap.size 4 (some ⟨g5, 0, none⟩) 1 (vxC (Opn.mk tp0 tl tc0).x) := ⟨by rw [vxC_len], fun _ => ⟨_, rfl, hz5.lt, fun j u hu => by rw [HOX.out] at hu; rw [ad_zero, hz5.cell j]; simpa using hu⟩⟩
              refine wpAnyX_tailF [14, 15, 16, 17] (by kernel_rfl) (by rfl) (by rfl) (by rfl) ?_
              simp only [List.filterMap_cons, List.filterMap_nil, List.getElem?_cons_succ, List.getElem?_cons_zero]
              refine wpList_append_any w5 rfl (.tmp 205) (.tmp 210) 24 rfl (w.heap.size + 1) 26 i0 (.agg #[.int .i64 0, .int .i64 0, .slice none 0 0, .slice none 0 0]) 4 64 Tryd.underlying24 hz0 hz1 hz2 hz3 rfl (by decide) (.slice op L oc) L (vxsC ol) rfl hkid w5.heap.size (some ⟨g5, 0, none⟩) 1 1 (vxC (Opn.mk tp0 tl tc0).x) rfl hRz (vxC_one _) (by unfold maxLen; omega) (by omega) (by omega) ?_
              intro v6 w6 ho6 hg6 hv6
              obtain ⟨gx, cx, rfl, -⟩ := ownCells ho6 (Nat.succ_pos L)
              have HP := push_hdr (x := (Opn.mk tp0 tl tc0).x) hS5 HK.out HLL.out (by omega) hX5 (by omega) ho6 (by unfold Opn.blk; rw [HOR.out]; exact hg6) (by unfold Opn.blk; rw [HOR.out]; exact hv6)
              have hb6 : Below (w.heap.size + 1) w0 w6 := (HBD.out.trans (hb5.mono (by omega))).grown hg6 (by omega) (fun g e => (hkid.lt g e).1)
              have hsz6 := hg6.size
              have hw62 : w2.heap.size ≤ w6.heap.size := by have := HWD.out; omega
              have hZ6 : Blk w6 w.heap.size 26 #[.int .i64 0, .int .i64 0, .slice none 0 0, .slice none 0 0] := (HZD.out.be hb5).grown hg6 (fun e => by have := (hkid.lt _ e.symm).1; omega)
              obtain ⟨⟨hc6, hf6⟩, hk7, hb7⟩ := HP
              rw [HOR.out] at hc6
              have HF := Sl.mk (close_end (ps := ps') (o := ⟨tp0, tl, tc0⟩) (p := ⟨op, ol, oc⟩) hk7 (hb6.trans hb7) (hZ6.below hb7 (Nat.lt_succ_self _)) (by have h := HMAP.out; rw [List.append_assoc] at h; exact h) (Nat.le_trans hw62 hb7.size))
              clear hz0 hz1 hz2 hz3 hS5 hX5 hkid hRz ho6 hg6 hv6 hb6 hZ6 hb5 hz5 hsz5 hsz6 hbs hw62 hk7 hb7 e5 HSD HBD HZD HLV HSF
              obtain ⟨w7, hw7⟩ : ∃ w7, w6.setCell ⟨gs, K * 4 + 3, none⟩ (.slice (some ⟨gx, 0, none⟩) (L + 1) cx) = w7 := ⟨_, rfl⟩
              have HW7 := Sl.mk hw7
              rw [hw7] at HF
              clear hw7
              obtain ⟨p2, hp2⟩ : ∃ p2 : Opn, p2 = ⟨some ⟨gx, 0, none⟩, ol ++ [(Opn.mk tp0 tl tc0).x], cx⟩ := ⟨_, rfl⟩
              rw [← hp2] at HF
              clear hp2
              go_wp2_with fail
              refine NoPanic.normal ?_
              rw [HW7.out]
              clear HW7
              go_wp2_with fail
              go_roundw
              case rel => exact ⟨M, cs', _, ps' ++ [p2], closeT s, rfl, by omega, HF.out.2.2.1, HF.out.2.1, ⟨HF.out.1, HF.out.2.2.2.1.1, by simp, by rw [topB_close HF.out.2.2.2.1.2]; exact HTB.out, fun y hy => HFT.out y (close_tail s y hy), HF.out.2.2.2.2⟩⟩
              case measure => have := HMM.out; simp [lenS]; omega
            · refine wp_of_skip (w' := we.alloc (.cells #[.bool false] 4)) (by go_simp) ⟨fun he => absurd he (by decide), ?_⟩
              simp only [Act.put]
              refine wpAnyX_tailF [1, 3] (by kernel_rfl) (by rfl) (by rfl) (by rfl) ?_
              simp only [List.filterMap_cons, List.filterMap_nil, List.getElem?_cons_succ, List.getElem?_cons_zero]
              go_wp2_with fail
              refine NoPanic.normal ?_
              have HB4 := Sl.mk (HBE.out.trans ((below_al (Below.refl we.heap.size we) (.cells #[.bool true] 4)).mono HBE.out.size))
              obtain ⟨w4, hw4⟩ : ∃ w4, we.alloc (.cells #[.bool true] 4) = w4 := ⟨_, rfl⟩
              rw [hw4] at HB4 ⊢
              clear hw4
              go_wp2_with fail
              obtain ⟨wd, hwd⟩ : ∃ wd, w4.drew = wd := ⟨_, rfl⟩
              have hbd : Below wr.heap.size wr wd := by rw [← hwd]; exact HB4.out.drew
              have hSd := HSTW.out.be hbd
              have hPop := hSd.pop
              have hzd : Blk wd w.heap.size 26 #[.int .i64 0, .int .i64 0, .slice none 0 0, .slice none 0 0] := HZW.out.be hbd
              have hBd : Below (w.heap.size + 1) w0 wd := HBW.out.trans (hbd.mono (by have := HBW.out.size; omega))
              have hwdz : w2.heap.size ≤ wd.heap.size := Nat.le_trans HWW.out hbd.size
              have HSF : Sl (∀ W, Below wd.heap.size wd W → W.cell? ⟨gs, K * 4 + 3, none⟩ = some (.slice op L oc)) := Sl.mk (fun W hW => by
                have h1 := (hPop.1.be hW).hdr.1
                rw [HK.out, HOR.out] at h1
                exact h1)
              have HLV : Sl (∀ W, Below wd.heap.size wd W → (loadVar 26 ⟨gs, M * 4, none⟩).run Tryd.prog W = .ok (.agg #[.int .i64 2, .int .i64 0, .slice none 0 0, .slice tp0 Lt tc0]) W) := Sl.mk (fun W hW => by
                have h1 := (hSd.be hW).whole HM.out
                rw [HOX.out] at h1
                exact h1)
              have HSD := Sl.mk hPop
              have HBD := Sl.mk hBd
              have HZD := Sl.mk hzd
              have HWD := Sl.mk hwdz
              clear hSd hPop hzd hBd hbd hwdz
              refine wp_region_X (fun W => Below wd.heap.size wd W) [15, 16, 17, 18] (by kernel_rfl) (by rw [hwd]; exact Below.refl _ _) (fun hS => ?_)
              rw [hwd] at hS ⊢
              clear hwd
              refine wpAnyX_S (i := 0) (v := ?_) rfl (by kernel_rfl) (by kernel_rfl) (by kernel_rfl) (by kernel_rfl) (fun _ _ _ h => h) (Or.inl ⟨by rfl, ?_⟩) hS ?_
              rotate_left 1
              · (intro w' hw'; (first | rw [hw'] | (have hw2 := HSF.out w' hw') | skip); go_simp; (try with_reducible rfl))
              simp only [Act.put, List.setIfInBounds_toArray, List.set_cons_zero, List.set_cons_succ]
              refine wpAnyX_S (i := 1) (v := ?_) rfl (by kernel_rfl) (by kernel_rfl) (by kernel_rfl) (by kernel_rfl) (fun _ _ _ h => h) (Or.inl ⟨by rfl, ?_⟩) hS ?_
              rotate_left 1
              · (intro w' hw'; (first | rw [hw'] | (have hw2 := HSF.out w' hw') | skip); go_simp; (try with_reducible rfl))
              simp only [Act.put, List.setIfInBounds_toArray, List.set_cons_zero, List.set_cons_succ]
              refine wpAnyX_S (i := 2) (v := ?_) rfl (by kernel_rfl) (by kernel_rfl) (by kernel_rfl) (by kernel_rfl) (fun _ _ _ h => h) (Or.inl ⟨by rfl, ?_⟩) hS ?_
              rotate_left 1
              · (intro w' hw'; (first | rw [hw'] | (have hw2 := HSF.out w' hw') | skip); go_simp; (try with_reducible rfl))
              simp only [Act.put, List.setIfInBounds_toArray, List.set_cons_zero, List.set_cons_succ]
              refine wpAnyX_S (i := 3) (v := ?_) rfl (by kernel_rfl) (by kernel_rfl) (by kernel_rfl) (by kernel_rfl) (fun _ _ _ h => h) (Or.inl ⟨by rfl, ?_⟩) hS ?_
              rotate_left 1
              · (intro w' hw'; (first | rw [hw'] | (have hw2 := HSF.out w' hw') | skip); go_simp; (try with_reducible rfl))
              simp only [Act.put, List.setIfInBounds_toArray, List.set_cons_zero, List.set_cons_succ]
              refine wpAnyX_S (i := 4) (v := ?_) rfl (by kernel_rfl) (by kernel_rfl) (by kernel_rfl) (by kernel_rfl) (fun _ _ _ h => h) (Or.inl ⟨by rfl, ?_⟩) hS ?_
              rotate_left 1
              · (intro w' hw'; (first | rw [hw'] | (have hw2 := HSF.out w' hw') | skip); go_simp; (try with_reducible rfl))
              simp only [Act.put, List.setIfInBounds_toArray, List.set_cons_zero, List.set_cons_succ]
              refine wpAnyX_S (i := 5) (v := ?_) rfl (by kernel_rfl) (by kernel_rfl) (by kernel_rfl) (by kernel_rfl) (fun _ _ _ h => h) (Or.inl ⟨by rfl, ?_⟩) hS ?_
              rotate_left 1
              · (intro w' hw'; (first | rw [hw'] | (have hw2 := HSF.out w' hw') | skip); go_simp; (try with_reducible rfl))
              simp only [Act.put, List.setIfInBounds_toArray, List.set_cons_zero, List.set_cons_succ]
              refine wpAnyX_S (i := 6) (v := ?_) rfl (by kernel_rfl) (by kernel_rfl) (by kernel_rfl) (by kernel_rfl) (fun _ _ _ h => h) (Or.inl ⟨by rfl, ?_⟩) hS ?_
              rotate_left 1
              · (intro w' hw'; (first | rw [hw'] | (have hw2 := HSF.out w' hw') | skip); go_simp; (try with_reducible rfl))
              simp only [Act.put, List.setIfInBounds_toArray, List.set_cons_zero, List.set_cons_succ]
              refine wpAnyX_S (i := 7) (v := ?_) rfl (by kernel_rfl) (by kernel_rfl) (by kernel_rfl) (by kernel_rfl) (fun _ _ _ h => h) (Or.inl ⟨by rfl, ?_⟩) hS ?_
              rotate_left 1
              · (intro w' hw'; (first | rw [hw'] | (have hw2 := HSF.out w' hw') | skip); go_simp; (try with_reducible rfl))
              simp only [Act.put, List.setIfInBounds_toArray, List.set_cons_zero, List.set_cons_succ]
              refine wpAnyX_S (i := 8) (v := ?_) rfl (by kernel_rfl) (by kernel_rfl) (by kernel_rfl) (by kernel_rfl) (fun _ _ _ h => h) (Or.inl ⟨by rfl, ?_⟩) hS ?_
              rotate_left 1
              · (intro w' hw'; (first | rw [hw'] | (have hw2 := HSF.out w' hw') | skip); go_simp; (try with_reducible rfl))
              simp only [Act.put, List.setIfInBounds_toArray, List.set_cons_zero, List.set_cons_succ]
              refine wpAnyX_S (i := 9) (v := ?_) rfl (by kernel_rfl) (by kernel_rfl) (by kernel_rfl) (by kernel_rfl) (fun _ _ _ h => h) (Or.inl ⟨by rfl, ?_⟩) hS ?_
              rotate_left 1
              · (intro w' hw'; (first | rw [hw'] | (have hw2 := HSF.out w' hw') | skip); go_simp; (try with_reducible rfl))
              simp only [Act.put, List.setIfInBounds_toArray, List.set_cons_zero, List.set_cons_succ]
              refine wpAnyX_S (i := 10) (v := ?_) rfl (by kernel_rfl) (by kernel_rfl) (by kernel_rfl) (by kernel_rfl) (fun _ _ _ h => h) (Or.inl ⟨by rfl, ?_⟩) hS ?_
              rotate_left 1
              · (intro w' hw'; (first | rw [hw'] | (have hw2 := HSF.out w' hw') | skip); go_simp; (try with_reducible rfl))
              simp only [Act.put, List.setIfInBounds_toArray, List.set_cons_zero, List.set_cons_succ]
              refine wpAnyX_S (i := 11) (v := ?_) rfl (by kernel_rfl) (by kernel_rfl) (by kernel_rfl) (by kernel_rfl) (fun _ _ _ h => h) (Or.inl ⟨by rfl, ?_⟩) hS ?_
              rotate_left 1
              · (intro w' hw'; (first | rw [hw'] | (have hw2 := HSF.out w' hw') | skip); go_simp; (try with_reducible rfl))
              simp only [Act.put, List.setIfInBounds_toArray, List.set_cons_zero, List.set_cons_succ]
              refine wpAnyX_S (i := 12) (v := .agg #[.int .i64 2, .int .i64 0, .slice none 0 0, .slice tp0 Lt tc0]) rfl (by kernel_rfl) (by kernel_rfl) (by kernel_rfl) (by kernel_rfl) (fun _ _ _ h => h) (yieldsIf_loadA (by rfl) 26 (.tmp 189) rfl ⟨gs, M * 4, none⟩ _ rfl (fun w' hw' => HLV.out w' hw')) hS ?_
              simp only [Act.put, List.setIfInBounds_toArray, List.set_cons_zero, List.set_cons_succ]
              refine wpAnyX_S (i := 13) (v := ?_) rfl (by kernel_rfl) (by kernel_rfl) (by kernel_rfl) (by kernel_rfl) (fun _ _ _ h => h) (Or.inl ⟨by rfl, ?_⟩) hS ?_
              rotate_left 1
              · (intro w' hw'; (first | rw [hw'] | (have hw2 := HSF.out w' hw') | skip); go_simp; (try with_reducible rfl))
              simp only [Act.put, List.setIfInBounds_toArray, List.set_cons_zero, List.set_cons_succ]
              refine wpAnyX_oneL (k := 14) rfl (by kernel_rfl) rfl ?_
              refine wp_of_run (v := .slice (some ⟨wd.heap.size, 0, none⟩) 1 1) (w' := wd.alloc (.cells #[.int .i64 0, .int .i64 0, .slice none 0 0, .slice none 0 0] 26)) (by go_simp) ⟨fun _ => (Below.refl wd.heap.size wd).alloc (Nat.le_refl _) _, ?_⟩
              simp only [Act.put, List.setIfInBounds_toArray, List.set_cons_zero, List.set_cons_succ]
              have hb5 := below_al (Below.refl wd.heap.size wd) (.cells #[.int .i64 0, .int .i64 0, .slice none 0 0, .slice none 0 0] 26)
              have hz5 := Blk.new wd 26 #[.int .i64 0, .int .i64 0, .slice none 0 0, .slice none 0 0]
              have e5 : (wd.alloc (.cells #[.int .i64 0, .int .i64 0, .slice none 0 0, .slice none 0 0] 26)).heap.size = wd.heap.size + 1 := by simp
              obtain ⟨g5, hg5⟩ : ∃ g5, wd.heap.size = g5 := ⟨_, rfl⟩
              have HG5 := Sl.mk hg5
              have eg5 : (Value.slice (some ⟨wd.heap.size, 0, none⟩) 1 1) = .slice (some ⟨g5, 0, none⟩) 1 1 := by rw [hg5]
              rw [eg5]
              rw [hg5] at hz5
              obtain ⟨w5, hw5⟩ : ∃ w5, wd.alloc (.cells #[.int .i64 0, .int .i64 0, .slice none 0 0, .slice none 0 0] 26) = w5 := ⟨_, rfl⟩
              rw [hw5] at hb5 hz5 e5 ⊢
              clear hw5 hg5 eg5 hS
              obtain ⟨hz0, hz1, hz2, hz3⟩ := HINF.out
              have hS5 := HSD.out.1.be hb5
              have hX5 := free_be HSD.out.2 hb5
              have hkid : w5.ownsRow (w.heap.size + 1) 26 4 (.slice op L oc) L (vxsC ol) := by
                have h := hS5.kid ⟨op, ol, oc⟩ (by simp)
                have e : (Opn.mk op ol oc).l.length = L := HLL.out
                rw [HOR.out, e] at h
                exact h
              have hsz5 := hb5.size
              have hbs := HBD.out.size
              have hRz : Reads w5 w5.heap.size 4 (some ⟨g5, 0, none⟩) 1 [.int .i64 0, .int .i64 0, .slice none 0 0, .slice none 0 0] := ⟨rfl, fun _ => ⟨_, rfl, hz5.lt, fun j u hu => by rw [ad_zero, hz5.cell j]; simpa using hu⟩⟩
              refine wpAnyX_tailF [15, 16, 17, 18] (by kernel_rfl) (by rfl) (by rfl) (by rfl) ?_
              simp only [List.filterMap_cons, List.filterMap_nil, List.getElem?_cons_succ, List.getElem?_cons_zero]
              refine wpList_append_any w5 rfl (.tmp 186) (.tmp 192) 24 rfl (w.heap.size + 1) 26 i0 (.agg #[.int .i64 0, .int .i64 0, .slice none 0 0, .slice none 0 0]) 4 64 Tryd.underlying24 hz0 hz1 hz2 hz3 rfl (by decide) (.slice op L oc) L (vxsC ol) rfl hkid w5.heap.size (some ⟨g5, 0, none⟩) 1 1 _ rfl hRz (vxC_one (.mk 0 0 none [] 0 none [] 0)) (by unfold maxLen; omega) (by omega) (by omega) ?_
              intro v6 w6 ho6 hg6 hv6
              obtain ⟨gx, cx, rfl, -⟩ := ownCells ho6 (Nat.succ_pos L)
              have HP := push_facts (x := (Opn.mk tp0 tl tc0).x) hS5 HK.out HLL.out (by omega) hX5 rfl (by omega) ho6 (by unfold Opn.blk; rw [HOR.out]; exact hg6) (by unfold Opn.blk; rw [HOR.out]; exact hv6)
              have hb6 : Below (w.heap.size + 1) w0 w6 := (HBD.out.trans (hb5.mono (by omega))).grown hg6 (by omega) (fun g e => (hkid.lt g e).1)
              have hsz6 := hg6.size
              have hw62 : w2.heap.size ≤ w6.heap.size := by have := HWD.out; omega
              have hZ6 : Blk w6 w.heap.size 26 #[.int .i64 0, .int .i64 0, .slice none 0 0, .slice none 0 0] := (HZD.out.be hb5).grown hg6 (fun e => by have := (hkid.lt _ e.symm).1; omega)
              obtain ⟨hc6, hf6⟩ := HP.ce
              rw [HOR.out] at hc6
              have hba := HP.ba
              rw [show (Opn.mk (some ⟨gx, 0, none⟩) (ol ++ [(Opn.mk tp0 tl tc0).x]) cx).row = .slice (some ⟨gx, 0, none⟩) (L + 1) cx by unfold Opn.row; simp [HLL.out]] at hba
              obtain ⟨w7, hw7⟩ : ∃ w7, w6.setCell ⟨gs, K * 4 + 3, none⟩ (.slice (some ⟨gx, 0, none⟩) (L + 1) cx) = w7 := ⟨_, rfl⟩
              rw [hw7] at hba
              obtain ⟨ht7, hk7, hb7⟩ := hba
              have HF := Sl.mk (close_end (ps := ps') (o := ⟨tp0, tl, tc0⟩) (p := ⟨op, ol, oc⟩) hk7 (hb6.trans hb7) (hZ6.below hb7 (Nat.lt_succ_self _)) (by have h := HMAP.out; rw [List.append_assoc] at h; exact h) (Nat.le_trans hw62 hb7.size))
              have HT7 := Sl.mk ht7
              have HW7 := Sl.mk hw7
              have hLL1 : (L : Int) < (L : Int) + 1 := by omega
              clear hz0 hz1 hz2 hz3 hS5 hX5 hkid hRz ho6 hg6 hv6 hb6 hZ6 hb5 hz5 hsz5 hsz6 hbs hw62 hk7 hb7 e5 HSD HBD HZD HLV HSF HP ht7 hw7
              rw [HOX.out] at HF
              go_wp2_with fail
              refine NoPanic.normal ?_
              rw [HW7.out]
              clear hc6 hf6 HW7
              obtain ⟨p2, hp2⟩ : ∃ p2 : Opn, p2 = ⟨some ⟨gx, 0, none⟩, ol ++ [(Opn.mk tp0 tl tc0).x], cx⟩ := ⟨_, rfl⟩
              rw [← hp2] at HF
              clear hp2
              go_wp2_with (refine wpList_store_midL rfl 26 (.tmp 196) (.tmp 190) rfl gx (L * 4) #[.int .i64 2, .int .i64 0, .slice none 0 0, .slice tp0 Lt tc0] rfl rfl HT7.out (by rw [vxSize]; rfl) (all_one (x := (Opn.mk tp0 tl tc0).x) (by rw [HOX.out])) ?_)
              intro w8 hw8
              have hw8 : w7.setCells gx (L * 4) [.int .i64 2, .int .i64 0, .slice none 0 0, .slice tp0 Lt tc0] = w8 := hw8.out
              rw [hw8] at HF
              clear hw8 HT7
              go_wp2_with fail
              go_roundw
              case rel => exact ⟨M, cs', _, ps' ++ [p2], closeT s, rfl, by omega, HF.out.2.2.1, HF.out.2.1, ⟨HF.out.1, HF.out.2.2.2.1.1, by simp, by rw [topB_close HF.out.2.2.2.1.2]; exact HTB.out, fun y hy => HFT.out y (close_tail s y hy), HF.out.2.2.2.2⟩⟩
              case measure => have := HMM.out; simp [lenS]; omega
      · as_aux_lemma =>
        have hl1 : ¬ (i : Int) < (n : Int) := by omega
        clear hi hin2
        go_wp2_with fail
        go_loopw [5] (fun v5 wx => ∃ (m cs : Nat) (As : Option Addr) (os : List Opn) (s : List (List Vc)), v5 = .slice As m cs ∧ m ≤ 61 ∧ Blk wx w.heap.size 26 #[.int .i64 0, .int .i64 0, .slice none 0 0, .slice none 0 0] ∧ Below (w.heap.size + 1) w0 wx ∧
            Sl (Stk wx (w.heap.size + 1) As m cs os ∧ os.map (fun o => vsOf o.l) = s.reverse ∧ os ≠ [] ∧ topB s = topB s0 ∧ (∀ l ∈ s.tail, l.length ≤ 60) ∧ w2.heap.size ≤ wx.heap.size)) (fun v5 _ => lenS v5)
        case atStart => exact ⟨m, cs, As, os, s0, rfl, hm61, hZ, hB, ⟨HH.out.1, HH.out.2.1, HH.out.2.2.1, rfl, fun y hy => Nat.le_trans (HFW.out y (by rw [HS0.out]; exact List.mem_of_mem_tail hy)) hi60, HH.out.2.2.2⟩⟩
        case round =>
          clear hZ hB
          obtain ⟨m', cs', As', os', s, rfl, hm61', hZ, hB, HS⟩ := hrel
          obtain ⟨hStW, hMAP, hNe, hTB, hFT, hwW⟩ := HS.out
          have hos : ∃ ps o, os' = ps ++ [o] := ⟨os'.dropLast, os'.getLast hNe, (List.dropLast_concat_getLast hNe).symm⟩
          obtain ⟨ps, o, rfl⟩ := hos
          obtain ⟨gs, rfl⟩ := hStW.form hNe
          obtain ⟨M, hM⟩ : ∃ M, ps.length = M := ⟨_, rfl⟩
          have hmM : M + 1 = m' := by have := hStW.len; simp at this; omega
          have HMM := Sl.mk hmM
          have HM := Sl.mk hM
          have HTB := Sl.mk hTB
          have HFT := Sl.mk hFT
          by_cases hM1 : M = 0
          · have hps0 : ps = [] := List.eq_nil_of_length_eq_zero (by rw [hM, hM1])
            subst hps0
            have hm1 : m' = 1 := by omega
            subst hm1
            have hpop := hStW.pop
            have hcl := hStW.cells rfl
            have htop := top_of hMAP
            have HTOP := Sl.mk (htop.symm.trans hTB)
            obtain ⟨tp0, tl, tc0⟩ := o
            obtain ⟨Lt, hLt⟩ : ∃ Lt, tl.length = Lt := ⟨_, rfl⟩
            have hox : vxC (Opn.mk tp0 tl tc0).x = [.int .i64 2, .int .i64 0, .slice none 0 0, .slice tp0 Lt tc0] := by unfold Opn.x; rw [vxC_mk, hLt]; rfl
            rw [hox] at hcl
            have HPOP := Sl.mk hpop.2
            have HOX := Sl.mk hox
            have hcl0 : ∀ j v, [Value.int .i64 2, .int .i64 0, .slice none 0 0, .slice tp0 Lt tc0][j]? = some v → wr.cell? ((⟨gs, 0, none⟩ : Addr).add j) = some v := hcl
            have HBW := Sl.mk hB
            have hwr1 : w.heap.size + 1 ≤ wr.heap.size := by have := hB.size; omega
            clear HS hStW hMAP hNe hTB hFT hwW hM hmM hM1 hpop hcl htop hLt hox hB HMM HM HTB HFT
            go_wp2_with (first | refine ld_vxl hcl0 rfl (.tmp 218) rfl rfl ?_ | refine st_vx hZ rfl (.tmp 2) (.tmp 219) rfl 2 0 none 0 0 tp0 Lt tc0 rfl (by rfl) rfl ?_)
            intro w8 hZ8 hG8 _
            have hE8 : Below w.heap.size w w8 := below_only (HE0.out.trans (HBW.out.mono (Nat.le_succ _))) hG8 (by omega) (Nat.le_refl _)
            have HG8 := Sl.mk hG8
            clear hG8 hZ hcl0
            go_wp2_with fail
            refine bodyPost_ret (v := .tuple #[.agg #[.int .i64 2, .int .i64 0, .slice none 0 0, .slice tp0 Lt tc0], .bool okq, .int .i64 dq]) (results_cell2 Tryd.results6 _ _ _ rfl hZ8 Tryd.underlying26 vxSize rfl rfl) rfl ?_
            have hs8 := HG8.out.size
            refine ⟨(Opn.mk tp0 tl tc0).x, by rw [HOX.out, ← HRB.out.1, ← HRB.out.2], ?_, ?_, hE8⟩
            · unfold valB
              rw [HS0.out, ← HTOP.out]
              rfl
            · have h1 := HPOP.out.only HG8.out (fun g hg => ⟨hg.2.1, fun e => by injection e; have := hg.1; omega⟩)
              exact VxOk.mono (fun g hg => ⟨by have := hg.1; omega, by have := hg.2.1; omega⟩) _ h1
          · have hMi : (1 : Int) < (m' : Int) := by omega
            have hmi1 : (m' : Int) - 1 = (M : Int) := by omega
            have HREST := Sl.mk (show M ≠ 0 from hM1)
            have hBW := hB
            have hZW := hZ
            clear HS hNe hTB hFT hM hmM hM1 hB hZ
            have hps : ∃ ps' p, ps = ps' ++ [p] := ⟨ps.dropLast, ps.getLast (fun e => HREST.out (by rw [← HM.out, e]; rfl)), (List.dropLast_concat_getLast _).symm⟩
            obtain ⟨ps', p, rfl⟩ := hps
            obtain ⟨K, hK⟩ : ∃ K, ps'.length = K := ⟨_, rfl⟩
            have hKM : K + 1 = M := by have := HM.out; simp at this; omega
            have hK1 : (M : Int) - 1 = (K : Int) := by omega
            have hkw : IntKind.i64.wrap (K : Int) = (K : Int) := IntWalk.i64_in _ (by omega)
            have hKm : (K : Int) < (m' : Int) := by have := HMM.out; omega
            have hMm2 : (M : Int) < (m' : Int) := by have := HMM.out; omega
            have hMc : (M : Int) ≤ (cs' : Int) := by have h1 := (ownCapS hStW.row).1; have := HMM.out; omega
            have hM0 : (0 : Int) ≤ (M : Int) := by omega
            have hK0 : (0 : Int) ≤ (K : Int) := by omega
            have HFEWp := Sl.mk (show p.l.length ≤ 60 from few_two hMAP HFT.out)
            have HSTW := Sl.mk (show Stk wr (w.heap.size + 1) (some ⟨gs, 0, none⟩) (M + 1) cs' ((ps' ++ [p]) ++ [o]) by rw [HMM.out]; exact hStW)
            have HBW := Sl.mk hBW
            have HZW := Sl.mk hZW
            have HWW := Sl.mk hwW
            have HMAP := Sl.mk hMAP
            have HK := Sl.mk hK
            have HKM := Sl.mk hKM
            obtain ⟨op, ol, oc⟩ := p
            obtain ⟨tp0, tl, tc0⟩ := o
            obtain ⟨L, hL⟩ : ∃ L, ol.length = L := ⟨_, rfl⟩
            obtain ⟨Lt, hLt⟩ : ∃ Lt, tl.length = Lt := ⟨_, rfl⟩
            have hor : (Opn.mk op ol oc).row = .slice op L oc := by unfold Opn.row; rw [hL]
            have hox : vxC (Opn.mk tp0 tl tc0).x = [.int .i64 2, .int .i64 0, .slice none 0 0, .slice tp0 Lt tc0] := by unfold Opn.x; rw [vxC_mk, hLt]; rfl
            have HOR := Sl.mk hor
            have HOX := Sl.mk hox
            have HLL := Sl.mk hL
            have hL2 : L ≤ 60 := by have := HFEWp.out; rw [← hL]; exact this
            clear hStW hBW hZW hwW hMAP hK hKM hL hLt hor hox
            go_wp2_with fail
            refine wp_region_X (fun _ => True) [0, 1, 2, 3] (by kernel_rfl) trivial (fun _ => ?_)
            obtain ⟨we, hwe⟩ : ∃ we, wr.drew = we := ⟨_, rfl⟩
            have HBE := Sl.mk (show Below wr.heap.size wr we by rw [← hwe]; exact (Below.refl _ _).drew)
            rw [hwe]
            clear hwe
            refine wpAnyX_oneL (k := 0) rfl (by kernel_rfl) rfl ?_
            refine wp_of_run (v := .pointer (some ⟨we.heap.size, 0, none⟩)) (w' := we.alloc (.cells #[.bool false] 4)) (by go_simp) ⟨fun he => absurd he (by decide), ?_⟩
            simp only [Act.put, List.setIfInBounds_toArray, List.set_cons_zero, List.set_cons_succ]
            refine wpAnyX_twoL (i := 1) (j := 2) rfl rfl (by kernel_rfl) rfl rfl ?_ ?_
            · refine wp_of_skip (w' := we.alloc (.cells #[.bool true] 4)) (by go_simp) ⟨fun he => absurd he (by decide), ?_⟩
              simp only [Act.put]
              refine wpAnyX_tailF [2, 3] (by kernel_rfl) (by rfl) (by rfl) (by rfl) ?_
              simp only [List.filterMap_cons, List.filterMap_nil, List.getElem?_cons_succ, List.getElem?_cons_zero]
              go_wp2_with fail
              refine NoPanic.normal ?_
              have HB4 := Sl.mk (HBE.out.trans ((below_al (Below.refl we.heap.size we) (.cells #[.bool false] 4)).mono HBE.out.size))
              obtain ⟨w4, hw4⟩ : ∃ w4, we.alloc (.cells #[.bool false] 4) = w4 := ⟨_, rfl⟩
              rw [hw4] at HB4 ⊢
              clear hw4
              go_wp2_with fail
              obtain ⟨wd, hwd⟩ : ∃ wd, w4.drew = wd := ⟨_, rfl⟩
              have hbd : Below wr.heap.size wr wd := by rw [← hwd]; exact HB4.out.drew
              have hSd := HSTW.out.be hbd
              have hPop := hSd.pop
              have hzd : Blk wd w.heap.size 26 #[.int .i64 0, .int .i64 0, .slice none 0 0, .slice none 0 0] := HZW.out.be hbd
              have hBd : Below (w.heap.size + 1) w0 wd := HBW.out.trans (hbd.mono (by have := HBW.out.size; omega))
              have hwdz : w2.heap.size ≤ wd.heap.size := Nat.le_trans HWW.out hbd.size
              have HSF : Sl (∀ W, Below wd.heap.size wd W → W.cell? ⟨gs, K * 4 + 3, none⟩ = some (.slice op L oc)) := Sl.mk (fun W hW => by
                have h1 := (hPop.1.be hW).hdr.1
                rw [HK.out, HOR.out] at h1
                exact h1)
              have HLV : Sl (∀ W, Below wd.heap.size wd W → (loadVar 26 ⟨gs, M * 4, none⟩).run Tryd.prog W = .ok (.agg #[.int .i64 2, .int .i64 0, .slice none 0 0, .slice tp0 Lt tc0]) W) := Sl.mk (fun W hW => by
                have h1 := (hSd.be hW).whole HM.out
                rw [HOX.out] at h1
                exact h1)
              have HSD := Sl.mk hPop
              have HBD := Sl.mk hBd
              have HZD := Sl.mk hzd
              have HWD := Sl.mk hwdz
              clear hSd hPop hzd hBd hbd hwdz
              refine wp_region_X (fun W => Below wd.heap.size wd W) [0, 1, 2, 14, 15, 16, 17] (by kernel_rfl) (by rw [hwd]; exact Below.refl _ _) (fun hS => ?_)
              rw [hwd] at hS ⊢
              clear hwd
              refine wpAnyX_P (i := 0) (v := ?_) rfl (by kernel_rfl) (by kernel_rfl) (by kernel_rfl) (by kernel_rfl) (fun _ _ _ h => h) (Or.inl ⟨by rfl, ?_⟩) ?_
              rotate_left 1
              · (intro w' hw'; (first | rw [hw'] | (have hw2 := HSF.out w' hw') | skip); go_simp; (try with_reducible rfl))
              simp only [Act.put, List.setIfInBounds_toArray, List.set_cons_zero, List.set_cons_succ]
              refine wpAnyX_P (i := 1) (v := ?_) rfl (by kernel_rfl) (by kernel_rfl) (by kernel_rfl) (by kernel_rfl) (fun _ _ _ h => h) (Or.inl ⟨by rfl, ?_⟩) ?_
              rotate_left 1
              · (intro w' hw'; (first | rw [hw'] | (have hw2 := HSF.out w' hw') | skip); go_simp; (try with_reducible rfl))
              simp only [Act.put, List.setIfInBounds_toArray, List.set_cons_zero, List.set_cons_succ]
              refine wpAnyX_P (i := 2) (v := ?_) rfl (by kernel_rfl) (by kernel_rfl) (by kernel_rfl) (by kernel_rfl) (fun _ _ _ h => h) (Or.inl ⟨by rfl, ?_⟩) ?_
              rotate_left 1
              · (intro w' hw'; (first | rw [hw'] | (have hw2 := HSF.out w' hw') | skip); go_simp; (try with_reducible rfl))
              simp only [Act.put, List.setIfInBounds_toArray, List.set_cons_zero, List.set_cons_succ]
              refine wpAnyX_S (i := 3) (v := ?_) rfl (by kernel_rfl) (by kernel_rfl) (by kernel_rfl) (by kernel_rfl) (fun _ _ _ h => h) (Or.inl ⟨by rfl, ?_⟩) hS ?_
              rotate_left 1
              · (intro w' hw'; (first | rw [hw'] | (have hw2 := HSF.out w' hw') | skip); go_simp; (try with_reducible rfl))
              simp only [Act.put, List.setIfInBounds_toArray, List.set_cons_zero, List.set_cons_succ]
              refine wpAnyX_S (i := 4) (v := ?_) rfl (by kernel_rfl) (by kernel_rfl) (by kernel_rfl) (by kernel_rfl) (fun _ _ _ h => h) (Or.inl ⟨by rfl, ?_⟩) hS ?_
              rotate_left 1
              · (intro w' hw'; (first | rw [hw'] | (have hw2 := HSF.out w' hw') | skip); go_simp; (try with_reducible rfl))
              simp only [Act.put, List.setIfInBounds_toArray, List.set_cons_zero, List.set_cons_succ]
              refine wpAnyX_S (i := 5) (v := ?_) rfl (by kernel_rfl) (by kernel_rfl) (by kernel_rfl) (by kernel_rfl) (fun _ _ _ h => h) (Or.inl ⟨by rfl, ?_⟩) hS ?_
              rotate_left 1
              · (intro w' hw'; (first | rw [hw'] | (have hw2 := HSF.out w' hw') | skip); go_simp; (try with_reducible rfl))
              simp only [Act.put, List.setIfInBounds_toArray, List.set_cons_zero, List.set_cons_succ]
              refine wpAnyX_S (i := 6) (v := ?_) rfl (by kernel_rfl) (by kernel_rfl) (by kernel_rfl) (by kernel_rfl) (fun _ _ _ h => h) (Or.inl ⟨by rfl, ?_⟩) hS ?_
              rotate_left 1
              · (intro w' hw'; (first | rw [hw'] | (have hw2 := HSF.out w' hw') | skip); go_simp; (try with_reducible rfl))
              simp only [Act.put, List.setIfInBounds_toArray, List.set_cons_zero, List.set_cons_succ]
              refine wpAnyX_S (i := 7) (v := ?_) rfl (by kernel_rfl) (by kernel_rfl) (by kernel_rfl) (by kernel_rfl) (fun _ _ _ h => h) (Or.inl ⟨by rfl, ?_⟩) hS ?_
              rotate_left 1
              · (intro w' hw'; (first | rw [hw'] | (have hw2 := HSF.out w' hw') | skip); go_simp; (try with_reducible rfl))
              simp only [Act.put, List.setIfInBounds_toArray, List.set_cons_zero, List.set_cons_succ]
              refine wpAnyX_S (i := 8) (v := ?_) rfl (by kernel_rfl) (by kernel_rfl) (by kernel_rfl) (by kernel_rfl) (fun _ _ _ h => h) (Or.inl ⟨by rfl, ?_⟩) hS ?_
              rotate_left 1
              · (intro w' hw'; (first | rw [hw'] | (have hw2 := HSF.out w' hw') | skip); go_simp; (try with_reducible rfl))
              simp only [Act.put, List.setIfInBounds_toArray, List.set_cons_zero, List.set_cons_succ]
              refine wpAnyX_S (i := 9) (v := ?_) rfl (by kernel_rfl) (by kernel_rfl) (by kernel_rfl) (by kernel_rfl) (fun _ _ _ h => h) (Or.inl ⟨by rfl, ?_⟩) hS ?_
              rotate_left 1
              · (intro w' hw'; (first | rw [hw'] | (have hw2 := HSF.out w' hw') | skip); go_simp; (try with_reducible rfl))
              simp only [Act.put, List.setIfInBounds_toArray, List.set_cons_zero, List.set_cons_succ]
              refine wpAnyX_S (i := 10) (v := ?_) rfl (by kernel_rfl) (by kernel_rfl) (by kernel_rfl) (by kernel_rfl) (fun _ _ _ h => h) (Or.inl ⟨by rfl, ?_⟩) hS ?_
              rotate_left 1
              · (intro w' hw'; (first | rw [hw'] | (have hw2 := HSF.out w' hw') | skip); go_simp; (try with_reducible rfl))
              simp only [Act.put, List.setIfInBounds_toArray, List.set_cons_zero, List.set_cons_succ]
              refine wpAnyX_S (i := 11) (v := ?_) rfl (by kernel_rfl) (by kernel_rfl) (by kernel_rfl) (by kernel_rfl) (fun _ _ _ h => h) (Or.inl ⟨by rfl, ?_⟩) hS ?_
              rotate_left 1
              · (intro w' hw'; (first | rw [hw'] | (have hw2 := HSF.out w' hw') | skip); go_simp; (try with_reducible rfl))
              simp only [Act.put, List.setIfInBounds_toArray, List.set_cons_zero, List.set_cons_succ]
              refine wpAnyX_S (i := 12) (v := .agg #[.int .i64 2, .int .i64 0, .slice none 0 0, .slice tp0 Lt tc0]) rfl (by kernel_rfl) (by kernel_rfl) (by kernel_rfl) (by kernel_rfl) (fun _ _ _ h => h) (yieldsIf_loadA (by rfl) 26 (.tmp 208) rfl ⟨gs, M * 4, none⟩ _ rfl (fun w' hw' => HLV.out w' hw')) hS ?_
              simp only [Act.put, List.setIfInBounds_toArray, List.set_cons_zero, List.set_cons_succ]
              refine wpAnyX_oneL (k := 13) rfl (by kernel_rfl) rfl ?_
              refine wp_of_run (v := .slice (some ⟨wd.heap.size, 0, none⟩) 1 1) (w' := wd.alloc (.cells #[.int .i64 2, .int .i64 0, .slice none 0 0, .slice tp0 Lt tc0] 26)) (by go_simp) ⟨fun _ => (Below.refl wd.heap.size wd).alloc (Nat.le_refl _) _, ?_⟩
              simp only [Act.put, List.setIfInBounds_toArray, List.set_cons_zero, List.set_cons_succ]
              have hb5 := below_al (Below.refl wd.heap.size wd) (.cells #[.int .i64 2, .int .i64 0, .slice none 0 0, .slice tp0 Lt tc0] 26)
              have hz5 := Blk.new wd 26 #[.int .i64 2, .int .i64 0, .slice none 0 0, .slice tp0 Lt tc0]
              have e5 : (wd.alloc (.cells #[.int .i64 2, .int .i64 0, .slice none 0 0, .slice tp0 Lt tc0] 26)).heap.size = wd.heap.size + 1 := by simp
              obtain ⟨g5, hg5⟩ : ∃ g5, wd.heap.size = g5 := ⟨_, rfl⟩
              have HG5 := Sl.mk hg5
              have eg5 : (Value.slice (some ⟨wd.heap.size, 0, none⟩) 1 1) = .slice (some ⟨g5, 0, none⟩) 1 1 := by rw [hg5]
              rw [eg5]
              rw [hg5] at hz5
              obtain ⟨w5, hw5⟩ : ∃ w5, wd.alloc (.cells #[.int .i64 2, .int .i64 0, .slice none 0 0, .slice tp0 Lt tc0] 26) = w5 := ⟨_, rfl⟩
              rw [hw5] at hb5 hz5 e5 ⊢
              clear hw5 hg5 eg5 hS
              obtain ⟨hz0, hz1, hz2, hz3⟩ := HINF.out
              have hS5 := HSD.out.1.be hb5
              have hX5 := free_be HSD.out.2 hb5
              have hkid : w5.ownsRow (w.heap.size + 1) 26 4 (.slice op L oc) L (vxsC ol) := by
                have h := hS5.kid ⟨op, ol, oc⟩ (by simp)
                have e : (Opn.mk op ol oc).l.length = L := HLL.out
                rw [HOR.out, e] at h
                exact h
              have hsz5 := hb5.size
              have hbs := HBD.out.size
              have hRz : Reads w5 w5.heap.size 4 (some ⟨g5, 0, none⟩) 1 (vxC (Opn.mk tp0 tl tc0).x) := ⟨by rw [vxC_len], fun _ => ⟨_, rfl, hz5.lt, fun j u hu => by rw [HOX.out] at hu; rw [ad_zero, hz5.cell j]; simpa using hu⟩⟩
              refine wpAnyX_tailF [14, 15, 16, 17] (by kernel_rfl) (by rfl) (by rfl) (by rfl) ?_
              simp only [List.filterMap_cons, List.filterMap_nil, List.getElem?_cons_succ, List.getElem?_cons_zero]
              refine wpList_append_any w5 rfl (.tmp 205) (.tmp 210) 24 rfl (w.heap.size + 1) 26 i0 (.agg #[.int .i64 0, .int .i64 0, .slice none 0 0, .slice none 0 0]) 4 64 Tryd.underlying24 hz0 hz1 hz2 hz3 rfl (by decide) (.slice op L oc) L (vxsC ol) rfl hkid w5.heap.size (some ⟨g5, 0, none⟩) 1 1 (vxC (Opn.mk tp0 tl tc0).x) rfl hRz (vxC_one _) (by unfold maxLen; omega) (by omega) (by omega) ?_
              intro v6 w6 ho6 hg6 hv6
              obtain ⟨gx, cx, rfl, -⟩ := ownCells ho6 (Nat.succ_pos L)
              have HP := push_hdr (x := (Opn.mk tp0 tl tc0).x) hS5 HK.out HLL.out (by omega) hX5 (by omega) ho6 (by unfold Opn.blk; rw [HOR.out]; exact hg6) (by unfold Opn.blk; rw [HOR.out]; exact hv6)
              have hb6 : Below (w.heap.size + 1) w0 w6 := (HBD.out.trans (hb5.mono (by omega))).grown hg6 (by omega) (fun g e => (hkid.lt g e).1)
              have hsz6 := hg6.size
              have hw62 : w2.heap.size ≤ w6.heap.size := by have := HWD.out; omega
              have hZ6 : Blk w6 w.heap.size 26 #[.int .i64 0, .int .i64 0, .slice none 0 0, .slice none 0 0] := (HZD.out.be hb5).grown hg6 (fun e => by have := (hkid.lt _ e.symm).1; omega)
              obtain ⟨⟨hc6, hf6⟩, hk7, hb7⟩ := HP
              rw [HOR.out] at hc6
              have HF := Sl.mk (close_end (ps := ps') (o := ⟨tp0, tl, tc0⟩) (p := ⟨op, ol, oc⟩) hk7 (hb6.trans hb7) (hZ6.below hb7 (Nat.lt_succ_self _)) (by have h := HMAP.out; rw [List.append_assoc] at h; exact h) (Nat.le_trans hw62 hb7.size))
              clear hz0 hz1 hz2 hz3 hS5 hX5 hkid hRz ho6 hg6 hv6 hb6 hZ6 hb5 hz5 hsz5 hsz6 hbs hw62 hk7 hb7 e5 HSD HBD HZD HLV HSF
              obtain ⟨w7, hw7⟩ : ∃ w7, w6.setCell ⟨gs, K * 4 + 3, none⟩ (.slice (some ⟨gx, 0, none⟩) (L + 1) cx) = w7 := ⟨_, rfl⟩
              have HW7 := Sl.mk hw7
              rw [hw7] at HF
              clear hw7
              obtain ⟨p2, hp2⟩ : ∃ p2 : Opn, p2 = ⟨some ⟨gx, 0, none⟩, ol ++ [(Opn.mk tp0 tl tc0).x], cx⟩ := ⟨_, rfl⟩
              rw [← hp2] at HF
              clear hp2
              go_wp2_with fail
              refine NoPanic.normal ?_
              rw [HW7.out]
              clear HW7
              go_wp2_with fail
              go_roundw
              case rel => exact ⟨M, cs', _, ps' ++ [p2], closeT s, rfl, by omega, HF.out.2.2.1, HF.out.2.1, ⟨HF.out.1, HF.out.2.2.2.1.1, by simp, by rw [topB_close HF.out.2.2.2.1.2]; exact HTB.out, fun y hy => HFT.out y (close_tail s y hy), HF.out.2.2.2.2⟩⟩
              case measure => have := HMM.out; simp [lenS]; omega
            · refine wp_of_skip (w' := we.alloc (.cells #[.bool false] 4)) (by go_simp) ⟨fun he => absurd he (by decide), ?_⟩
              simp only [Act.put]
              refine wpAnyX_tailF [1, 3] (by kernel_rfl) (by rfl) (by rfl) (by rfl) ?_
              simp only [List.filterMap_cons, List.filterMap_nil, List.getElem?_cons_succ, List.getElem?_cons_zero]
              go_wp2_with fail
              refine NoPanic.normal ?_
              have HB4 := Sl.mk (HBE.out.trans ((below_al (Below.refl we.heap.size we) (.cells #[.bool true] 4)).mono HBE.out.size))
              obtain ⟨w4, hw4⟩ : ∃ w4, we.alloc (.cells #[.bool true] 4) = w4 := ⟨_, rfl⟩
              rw [hw4] at HB4 ⊢
              clear hw4
              go_wp2_with fail
              obtain ⟨wd, hwd⟩ : ∃ wd, w4.drew = wd := ⟨_, rfl⟩
              have hbd : Below wr.heap.size wr wd := by rw [← hwd]; exact HB4.out.drew
              have hSd := HSTW.out.be hbd
              have hPop := hSd.pop
              have hzd : Blk wd w.heap.size 26 #[.int .i64 0, .int .i64 0, .slice none 0 0, .slice none 0 0] := HZW.out.be hbd
              have hBd : Below (w.heap.size + 1) w0 wd := HBW.out.trans (hbd.mono (by have := HBW.out.size; omega))
              have hwdz : w2.heap.size ≤ wd.heap.size := Nat.le_trans HWW.out hbd.size
              have HSF : Sl (∀ W, Below wd.heap.size wd W → W.cell? ⟨gs, K * 4 + 3, none⟩ = some (.slice op L oc)) := Sl.mk (fun W hW => by
                have h1 := (hPop.1.be hW).hdr.1
                rw [HK.out, HOR.out] at h1
                exact h1)
              have HLV : Sl (∀ W, Below wd.heap.size wd W → (loadVar 26 ⟨gs, M * 4, none⟩).run Tryd.prog W = .ok (.agg #[.int .i64 2, .int .i64 0, .slice none 0 0, .slice tp0 Lt tc0]) W) := Sl.mk (fun W hW => by
                have h1 := (hSd.be hW).whole HM.out
                rw [HOX.out] at h1
                exact h1)
              have HSD := Sl.mk hPop
              have HBD := Sl.mk hBd
              have HZD := Sl.mk hzd
              have HWD := Sl.mk hwdz
              clear hSd hPop hzd hBd hbd hwdz
              refine wp_region_X (fun W => Below wd.heap.size wd W) [15, 16, 17, 18] (by kernel_rfl) (by rw [hwd]; exact Below.refl _ _) (fun hS => ?_)
              rw [hwd] at hS ⊢
              clear hwd
              refine wpAnyX_S (i := 0) (v := ?_) rfl (by kernel_rfl) (by kernel_rfl) (by kernel_rfl) (by kernel_rfl) (fun _ _ _ h => h) (Or.inl ⟨by rfl, ?_⟩) hS ?_
              rotate_left 1
              · (intro w' hw'; (first | rw [hw'] | (have hw2 := HSF.out w' hw') | skip); go_simp; (try with_reducible rfl))
              simp only [Act.put, List.setIfInBounds_toArray, List.set_cons_zero, List.set_cons_succ]
              refine wpAnyX_S (i := 1) (v := ?_) rfl (by kernel_rfl) (by kernel_rfl) (by kernel_rfl) (by kernel_rfl) (fun _ _ _ h => h) (Or.inl ⟨by rfl, ?_⟩) hS ?_
              rotate_left 1
              · (intro w' hw'; (first | rw [hw'] | (have hw2 := HSF.out w' hw') | skip); go_simp; (try with_reducible rfl))
              simp only [Act.put, List.setIfInBounds_toArray, List.set_cons_zero, List.set_cons_succ]
              refine wpAnyX_S (i := 2) (v := ?_) rfl (by kernel_rfl) (by kernel_rfl) (by kernel_rfl) (by kernel_rfl) (fun _ _ _ h => h) (Or.inl ⟨by rfl, ?_⟩) hS ?_
              rotate_left 1
              · (intro w' hw'; (first | rw [hw'] | (have hw2 := HSF.out w' hw') | skip); go_simp; (try with_reducible rfl))
              simp only [Act.put, List.setIfInBounds_toArray, List.set_cons_zero, List.set_cons_succ]
              refine wpAnyX_S (i := 3) (v := ?_) rfl (by kernel_rfl) (by kernel_rfl) (by kernel_rfl) (by kernel_rfl) (fun _ _ _ h => h) (Or.inl ⟨by rfl, ?_⟩) hS ?_
              rotate_left 1
              · (intro w' hw'; (first | rw [hw'] | (have hw2 := HSF.out w' hw') | skip); go_simp; (try with_reducible rfl))
              simp only [Act.put, List.setIfInBounds_toArray, List.set_cons_zero, List.set_cons_succ]
              refine wpAnyX_S (i := 4) (v := ?_) rfl (by kernel_rfl) (by kernel_rfl) (by kernel_rfl) (by kernel_rfl) (fun _ _ _ h => h) (Or.inl ⟨by rfl, ?_⟩) hS ?_
              rotate_left 1
              · (intro w' hw'; (first | rw [hw'] | (have hw2 := HSF.out w' hw') | skip); go_simp; (try with_reducible rfl))
              simp only [Act.put, List.setIfInBounds_toArray, List.set_cons_zero, List.set_cons_succ]
              refine wpAnyX_S (i := 5) (v := ?_) rfl (by kernel_rfl) (by kernel_rfl) (by kernel_rfl) (by kernel_rfl) (fun _ _ _ h => h) (Or.inl ⟨by rfl, ?_⟩) hS ?_
              rotate_left 1
              · (intro w' hw'; (first | rw [hw'] | (have hw2 := HSF.out w' hw') | skip); go_simp; (try with_reducible rfl))
              simp only [Act.put, List.setIfInBounds_toArray, List.set_cons_zero, List.set_cons_succ]
              refine wpAnyX_S (i := 6) (v := ?_) rfl (by kernel_rfl) (by kernel_rfl) (by kernel_rfl) (by kernel_rfl) (fun _ _ _ h => h) (Or.inl ⟨by rfl, ?_⟩) hS ?_
              rotate_left 1
              · (intro w' hw'; (first | rw [hw'] | (have hw2 := HSF.out w' hw') | skip); go_simp; (try with_reducible rfl))
              simp only [Act.put, List.setIfInBounds_toArray, List.set_cons_zero, List.set_cons_succ]
              refine wpAnyX_S (i := 7) (v := ?_) rfl (by kernel_rfl) (by kernel_rfl) (by kernel_rfl) (by kernel_rfl) (fun _ _ _ h => h) (Or.inl ⟨by rfl, ?_⟩) hS ?_
              rotate_left 1
              · (intro w' hw'; (first | rw [hw'] | (have hw2 := HSF.out w' hw') | skip); go_simp; (try with_reducible rfl))
              simp only [Act.put, List.setIfInBounds_toArray, List.set_cons_zero, List.set_cons_succ]
              refine wpAnyX_S (i := 8) (v := ?_) rfl (by kernel_rfl) (by kernel_rfl) (by kernel_rfl) (by kernel_rfl) (fun _ _ _ h => h) (Or.inl ⟨by rfl, ?_⟩) hS ?_
              rotate_left 1
              · (intro w' hw'; (first | rw [hw'] | (have hw2 := HSF.out w' hw') | skip); go_simp; (try with_reducible rfl))
              simp only [Act.put, List.setIfInBounds_toArray, List.set_cons_zero, List.set_cons_succ]
              refine wpAnyX_S (i := 9) (v := ?_) rfl (by kernel_rfl) (by kernel_rfl) (by kernel_rfl) (by kernel_rfl) (fun _ _ _ h => h) (Or.inl ⟨by rfl, ?_⟩) hS ?_
              rotate_left 1
              · (intro w' hw'; (first | rw [hw'] | (have hw2 := HSF.out w' hw') | skip); go_simp; (try with_reducible rfl))
              simp only [Act.put, List.setIfInBounds_toArray, List.set_cons_zero, List.set_cons_succ]
              refine wpAnyX_S (i := 10) (v := ?_) rfl (by kernel_rfl) (by kernel_rfl) (by kernel_rfl) (by kernel_rfl) (fun _ _ _ h => h) (Or.inl ⟨by rfl, ?_⟩) hS ?_
              rotate_left 1
              · (intro w' hw'; (first | rw [hw'] | (have hw2 := HSF.out w' hw') | skip); go_simp; (try with_reducible rfl))
              simp only [Act.put, List.setIfInBounds_toArray, List.set_cons_zero, List.set_cons_succ]
              refine wpAnyX_S (i := 11) (v := ?_) rfl (by kernel_rfl) (by kernel_rfl) (by kernel_rfl) (by kernel_rfl) (fun _ _ _ h => h) (Or.inl ⟨by rfl, ?_⟩) hS ?_
              rotate_left 1
              · (intro w' hw'; (first | rw [hw'] | (have hw2 := HSF.out w' hw') | skip); go_simp; (try with_reducible rfl))
              simp only [Act.put, List.setIfInBounds_toArray, List.set_cons_zero, List.set_cons_succ]
              refine wpAnyX_S (i := 12) (v := .agg #[.int .i64 2, .int .i64 0, .slice none 0 0, .slice tp0 Lt tc0]) rfl (by kernel_rfl) (by kernel_rfl) (by kernel_rfl) (by kernel_rfl) (fun _ _ _ h => h) (yieldsIf_loadA (by rfl) 26 (.tmp 189) rfl ⟨gs, M * 4, none⟩ _ rfl (fun w' hw' => HLV.out w' hw')) hS ?_
              simp only [Act.put, List.setIfInBounds_toArray, List.set_cons_zero, List.set_cons_succ]
              refine wpAnyX_S (i := 13) (v := ?_) rfl (by kernel_rfl) (by kernel_rfl) (by kernel_rfl) (by kernel_rfl) (fun _ _ _ h => h) (Or.inl ⟨by rfl, ?_⟩) hS ?_
              rotate_left 1
              · (intro w' hw'; (first | rw [hw'] | (have hw2 := HSF.out w' hw') | skip); go_simp; (try with_reducible rfl))
              simp only [Act.put, List.setIfInBounds_toArray, List.set_cons_zero, List.set_cons_succ]
              refine wpAnyX_oneL (k := 14) rfl (by kernel_rfl) rfl ?_
              refine wp_of_run (v := .slice (some ⟨wd.heap.size, 0, none⟩) 1 1) (w' := wd.alloc (.cells #[.int .i64 0, .int .i64 0, .slice none 0 0, .slice none 0 0] 26)) (by go_simp) ⟨fun _ => (Below.refl wd.heap.size wd).alloc (Nat.le_refl _) _, ?_⟩
              simp only [Act.put, List.setIfInBounds_toArray, List.set_cons_zero, List.set_cons_succ]
              have hb5 := below_al (Below.refl wd.heap.size wd) (.cells #[.int .i64 0, .int .i64 0, .slice none 0 0, .slice none 0 0] 26)
              have hz5 := Blk.new wd 26 #[.int .i64 0, .int .i64 0, .slice none 0 0, .slice none 0 0]
              have e5 : (wd.alloc (.cells #[.int .i64 0, .int .i64 0, .slice none 0 0, .slice none 0 0] 26)).heap.size = wd.heap.size + 1 := by simp
              obtain ⟨g5, hg5⟩ : ∃ g5, wd.heap.size = g5 := ⟨_, rfl⟩
              have HG5 := Sl.mk hg5
              have eg5 : (Value.slice (some ⟨wd.heap.size, 0, none⟩) 1 1) = .slice (some ⟨g5, 0, none⟩) 1 1 := by rw [hg5]
              rw [eg5]
              rw [hg5] at hz5
              obtain ⟨w5, hw5⟩ : ∃ w5, wd.alloc (.cells #[.int .i64 0, .int .i64 0, .slice none 0 0, .slice none 0 0] 26) = w5 := ⟨_, rfl⟩
              rw [hw5] at hb5 hz5 e5 ⊢
              clear hw5 hg5 eg5 hS
              obtain ⟨hz0, hz1, hz2, hz3⟩ := HINF.out
              have hS5 := HSD.out.1.be hb5
              have hX5 := free_be HSD.out.2 hb5
              have hkid : w5.ownsRow (w.heap.size + 1) 26 4 (.slice op L oc) L (vxsC ol) := by
                have h := hS5.kid ⟨op, ol, oc⟩ (by simp)
                have e : (Opn.mk op ol oc).l.length = L := HLL.out
                rw [HOR.out, e] at h
                exact h
              have hsz5 := hb5.size
              have hbs := HBD.out.size
              have hRz : Reads w5 w5.heap.size 4 (some ⟨g5, 0, none⟩) 1 [.int .i64 0, .int .i64 0, .slice none 0 0, .slice none 0 0] := ⟨rfl, fun _ => ⟨_, rfl, hz5.lt, fun j u hu => by rw [ad_zero, hz5.cell j]; simpa using hu⟩⟩
              refine wpAnyX_tailF [15, 16, 17, 18] (by kernel_rfl) (by rfl) (by rfl) (by rfl) ?_
              simp only [List.filterMap_cons, List.filterMap_nil, List.getElem?_cons_succ, List.getElem?_cons_zero]
              refine wpList_append_any w5 rfl (.tmp 186) (.tmp 192) 24 rfl (w.heap.size + 1) 26 i0 (.agg #[.int .i64 0, .int .i64 0, .slice none 0 0, .slice none 0 0]) 4 64 Tryd.underlying24 hz0 hz1 hz2 hz3 rfl (by decide) (.slice op L oc) L (vxsC ol) rfl hkid w5.heap.size (some ⟨g5, 0, none⟩) 1 1 _ rfl hRz (vxC_one (.mk 0 0 none [] 0 none [] 0)) (by unfold maxLen; omega) (by omega) (by omega) ?_
              intro v6 w6 ho6 hg6 hv6
              obtain ⟨gx, cx, rfl, -⟩ := ownCells ho6 (Nat.succ_pos L)
              have HP := push_facts (x := (Opn.mk tp0 tl tc0).x) hS5 HK.out HLL.out (by omega) hX5 rfl (by omega) ho6 (by unfold Opn.blk; rw [HOR.out]; exact hg6) (by unfold Opn.blk; rw [HOR.out]; exact hv6)
              have hb6 : Below (w.heap.size + 1) w0 w6 := (HBD.out.trans (hb5.mono (by omega))).grown hg6 (by omega) (fun g e => (hkid.lt g e).1)
              have hsz6 := hg6.size
              have hw62 : w2.heap.size ≤ w6.heap.size := by have := HWD.out; omega
              have hZ6 : Blk w6 w.heap.size 26 #[.int .i64 0, .int .i64 0, .slice none 0 0, .slice none 0 0] := (HZD.out.be hb5).grown hg6 (fun e => by have := (hkid.lt _ e.symm).1; omega)
              obtain ⟨hc6, hf6⟩ := HP.ce
              rw [HOR.out] at hc6
              have hba := HP.ba
              rw [show (Opn.mk (some ⟨gx, 0, none⟩) (ol ++ [(Opn.mk tp0 tl tc0).x]) cx).row = .slice (some ⟨gx, 0, none⟩) (L + 1) cx by unfold Opn.row; simp [HLL.out]] at hba
              obtain ⟨w7, hw7⟩ : ∃ w7, w6.setCell ⟨gs, K * 4 + 3, none⟩ (.slice (some ⟨gx, 0, none⟩) (L + 1) cx) = w7 := ⟨_, rfl⟩
              rw [hw7] at hba
              obtain ⟨ht7, hk7, hb7⟩ := hba
              have HF := Sl.mk (close_end (ps := ps') (o := ⟨tp0, tl, tc0⟩) (p := ⟨op, ol, oc⟩) hk7 (hb6.trans hb7) (hZ6.below hb7 (Nat.lt_succ_self _)) (by have h := HMAP.out; rw [List.append_assoc] at h; exact h) (Nat.le_trans hw62 hb7.size))
              have HT7 := Sl.mk ht7
              have HW7 := Sl.mk hw7
              have hLL1 : (L : Int) < (L : Int) + 1 := by omega
              clear hz0 hz1 hz2 hz3 hS5 hX5 hkid hRz ho6 hg6 hv6 hb6 hZ6 hb5 hz5 hsz5 hsz6 hbs hw62 hk7 hb7 e5 HSD HBD HZD HLV HSF HP ht7 hw7
              rw [HOX.out] at HF
              go_wp2_with fail
              refine NoPanic.normal ?_
              rw [HW7.out]
              clear hc6 hf6 HW7
              obtain ⟨p2, hp2⟩ : ∃ p2 : Opn, p2 = ⟨some ⟨gx, 0, none⟩, ol ++ [(Opn.mk tp0 tl tc0).x], cx⟩ := ⟨_, rfl⟩
              rw [← hp2] at HF
              clear hp2
              go_wp2_with (refine wpList_store_midL rfl 26 (.tmp 196) (.tmp 190) rfl gx (L * 4) #[.int .i64 2, .int .i64 0, .slice none 0 0, .slice tp0 Lt tc0] rfl rfl HT7.out (by rw [vxSize]; rfl) (all_one (x := (Opn.mk tp0 tl tc0).x) (by rw [HOX.out])) ?_)
              intro w8 hw8
              have hw8 : w7.setCells gx (L * 4) [.int .i64 2, .int .i64 0, .slice none 0 0, .slice tp0 Lt tc0] = w8 := hw8.out
              rw [hw8] at HF
              clear hw8 HT7
              go_wp2_with fail
              go_roundw
              case rel => exact ⟨M, cs', _, ps' ++ [p2], closeT s, rfl, by omega, HF.out.2.2.1, HF.out.2.1, ⟨HF.out.1, HF.out.2.2.2.1.1, by simp, by rw [topB_close HF.out.2.2.2.1.2]; exact HTB.out, fun y hy => HFT.out y (close_tail s y hy), HF.out.2.2.2.2⟩⟩
              case measure => have := HMM.out; simp [lenS]; omega

end Go.Proofs.YtbnmbncjefnpiaaDoor
