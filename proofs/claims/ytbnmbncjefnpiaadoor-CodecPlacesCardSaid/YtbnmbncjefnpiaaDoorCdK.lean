/-
  The contracts of codec's reader: more, is, wrong, take.
-/
import Derived.Test.YtbnmbncjefnpiaaDoorCdI
import Derived.Test.YtbnmbncjefnpiaaDoorCdLays
namespace Go.Proofs.YtbnmbncjefnpiaaDoor
open Go.RowKit
attribute [local go_sem ↓] Go.wp_at_zero Go.wp_at_succ

/-- A reader that stands at i. -/
structure Rst (w : World) (R : Nat) (A : Option Addr) (n c : Nat) (b : List Nat) (i : Nat) (e : Int) : Prop where
  blk : Blk w R 64 #[.slice A n c, .int .i64 i, .int .i64 e]
  row : Reads w R 1 A n (u8s b)
  len : b.length = n
  le : i ≤ n
  cap : n ≤ c
  nm : n ≤ 1000000
  by_ : ∀ x ∈ b, x < 256
theorem Rst.be {w w' : World} {R : Nat} {A : Option Addr} {n c : Nat} {b : List Nat} {i : Nat} {e : Int} (h : Rst w R A n c b i e) (hb : Below w.heap.size w w') : Rst w' R A n c b i e :=
  ⟨h.blk.be hb, h.row.below (hb.mono (Nat.le_of_lt h.blk.lt)), h.len, h.le, h.cap, h.nm, h.by_⟩

theorem more_any (R : Nat) (A : Option Addr) (n c : Nat) (b : List Nat) (i : Nat) (e : Int) (w : World) (h : Rst w R A n c b i e) :
    Calls Tryd.prog 33 #[.pointer (some ⟨R, 0, none⟩)] w fun en w' => en = .returned (.bool (decide (i < n))) ∧ ∃ k, w' = w.drewN k := by
  have c0 := h.blk.cell 0
  have c1 := h.blk.cell 1
  have hn := h.nm
  have hi := h.le
  clear h
  go_enter Tryd.func33, Tryd.ntmps33
  go_wp2_with fail
  go_quiet (fail)
  go_wp2_with fail
  go_ret
  exact ⟨by first | rfl | simp, _, rfl⟩

theorem Rst.dr {w : World} {R : Nat} {A : Option Addr} {n c : Nat} {b : List Nat} {i : Nat} {e : Int} (h : Rst w R A n c b i e) (k : Nat) : Rst (w.drewN k) R A n c b i e := ⟨h.blk, h.row, h.len, h.le, h.cap, h.nm, h.by_⟩
theorem getD_of {b : List Nat} {i : Nat} (h : i < b.length) : b[i]? = some (b.getD i 0) := by simp [h]

theorem nat_beq (x y : Nat) : ((x : Int) == (y : Int)) = decide (x = y) := by
  by_cases h : x = y
  · subst h; simp
  · rw [decide_eq_false h]; exact beq_eq_false_iff_ne.2 (by omega)
theorem quiet_dr {P : Program} {f : FuncId} {args : Array Value} {w : World} {n : Nat} {v : Value}
    (h : Calls P f args (w.drewN n) fun e w' => e = .returned v ∧ ∃ m, w' = (w.drewN n).drewN m) : Calls P f args (w.drewN n) fun e w'' => e = .returned v ∧ ∃ m, w'' = w.drewN m :=
  h.mono fun _ _ ⟨he, m, hm⟩ => ⟨he, n + m, by rw [hm, World.drewN_drewN]⟩

set_option maxHeartbeats 1000000 in
theorem is_any (ch : Nat) (R : Nat) (A : Option Addr) (n c : Nat) (b : List Nat) (i : Nat) (e : Int) (w : World) (h : Rst w R A n c b i e) :
    Calls Tryd.prog 35 #[.pointer (some ⟨R, 0, none⟩), .int .u8 ch] w fun en w' => en = .returned (.bool (decide (i < n) && decide (b.getD i 0 = ch))) ∧ ∃ k, w' = w.drewN k := by
  have c0 := h.blk.cell 0
  have c1 := h.blk.cell 1
  have hn := h.nm
  have hi := h.le
  have hc := h.cap
  have HR := Sl.mk h
  by_cases hin : i < n
  · obtain ⟨ad, u, rfl, hadb, hu, hcu⟩ := h.row.at_ hin
    obtain rfl : u = .int .u8 ((b.getD i 0 : Nat) : Int) := by
      unfold u8s at hu
      rw [List.getElem?_map, getD_of (by rw [h.len]; exact hin)] at hu
      simpa using hu.symm
    obtain ⟨x, hx⟩ : ∃ x, b.getD i 0 = x := ⟨_, rfl⟩
    rw [hx] at hcu ⊢
    clear hx hu h
    have hd : decide (i < n) = true := decide_eq_true hin
    have HM := Sl.mk (more_any R _ n c b i e w HR.out)
    have HM2 := Sl.mk (fun k => more_any R _ n c b i e _ (HR.out.dr k))
    rw [hd] at HM
    simp only [hd] at HM2
    go_enter Tryd.func35, Tryd.ntmps35
    go_wp2_with fail
    go_quiet ((go_at_call 33; first | exact HM.out | exact quiet_dr (HM2.out _) | exact quiet_add (HM2.out _)))
    go_wp2_with fail
    go_ret
    exact ⟨by rw [hd, Bool.true_and]; exact ret_bool (nat_beq x ch), _, rfl⟩
  · have hd : decide (i < n) = false := decide_eq_false hin
    have HM := Sl.mk (more_any R _ n c b i e w HR.out)
    have HM2 := Sl.mk (fun k => more_any R _ n c b i e _ (HR.out.dr k))
    rw [hd] at HM
    simp only [hd] at HM2
    clear h c0 c1
    go_enter Tryd.func35, Tryd.ntmps35
    go_wp2_with fail
    go_quiet ((go_at_call 33; first | exact HM.out | exact quiet_dr (HM2.out _) | exact quiet_add (HM2.out _)))
    go_wp2_with fail
    go_ret
    exact ⟨by rw [hd, Bool.false_and]; rfl, _, rfl⟩

/-- Where only the reader's own block turns. -/
theorem Rst.to_ {w w' : World} {R : Nat} {A : Option Addr} {n c : Nat} {b : List Nat} {i : Nat} {e : Int} (h : Rst w R A n c b i e) (hg : w.grownBy w' (some R)) (i' : Nat) (e' : Int) (hi : i' ≤ n)
    (hB : Blk w' R 64 #[.slice A n c, .int .i64 i', .int .i64 e']) : Rst w' R A n c b i' e' :=
  ⟨hB, h.row.keep fun p hp => World.cell?_of_block (hg.block p.block (Nat.lt_trans hp h.blk.lt) (fun e => by injection e; omega)), h.len, hi, h.cap, h.nm, h.by_⟩

set_option maxHeartbeats 1000000 in
theorem wrong_any (E : Int) (R : Nat) (A : Option Addr) (n c : Nat) (b : List Nat) (i : Nat) (e : Int) (w : World) (h : Rst w R A n c b i e) :
    Calls Tryd.prog 34 #[.pointer (some ⟨R, 0, none⟩), .int .i64 E] w fun en w' => en = .returned (.tuple #[]) ∧ Rst w' R A n c b i (if e = 0 then E else e) ∧ w.grownBy w' (some R) := by
  have c2 := h.blk.cell 2
  have f2 := h.blk.frozen 2
  have HR := Sl.mk h
  by_cases he : e = 0
  · subst he
    have hB := blk_set _ _ _ _ 2 (.int .i64 E) #[.slice A n c, .int .i64 i, .int .i64 E] h.blk rfl
    have HB := Sl.mk hB
    clear h hB
    go_enter Tryd.func34, Tryd.ntmps34
    go_wp2_with fail
    go_end0
    have hg := only_setCell (only_refl w (some R)) 2 (.int .i64 E)
    exact ⟨rfl, by first | exact HR.out.to_ hg i E HR.out.le HB.out | (rw [if_pos rfl]; exact HR.out.to_ hg i E HR.out.le HB.out), hg⟩
  · have hne : (e == 0) = false := by simpa using he
    clear h
    go_enter Tryd.func34, Tryd.ntmps34
    go_wp2_with fail
    go_end0
    exact ⟨rfl, by first | exact HR.out | (rw [if_neg he]; exact HR.out), only_refl _ _⟩

set_option maxHeartbeats 1000000 in
theorem take_any (ch : Nat) (R : Nat) (A : Option Addr) (n c : Nat) (b : List Nat) (i : Nat) (w : World) (h : Rst w R A n c b i 0) (hin : i < n) (hch : b.getD i 0 = ch) :
    Calls Tryd.prog 37 #[.pointer (some ⟨R, 0, none⟩), .int .u8 ch] w fun en w' => en = .returned (.tuple #[]) ∧ Rst w' R A n c b (i + 1) 0 ∧ w.grownBy w' (some R) := by
  have c2 := h.blk.cell 2
  have HR := Sl.mk h
  have HM := Sl.mk (more_any R A n c b i 0 w h)
  have HI := Sl.mk (fun W hW => is_any ch R A n c b i 0 W hW)
  rw [decide_eq_true hin] at HM
  simp only [decide_eq_true hin, decide_eq_true hch, Bool.true_and] at HI
  have hn := h.nm
  clear h
  go_enter Tryd.func37, Tryd.ntmps37
  go_wp2_with fail
  refine HM.out.mono ?_
  rintro en w1 ⟨rfl, k1, hw1⟩
  have h1 : Rst w1 R A n c b i 0 := by rw [hw1]; exact HR.out.dr k1
  have g1 : w.grownBy w1 (some R) := by rw [hw1]; exact only_drewN (only_refl w (some R)) k1
  clear hw1
  go_wp2_with fail
  refine (HI.out w1 h1).mono ?_
  rintro en w2 ⟨rfl, k2, hw2⟩
  have h2 : Rst w2 R A n c b i 0 := by rw [hw2]; exact h1.dr k2
  have g2 : w.grownBy w2 (some R) := by rw [hw2]; exact only_drewN g1 k2
  clear hw2 g1 h1
  have hB := blk_set _ _ _ _ 1 (.int .i64 ((i : Int) + 1)) #[.slice A n c, .int .i64 ((i : Int) + 1), .int .i64 0] h2.blk rfl
  have c1 := h2.blk.cell 1
  have f1 := h2.blk.frozen 1
  have HB := Sl.mk hB
  have hg := only_setCell g2 1 (.int .i64 ((i : Int) + 1))
  have HG := Sl.mk hg
  clear hB h2 hg HM HI g2
  go_wp2_with fail
  go_end0
  exact ⟨rfl, HR.out.to_ HG.out (i + 1) 0 hin (by have := HB.out; rwa [show ((i : Int) + 1) = ((i + 1 : Nat) : Int) by omega] at this ⊢), HG.out⟩

end Go.Proofs.YtbnmbncjefnpiaaDoor
