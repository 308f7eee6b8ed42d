/-
  Contains; the functions that pick; Power; what is laid.
-/
import Derived.Test.YtpffdlnjpjoikaaBlkB
import Derived.Test.YtpffdlnjpjoikaaWordsS
namespace Go.Proofs.Ytpffdlnjpjoikaa
open Go.RowKit

def splice (B : List Int) (no : Nat) (b : List Int) : List Int := B.take (no * 64) ++ b ++ B.drop (no * 64 + 64)
theorem splice_len {B b : List Int} {no n : Nat} (hB : B.length = n * 64) (hb : b.length = 64) (h : no < n) : (splice B no b).length = n * 64 := by
  simp only [splice, List.length_append, List.length_take, List.length_drop, hb, hB]; omega
def layF (p : Nat → Bool) (B : List Int) (l : List Wt) : Nat → List Int
  | 0 => B
  | i + 1 => match l[i]? with
    | some x => if p i = true then splice (layF p B l i) x.no x.b else layF p B l i
    | none => layF p B l i
def cntF (p : Nat → Bool) : Nat → Nat
  | 0 => 0
  | i + 1 => cntF p i + if p i = true then 1 else 0
theorem cntF_le (p : Nat → Bool) : ∀ i, cntF p i ≤ i
  | 0 => Nat.le_refl _
  | i + 1 => by
    have := cntF_le p i
    unfold cntF; split <;> omega
theorem layF_yes {p : Nat → Bool} {B : List Int} {l : List Wt} {i : Nat} {x : Wt} (hx : l[i]? = some x) (hp : p i = true) : layF p B l (i + 1) = splice (layF p B l i) x.no x.b := by simp [layF, hx, hp]
theorem layF_no {p : Nat → Bool} {B : List Int} {l : List Wt} {i : Nat} (hp : p i = false) : layF p B l (i + 1) = layF p B l i := by
  simp only [layF, hp]; split <;> rfl
theorem layF_len {p : Nat → Bool} {B : List Int} {l : List Wt} {n : Nat} (hB : B.length = n * 64) (hok : ∀ x ∈ l, x.no < n) : ∀ i, (layF p B l i).length = n * 64
  | 0 => hB
  | i + 1 => by
    unfold layF
    split
    · rename_i x hx
      split
      · exact splice_len (layF_len hB hok i) x.h (hok x (List.mem_of_getElem? hx))
      · exact layF_len hB hok i
    · exact layF_len hB hok i

/-- A row of the call's own: an array is stored into its midst. -/
theorem wpList_store_own {P : Program} {ops : Array Oper} {rest : List Oper} {op : Oper} {a : Act} {w : World} {Q : Exit → Act → World → Prop} (hgd : op.guard = none) (ty : TypeId) (x y : Operand) (ho : op.op = .store ty x y)
    (base : Nat) (e : TypeId) (size g n cap o : Nat) (xs vs : List Value) (hown : w.ownsRow base e size (.slice (some ⟨g, 0, none⟩) n cap) n xs) (hx : a.eval x = .pointer (some ⟨g, o, none⟩)) (hy : a.eval y = .agg vs.toArray)
    (hl : o + vs.length ≤ xs.length) (hi : (P.info? ty).map (·.size) = some vs.length) (h1 : ∀ v ∈ vs, v.oneCell' = true)
    (h : ∀ w', w'.ownsRow base e size (.slice (some ⟨g, 0, none⟩) n cap) n (xs.take o ++ vs ++ xs.drop (o + vs.length)) → w.grownBy w' (some g) → w'.heap.size = w.heap.size → wpList P ops Q rest (a.put op.dst undef) w') : wpList P ops Q (op :: rest) a w := by
  obtain ⟨h0, h2⟩ := hown
  rcases h2 with ⟨h2, -⟩ | ⟨g', cap', cur, hv, hb, hh, hnc, hcm, hsz, hcur⟩
  · cases h2
  · injection hv with hv1 hv2 hv3
    injection hv1 with hv1
    injection hv1 with hv1
    subst hv1 hv3
    have hcl : xs.length ≤ cur.toList.length := by rw [← hcur, List.length_take]; omega
    have hB : Blk w g e cur.toList.toArray := hh
    refine wpList_store_blk hgd ty x y ho g o e cur.toList vs hB hx hy (by omega) hi h1 fun w' h3 h4 h5 => ?_
    refine h w' ⟨?_, .inr ⟨g, cap, _, rfl, hb, h3, hnc, hcm, ?_, ?_⟩⟩ h4 h5
    · simp only [List.length_append, List.length_take, List.length_drop]; omega
    · simp only [List.size_toArray, List.length_append, List.length_take, List.length_drop]
      have : cur.toList.length = cap * size := by simpa using hsz
      omega
    · rw [← hcur] at hl ⊢
      simp only [List.length_take] at hl
      rw [List.take_append, List.take_append, List.take_take, List.take_take, List.drop_take]
      have e1 : min (n * size) o = o := by omega
      have e2 : min o (n * size) = o := by omega
      have e3 : vs.take (n * size - (cur.toList.take o).length) = vs := List.take_of_length_le (by simp; omega)
      rw [e1, e2, e3]
      congr 2
      simp only [List.length_append, List.length_take]
      omega

set_option maxHeartbeats 400000 in
theorem pick_all (i : Int) (w : World) : Calls Try.prog 33 #[.int .i64 i] w fun e w' => e = .returned (.bool true) ∧ w = w' := by
  go_enter Try.func33, Try.ntmps33
  go_wp2
  go_ret
  exact ⟨rfl, rfl⟩

/-- Ints as cells. -/
def isC (l : List Int) : List Value := l.map (Value.int .i64)
theorem reads_int {w : World} {B n : Nat} {A : Option Addr} {l : List Int} (h : Reads w B 1 A n (isC l)) {i : Nat} {x : Int} (hi : l[i]? = some x) : ∃ ad, A = some ad ∧ w.cell? (ad.add i) = some (.int .i64 x) := by
  have hl : n = l.length := by have := h.1; simp [isC] at this; omega
  have hlt : i < l.length := (List.getElem?_eq_some_iff.1 hi).1
  obtain ⟨ad, e, -, hc⟩ := h.2 (by omega)
  exact ⟨ad, e, hc i _ (by simp [isC, hi])⟩
def idxI (x : Int) (l : List Int) : Nat := l.findIdx (· == x)
def hasI (l : List Int) (x : Int) : Bool := l.contains x
def idxV (x : Int) (l : List Int) : Int := if hasI l x = true then (idxI x l : Int) else -1

set_option maxHeartbeats 1000000 in
theorem index_any (A : Option Addr) (n c : Nat) (l : List Int) (x : Int) (w : World) (hn : n ≤ 1000000) (hR : Reads w w.heap.size 1 A n (isC l)) :
    Calls Try.prog 48 #[.slice A n c, .int .i64 x] w fun e w' => e = .returned (.int .i64 (idxV x l)) ∧ w = w' := by
  have hl : n = l.length := by have := hR.1; simp [isC] at this; omega
  have HL := Sl.mk hl
  clear hl
  go_enter Try.func48, Try.ntmps48
  go_wp2
  go_loop [5, 8] (fun _ s8 => ∃ i : Nat, i ≤ n ∧ s8 = .int .i64 i ∧ ∀ j, j < i → ¬ l[j]? = some x) (fun _ s8 => n - (intOf s8).toNat)
  case atStart => exact ⟨0, Nat.zero_le _, rfl, fun j hj => by omega⟩
  case round =>
    obtain ⟨i, hi, rfl, hno⟩ := hrel
    have HNO := Sl.mk hno
    clear hno
    by_cases hlt : i < n
    · obtain ⟨y, hy⟩ : ∃ y, l[i]? = some y := ⟨_, List.getElem?_eq_getElem (by rw [← HL.out]; exact hlt)⟩
      obtain ⟨ad, rfl, hc⟩ := reads_int hR hy
      have HY := Sl.mk hy
      clear hy
      by_cases hxy : x = y
      · subst hxy
        have hb : (x == x) = true := by simp
        go_wp2
        go_ret
        refine ⟨?_, rfl⟩
        have hlt' : i < l.length := (List.getElem?_eq_some_iff.1 HY.out).1
        have hme := List.mem_of_getElem? HY.out
        have e : idxI x l = i := by
          unfold idxI
          rw [List.findIdx_eq hlt']
          refine ⟨by have := (List.getElem?_eq_some_iff.1 HY.out).2; simp [this], fun j hj => ?_⟩
          have := HNO.out j hj
          rw [List.getElem?_eq_getElem (by omega)] at this
          simp at this ⊢
          exact this
        exact ret_int (by unfold idxV hasI; rw [e, if_pos (by simpa using hme)])
      · have hb : (x == y) = false := by simp [hxy]
        go_wp2
        go_round
        case rel => exact ⟨i + 1, by omega, by go_num, fun j hj => by
            rcases Nat.lt_or_ge j i with h | h
            · exact HNO.out j h
            · have : j = i := by omega
              subst this
              rw [HY.out]; intro e; injection e with e; exact hxy e.symm⟩
        case measure => simp [intOf]; omega
    · go_wp2
      go_ret
      refine ⟨?_, rfl⟩
      have : ¬ x ∈ l := fun hm => by
        obtain ⟨j, hj⟩ := List.getElem?_of_mem hm
        have hjl := (List.getElem?_eq_some_iff.1 hj).1
        exact HNO.out j (by rw [← HL.out] at hjl; omega) hj
      exact ret_int (by unfold idxV hasI; rw [if_neg (by simpa using this)])

set_option maxHeartbeats 400000 in
theorem contains_any (A : Option Addr) (n c : Nat) (l : List Int) (x : Int) (w : World) (hn : n ≤ 1000000) (hR : Reads w w.heap.size 1 A n (isC l)) :
    Calls Try.prog 39 #[.slice A n c, .int .i64 x] w fun e w' => e = .returned (.bool (hasI l x)) ∧ w = w' := by
  cases hc : hasI l x
  · have hv : idxV x l = -1 := by unfold idxV; rw [if_neg (by simp [hc])]
    have HV := Sl.mk hv
    clear hv hc
    go_enter Try.func39, Try.ntmps39
    go_wp2_with fail
    refine (index_any A n c l x _ hn hR).mono ?_
    rintro e w' ⟨rfl, rfl⟩
    rw [HV.out]
    go_wp2
    go_ret
    exact ⟨rfl, rfl⟩
  · have hv : idxV x l = (idxI x l : Int) := by unfold idxV; rw [if_pos hc]
    have HV := Sl.mk hv
    clear hv hc
    have h0 : (0 : Int) ≤ (idxI x l : Int) := by omega
    go_enter Try.func39, Try.ntmps39
    go_wp2_with fail
    refine (index_any A n c l x _ hn hR).mono ?_
    rintro e w' ⟨rfl, rfl⟩
    rw [HV.out]
    go_wp2
    go_ret
    exact ⟨rfl, rfl⟩

set_option maxHeartbeats 400000 in
theorem pick_kept (gk : Nat) (A : Option Addr) (n c : Nat) (l : List Int) (i : Int) (w : World) (hn : n ≤ 1000000) (hk : w.cell? ⟨gk, 0, none⟩ = some (.slice A n c)) (hR : Reads w w.heap.size 1 A n (isC l)) :
    Calls Try.prog 38 #[.int .i64 i, .pointer (some ⟨gk, 0, none⟩)] w fun e w' => e = .returned (.bool (hasI l i)) ∧ w = w' := by
  go_enter Try.func38, Try.ntmps38
  go_wp2_with (go_at_call 39; refine (contains_any A n c l i _ hn hR).mono ?_; rintro e w' ⟨rfl, rfl⟩)
  go_ret
  exact ⟨rfl, rfl⟩

end Go.Proofs.Ytpffdlnjpjoikaa
