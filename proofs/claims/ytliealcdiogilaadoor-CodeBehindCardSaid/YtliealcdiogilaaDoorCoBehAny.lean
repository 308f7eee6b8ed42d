/-
  CodeBehind at any input.
-/
import Derived.Test.YtliealcdiogilaaDoorCoX
import Derived.ProofKit
import Derived.OpenShut
namespace Go.Proofs.YtliealcdiogilaaDoor
open Go.ChangeShapes Go.WideShapes Go.ChangeAt Go.RowKit Go.ChangeMaps
attribute [local go_sem ↓] Go.wp_at_zero Go.wp_at_succ

theorem bs_of (s : ByteArray) : bsS s.data.toList = s := by
  cases s
  rfl
theorem bs_len (s : ByteArray) : s.data.toList.length = s.size := Array.length_toList
set_option maxHeartbeats 4000000 in
theorem lawBehind (l : List UInt8) (op : Int) (w : World) (hs : l.length ≤ 9223372036854775807) (hP : Spw w w.heap.size) :
    Calls Tryd.prog 3 #[.string (bsS l), .int .i64 op] w (RPost w true) := by
  have hz := bs_size l
  obtain ⟨k, hk⟩ : ∃ k : Nat, min (l.length : Int) 30 = k := ⟨(min (l.length : Int) 30).toNat, by omega⟩
  have hk2 : k ≤ l.length := by omega
  obtain ⟨q, hq⟩ : ∃ q, l.take k = q := ⟨_, rfl⟩
  have hk3 : (bsS l).extract 0 k = bsS q := by rw [bs_cut, List.drop_zero, Nat.sub_zero, hq]
  have hql : q.length ≤ 30 := by rw [← hq, List.length_take]; omega
  have HB := Sl.mk (behind_any q op w (by omega) hP)
  have HR := Sl.mk (fun W => rbeh_any q op W (by omega))
  unfold BehPost at HB
  obtain ⟨t, e, hte⟩ : ∃ t e, behF q op = (t, e) := ⟨_, _, rfl⟩
  rw [hte] at HB HR
  have HK := Sl.mk (fun (W : World) (hb : Below w.heap.size w W) => known_any W ((hP.be hb).mono hb.size))
  unfold RPost at HK
  clear hte hq hP
  go_enter Tryd.func3, Tryd.ntmps3
  go_wp2_with (first
    | (go_at_call 7; refine HB.out.mono ?_; rintro e w1 ⟨rfl, hb1⟩; have HB1 := Sl.mk hb1; clear hb1)
    | (go_at_call 8; refine (HR.out _).mono ?_; rintro e w2 ⟨rfl, kq, hw2⟩; have HB2 := Sl.mk (show Below w.heap.size w w2 by rw [hw2]; exact below_drN HB1.out kq); clear hw2)
    | (go_at_call 9; refine (HK.out _ HB2.out).mono ?_; rintro e w3 ⟨rfl, hb3⟩; have HB3 := Sl.mk (below_tr HB2.out hb3); clear hb3))
  go_ret
  exact ⟨ret_bool (by simp), HB3.out⟩
set_option maxRecDepth 100000 in
theorem codebehind_any {H : Type} {enc : TypeId × Value → H} (W : World) (base : Nat) {v0 v1 : Value} {d0 d1 : DataW H} {p0 p1 : List MemPlace}
    (h0 : DataW.Trod enc Tryd.prog W 0 (fun _ => true) true 9 v0 d0 p0) (h1 : DataW.Trod enc Tryd.prog W 0 (fun _ => true) true 3 v1 d1 p1)
    (o0 : Value.okWide Tryd.prog W .any base 9 v0) (o1 : Value.okWide Tryd.prog W .any base 3 v1) (hT : Spw W W.heap.size) :
    Calls Tryd.prog 3 #[v0, v1] W fun e w' => e = .returned (.bool true) ∧ Below W.heap.size W w' := by
  obtain ⟨s, rfl, -, -, ws⟩ := open_string Tryd.underlying9 o0 h0
  obtain ⟨k, rfl, -⟩ := open_int Tryd.underlying3 o1 h1
  unfold maxLen at ws
  have h := lawBehind s.data.toList k W (Nat.le_trans (Nat.le_of_eq (bs_len s)) ws) hT
  rw [bs_of] at h
  exact h
end Go.Proofs.YtliealcdiogilaaDoor
