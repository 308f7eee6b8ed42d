/-
  The walk of the law DigestHex.
-/
import Derived.Test.YtaffjcenojikjaaDoorDigNil
import Derived.Test.YtaffjcenojikjaaDoorDigRefW
import Derived.Lib.QuietBelow
namespace Go.Proofs.YtaffjcenojikjaaDoor
open Go.RowKit Go.Sort
attribute [local go_sem ↓] Go.wp_at_zero Go.wp_at_succ

theorem unhex_form (s : ByteArray) : ∃ (U : List Nat) (c : Int), unhexV s = .tuple #[.agg (u8s U).toArray, .int .i64 c] ∧ U.length = 32 := by
  unfold unhexV
  split
  · exact ⟨_, _, rfl, by simp [unD]⟩
  · exact ⟨List.replicate 32 0, _, by rw [z8_u8], by simp⟩

theorem wpQuiet_load {P : Program} {ops : Array Oper} {C : World → Prop} {Q : Act → Prop} {a : Act} {o : Oper} {rest : List Oper} (hgd : Region.wanted o (yielded ops a.tmps) = true) (ty : TypeId) (x : Operand) (ho : o.op = .load ty x)
    (g : Nat) (cs : Array Value) (hx : a.eval x = .pointer (some ⟨g, 0, none⟩)) (hL : ∀ w, C w → (loadVar ty ⟨g, 0, none⟩).run P w = .ok (.agg cs) w) (h : wpQuiet P ops C Q rest (a.put o.dst (.agg cs))) : wpQuiet P ops C Q (o :: rest) a := by
  unfold wpQuiet
  rw [if_pos hgd]
  refine ⟨.agg cs, fun w hw => ?_, h⟩
  unfold Oper.quietAt execOp
  simp only [ho, hx, Instr.loadAt, Instr.sureAddr, Sem.run_bind, Sem.run_pure, Result.andThen_ok, hL w hw]
  exact ⟨rfl, rfl⟩

theorem load_regrown {w : World} {g : Nat} {D : List Nat} (h : Blk w g 37 (u8s D).toArray) (hD : D.length = 32) (d : Nat) (os : Array Obj) :
    (loadVar 37 ⟨g, 0, none⟩).run Tryd.prog (grow (redrawn w d) os) = .ok (.agg (u8s D).toArray) (grow (redrawn w d) os) :=
  run_loadVar_row _ g 37 37 (u8s D).toArray (0, 0) _ (h.below (below_regrown w d os) h.lt) Tryd.underlying37 rfl (by rw [info32]; simp [u8s_len, hD])

set_option maxRecDepth 100000 in
set_option maxHeartbeats 4000000 in
theorem hex_walk (D : List Nat) (s0 : ByteArray) (w : World) (hD : D.length = 32) (hb : ∀ x ∈ D, x < 256) (hs0 : s0.size ≤ 9223372036854775807) (hT : Tabs w) :
    Calls Tryd.prog 7 #[.agg (u8s D).toArray, .string s0] w fun e w' => e = .returned (.bool true) ∧ Below w.heap.size w w' := by
  have hz := zero37
  have HD := Sl.mk hD
  have HB := Sl.mk hb
  have hone : ∀ v ∈ u8s D, v.oneCell' = true := u8s_one D
  clear hD hb
  go_enter Tryd.func7, Tryd.ntmps7
  go_upto_region 1 with fail
  go_cut [1] (fun v1 wx => (∃ s : ByteArray, s.size ≤ 100 ∧ v1 = .string s) ∧ Blk wx w.heap.size 37 (u8s D).toArray ∧ Below w.heap.size w wx)
  case first =>
    by_cases h : s0.size ≤ 100
    · go_wp2
      go_meet
      exact ⟨⟨_, by first | omega | (simp; omega), rfl⟩, Blk.new _ _ _, below_al (Below.refl _ _) _⟩
    · have h' : ¬ (s0.size : Int) ≤ 100 := by omega
      go_wp2
      go_meet
      exact ⟨⟨_, by first | omega | (simp; omega), rfl⟩, Blk.new _ _ _, below_al (Below.refl _ _) _⟩
  case rest =>
    rename_i wx
    obtain ⟨⟨s, hs, rfl⟩, hX, hBl⟩ := hcut
    clear hs0 hone
    obtain ⟨U, c, hU, hUl⟩ := unhex_form s
    have HU := Sl.mk hU
    have HUL := Sl.mk hUl
    have hlx := hX.lt
    clear hU hUl
    go_wp2_with fail
    refine (unhex_any s _).mono ?_
    rintro e w1 ⟨rfl, hB1⟩
    rw [HU.out]
    have hX1 := hX.be hB1
    have hE1 := below_tr hBl hB1
    clear hX hBl
    go_wp2_with ((refine wpList_store_fresh rfl 37 (.tmp 5) (.tmp 19) rfl 37 (z8 32) (u8s U) _ rfl rfl rfl (by rw [u8s_len, HUL.out]; simp [z8]) (by rw [info32, u8s_len, HUL.out]) (u8s_one _) ?_))
    intro w2 hS2 hB2 hs2
    have hX2 := hX1.be hB2
    have hE2 := below_tr hE1 hB2
    clear hX1 hE1 hs2
    go_wp2_with fail
    refine (runhex_any s _ hs).mono ?_
    rintro e w3 ⟨rfl, hB3⟩
    rw [HU.out]
    have hX3 := hX2.be hB3
    have hS3 := hS2.be hB3
    have hE3 := below_tr hE2 hB3
    clear hX2 hS2 hE2
    go_wp2_with ((refine wpList_store_fresh rfl 37 (.tmp 7) (.tmp 24) rfl 37 (z8 32) (u8s U) _ rfl rfl rfl (by rw [u8s_len, HUL.out]; simp [z8]) (by rw [info32, u8s_len, HUL.out]) (u8s_one _) ?_))
    intro w4 hR4 hB4 hs4
    have hX4 := hX3.be hB4
    have hS4 := hS3.be hB4
    have hE4 := below_tr hE3 hB4
    clear hX3 hS3 hE3 hs4
    go_wp2_with (refine wpList_load_row rfl 37 (.tmp 2) rfl w.heap.size rfl 37 (u8s D).toArray (0, 0) _ hX4 Tryd.underlying37 rfl (by rw [info32]; simp [u8s_len, HD.out]) ?_)
    refine (hex_any D _ HD.out HB.out).mono ?_
    rintro e w5 ⟨rfl, hB5⟩
    have hX5 := hX4.be hB5
    have hS5 := hS4.be hB5
    have hR5 := hR4.be hB5
    have hE5 := below_tr hE4 hB5
    clear hX4 hS4 hE4 hR4
    go_wp2_with fail
    refine (unhex_any (hexS D) _).mono ?_
    rintro e w6 ⟨rfl, hB6⟩
    rw [un_hex HD.out HB.out]
    have hX6 := hX5.be hB6
    have hS6 := hS5.be hB6
    have hR6 := hR5.be hB6
    have hE6 := below_tr hE5 hB6
    clear hX5 hS5 hE5 hR5
    go_wp2_with ((refine wpList_store_fresh rfl 37 (.tmp 9) (.tmp 30) rfl 37 (z8 32) (u8s D) _ rfl rfl rfl (by rw [u8s_len, HD.out]; simp [z8]) (by rw [info32, u8s_len, HD.out]) (u8s_one _) ?_))
    intro w7 hQ7 hB7 hs7
    have hX7 := hX6.be hB7
    have hS7 := hS6.be hB7
    have hR7 := hR6.be hB7
    have hE7 := below_tr hE6 hB7
    have hT7 := hT.below hE7 hT.1
    clear hX6 hS6 hE6 hR6 hs7
    have k1 := load_regrown hX7 HD.out
    have k2 := load_regrown hS7 HUL.out
    have k3 := load_regrown hR7 HUL.out
    have k4 := load_regrown hQ7 HD.out
    have heq : ∀ (E : List Nat), E.length = 32 → ∀ w', (binOp .eql 37 (.agg (u8s E).toArray) (.agg (u8s E).toArray)).run Tryd.prog w' = .ok (.bool true) w' := fun E hE w' => by
      rw [eql_dig _ _ hE hE]; simp
    have hq1 := heq U HUL.out
    have hq2 := heq D HD.out
    have c1 : ∀ d os, Calls Tryd.prog 14 #[] (grow (redrawn w7 d) os) fun e w'' => e = .returned (.bool true) ∧ ∃ p : Regrown, w'' = grow (redrawn w7 p.d) p.os := fun d os => Calls.regrown_of (known_any _ (hT7.below (below_regrown w7 d os) hT7.1))
    have c2 : ∀ d os, Calls Tryd.prog 22 #[.agg (u8s D).toArray] (grow (redrawn w7 d) os) fun e w'' => e = .returned (.string (hexS D)) ∧ ∃ p : Regrown, w'' = grow (redrawn w7 p.d) p.os := fun d os => Calls.regrown_of (hex_any D _ HD.out HB.out)
    have c3 : ∀ d os, Calls Tryd.prog 23 #[.agg (u8s D).toArray] (grow (redrawn w7 d) os) fun e w'' => e = .returned (.string (hexS D)) ∧ ∃ p : Regrown, w'' = grow (redrawn w7 p.d) p.os := fun d os => Calls.regrown_of (rhex_any D _ HD.out HB.out)
    clear heq
    go_wp2_with fail
    refine wp_region_quiet_below (by kernel_rfl) (by kernel_rfl) ?_
    repeat (quiet_step (first | exact c1 _ _ | exact c2 _ _ | exact c3 _ _))
    refine wpQuiet_load (by rfl) 37 (.tmp 5) rfl w1.heap.size (u8s U).toArray rfl (fun _ ⟨⟨d, os⟩, hw⟩ => by subst hw; exact k2 d os) ?_
    refine wpQuiet_load (by rfl) 37 (.tmp 7) rfl w3.heap.size (u8s U).toArray rfl (fun _ ⟨⟨d, os⟩, hw⟩ => by subst hw; exact k3 d os) ?_
    repeat (quiet_step (first | exact c1 _ _ | exact c2 _ _ | exact c3 _ _))
    refine wpQuiet_load (by rfl) 37 (.tmp 2) rfl w.heap.size (u8s D).toArray rfl (fun _ ⟨⟨d, os⟩, hw⟩ => by subst hw; exact k1 d os) ?_
    repeat (quiet_step (first | exact c1 _ _ | exact c2 _ _ | exact c3 _ _))
    refine wpQuiet_load (by rfl) 37 (.tmp 2) rfl w.heap.size (u8s D).toArray rfl (fun _ ⟨⟨d, os⟩, hw⟩ => by subst hw; exact k1 d os) ?_
    repeat (quiet_step (first | exact c1 _ _ | exact c2 _ _ | exact c3 _ _))
    refine wpQuiet_load (by rfl) 37 (.tmp 9) rfl w6.heap.size (u8s D).toArray rfl (fun _ ⟨⟨d, os⟩, hw⟩ => by subst hw; exact k4 d os) ?_
    refine wpQuiet_load (by rfl) 37 (.tmp 2) rfl w.heap.size (u8s D).toArray rfl (fun _ ⟨⟨d, os⟩, hw⟩ => by subst hw; exact k1 d os) ?_
    repeat (quiet_step (first | exact c1 _ _ | exact c2 _ _ | exact c3 _ _))
    refine wpQuiet_nil ?_
    intro _ hw'
    obtain ⟨⟨dq, osq⟩, hw''⟩ := hw'
    subst hw''
    go_wp2_with fail
    go_ret
    exact ⟨rfl, below_tr hE7 (below_regrown w7 dq osq)⟩

end Go.Proofs.YtaffjcenojikjaaDoor
