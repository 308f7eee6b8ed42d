/-
  The contract of Word.
-/
import Derived.Test.YtheffimpadccaaaDoorModePa
import Derived.Shelf.Strings.Fields
import Derived.Lib.LaidTab
namespace Go.Proofs.YtheffimpadccaaaDoor
open Go.RowKit Go.Shelf

def lays157_ren : Go.Shelf.Ren := ⟨fun | 157 => 11 | 229 => 13 | 199 => 14 | 261 => 17 | 311 => 18 | 312 => 19 | n => n, fun | 9 => 9 | 31 => 33 | 3 => 3 | 5 => 5 | 4 => 4 | 119 => 39 | 0 => 0 | 40 => 41 | 152 => 44 | 21 => 21 | 154 => 46 | 51 => 47 | 141 => 49 | 196 => 53 | 193 => 50 | 198 => 56 | 49 => 54 | 194 => 51 | 201 => 59 | 226 => 61 | 46 => 31 | 227 => 62 | n => n, fun | 0 => 0 | 6 => 1 | n => n⟩
theorem lays157 : Go.Proofs.Lays.n157 Tryd.prog lays157_ren := {
  mixed := by kernel_rfl
  f157 := Tryd.func11.trans (congrArg some (by kernel_rfl))
  f199 := Tryd.func14.trans (congrArg some (by kernel_rfl))
  f229 := Tryd.func13.trans (congrArg some (by kernel_rfl))
  f261 := Tryd.func17.trans (congrArg some (by kernel_rfl))
  f311 := Tryd.func18.trans (congrArg some (by kernel_rfl))
  f312 := Tryd.func19.trans (congrArg some (by kernel_rfl))
  t0 := Tryd.underlying0
  a0 := Tryd.isAgg0
  z0 := Tryd.sizeOf0
  v0 := Tryd.zeroValue0
  t3 := Tryd.underlying3
  a3 := Tryd.isAgg3
  z3 := Tryd.sizeOf3
  v3 := Tryd.zeroValue3
  t4 := Tryd.underlying4
  a4 := Tryd.isAgg4
  z4 := Tryd.sizeOf4
  v4 := Tryd.zeroValue4
  t5 := Tryd.underlying5
  a5 := Tryd.isAgg5
  z5 := Tryd.sizeOf5
  v5 := Tryd.zeroValue5
  t9 := Tryd.underlying9
  a9 := Tryd.isAgg9
  z9 := Tryd.sizeOf9
  v9 := Tryd.zeroValue9
  t21 := Tryd.underlying21
  a21 := Tryd.isAgg21
  z21 := Tryd.sizeOf21
  v21 := Tryd.zeroValue21
  t31 := Tryd.underlying33
  a31 := Tryd.isAgg33
  z31 := Tryd.sizeOf33
  v31 := Tryd.zeroValue33
  t40 := Tryd.underlying41
  a40 := Tryd.isAgg41
  z40 := Tryd.sizeOf41
  v40 := Tryd.zeroValue41
  t46 := Tryd.underlying31
  a46 := Tryd.isAgg31
  z46 := Tryd.sizeOf31
  v46 := Tryd.zeroValue31
  t49 := Tryd.underlying54
  a49 := Tryd.isAgg54
  z49 := Tryd.sizeOf54
  v49 := Tryd.zeroValue54
  t51 := Tryd.underlying47
  a51 := Tryd.isAgg47
  z51 := Tryd.sizeOf47
  v51 := Tryd.zeroValue47
  t119 := Tryd.underlying39
  a119 := Tryd.isAgg39
  z119 := Tryd.sizeOf39
  t141 := Tryd.underlying49
  a141 := Tryd.isAgg49
  z141 := Tryd.sizeOf49
  v141 := Tryd.zeroValue49
  t152 := Tryd.underlying44
  a152 := Tryd.isAgg44
  z152 := Tryd.sizeOf44
  v152 := Tryd.zeroValue44
  t154 := Tryd.underlying46
  a154 := Tryd.isAgg46
  z154 := Tryd.sizeOf46
  v154 := Tryd.zeroValue46
  t193 := Tryd.underlying50
  a193 := Tryd.isAgg50
  z193 := Tryd.sizeOf50
  v193 := Tryd.zeroValue50
  t194 := Tryd.underlying51
  a194 := Tryd.isAgg51
  z194 := Tryd.sizeOf51
  v194 := Tryd.zeroValue51
  t196 := Tryd.underlying53
  a196 := Tryd.isAgg53
  z196 := Tryd.sizeOf53
  v196 := Tryd.zeroValue53
  t198 := Tryd.underlying56
  a198 := Tryd.isAgg56
  z198 := Tryd.sizeOf56
  v198 := Tryd.zeroValue56
  t201 := Tryd.underlying59
  a201 := Tryd.isAgg59
  z201 := Tryd.sizeOf59
  v201 := Tryd.zeroValue59
  t226 := Tryd.underlying61
  a226 := Tryd.isAgg61
  z226 := Tryd.sizeOf61
  v226 := Tryd.zeroValue61
  t227 := Tryd.underlying62
  a227 := Tryd.isAgg62
  z227 := Tryd.sizeOf62
  v227 := Tryd.zeroValue62
  g0 := by kernel_rfl
  g6 := by kernel_rfl }

/-- The library's table of blanks is as its initialiser lays it. -/
def Spc (w : World) : Prop := ∀ c : Nat, c < 256 → w.cell? ⟨0, c, none⟩ = some (.int .u8 (if Lib.isSp (UInt8.ofNat c) then 1 else 0))
theorem Spc.be {w w' : World} (h : Spc w) (hb : Below w.heap.size w w') : Spc w' := fun c hc => (hb.cell (p := ⟨0, c, none⟩) (block_lt_of_cell (h c hc))).trans (h c hc)
theorem info_st : (Tryd.prog.info? (lays157_ren.t 9)).map (fun i => (i.zero, i.size, i.bytes)) = some (some (.string ByteArray.empty), 1, 16) := by kernel_rfl
def kindW : List (List UInt8) := [[102, 105, 108, 101], [100, 105, 114], [108, 105, 110, 107], [100, 101, 118, 105, 99, 101], [112, 105, 112, 101]]
theorem kind_fields : Lib.fields (⟨#[102, 105, 108, 101, 32, 100, 105, 114, 32, 108, 105, 110, 107, 32, 100, 101, 118, 105, 99, 101, 32, 112, 105, 112, 101]⟩ : ByteArray).data.toList = kindW := by decide +kernel
theorem fields_any (w : World) (hT : Spc w) :
    Calls Tryd.prog 11 #[.string ⟨#[102, 105, 108, 101, 32, 100, 105, 114, 32, 108, 105, 110, 107, 32, 100, 101, 118, 105, 99, 101, 32, 112, 105, 112, 101]⟩] w fun e w' =>
      e = .returned (.slice (some ⟨w.heap.size, 0, none⟩) 5 5) ∧ w' = w.alloc (.cells #[.string ⟨#[102, 105, 108, 101]⟩, .string ⟨#[100, 105, 114]⟩, .string ⟨#[108, 105, 110, 107]⟩, .string ⟨#[100, 101, 118, 105, 99, 101]⟩, .string ⟨#[112, 105, 112, 101]⟩] 9) := by
  have h := Any.strings_Fields_core lays157 info_st ⟨#[102, 105, 108, 101, 32, 100, 105, 114, 32, 108, 105, 110, 107, 32, 100, 101, 118, 105, 99, 101, 32, 112, 105, 112, 101]⟩ w (by decide) (fun j b hj => by
    have hb : ∀ b ∈ (⟨#[102, 105, 108, 101, 32, 100, 105, 114, 32, 108, 105, 110, 107, 32, 100, 101, 118, 105, 99, 101, 32, 112, 105, 112, 101]⟩ : ByteArray).data.toList, b.toNat < 128 := by decide
    exact hb b (List.mem_of_getElem? hj)) hT
  rw [kind_fields] at h
  exact h

def wordV (k : Int) : ByteArray := if k = 0 then ⟨#[102, 105, 108, 101]⟩ else if k = 1 then ⟨#[100, 105, 114]⟩ else if k = 2 then ⟨#[108, 105, 110, 107]⟩ else if k = 3 then ⟨#[100, 101, 118, 105, 99, 101]⟩ else if k = 4 then ⟨#[112, 105, 112, 101]⟩ else ⟨#[]⟩

set_option maxHeartbeats 2000000 in
theorem word_any (k : Int) (w : World) (hT : Spc w) :
    Calls Tryd.prog 7 #[.int .i64 k] w fun e w' => e = .returned (.string (wordV k)) ∧ Below w.heap.size w w' := by
  have HF := Lib.hid (fields_any w hT)
  clear hT
  by_cases h : 0 ≤ k ∧ k < 5
  · have hb : bel k 5 = true := by simp [bel]; omega
    obtain rfl | rfl | rfl | rfl | rfl : k = 0 ∨ k = 1 ∨ k = 2 ∨ k = 3 ∨ k = 4 := by omega
    all_goals
      go_enter Tryd.func7, Tryd.ntmps7
      go_wp2_with (first | (go_at_call 9; refine (below_any _ _ _).mono ?_; rintro e w' ⟨rfl, rfl⟩))
      refine HF.out.mono ?_
      rintro e w' ⟨rfl, rfl⟩
      go_wp2_with fail
      go_ret
      exact ⟨rfl, below_al (Below.refl _ _) _⟩
  · have hb : bel k 5 = false := by simp only [bel, decide_eq_false_iff_not]; exact h
    have hw : wordV k = ⟨#[]⟩ := by
      unfold wordV
      rw [if_neg (by omega), if_neg (by omega), if_neg (by omega), if_neg (by omega), if_neg (by omega)]
    have HW := Lib.hid hw
    clear hw h
    go_enter Tryd.func7, Tryd.ntmps7
    go_wp2_with (first | (go_at_call 9; refine (below_any _ _ _).mono ?_; rintro e w' ⟨rfl, rfl⟩))
    go_ret
    exact ⟨ret_str HW.out.symm, Below.refl _ _⟩

end Go.Proofs.YtheffimpadccaaaDoor
