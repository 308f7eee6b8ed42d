/-
  Library contracts, laid at this program (by the kit's own tool).
  The contract of path.Text; where a link leads, as a function; the contract of path.step.
  The contract of path.step: a path under construction.
-/
import Derived.Shelf.Strings.Builder1
import Derived.Shelf.Strings.Builder2
import Derived.Shelf.Strings.OnBuilder
import Derived.Shelf.Small.Wraps
import Derived.Shelf.Strings.Count
import Derived.Shelf.LaysM
import Derived.Shelf.Strings.Shaped
import Derived.Shelf.Strings.Prefix
import Derived.Shelf.Strings.Split
import Derived.Test.YticcphppnmoogaaGreatDoorProg
import Derived.Test.YticcphppnmoogaaGreatDoorRows
import Derived.Test.YticcphppnmoogaaGreatDoorBy2
import Derived.ArgAppend

namespace Go.Proofs.YticcphppnmoogaaGreatDoor
open Go.Shelf

def lays156_ren : Go.Shelf.Ren := ⟨fun | 156 => 59 | 165 => 76 | 166 => 77 | 169 => 78 | 240 => 92 | 241 => 93 | 276 => 105 | 277 => 106 | n => n, fun | 31 => 38 | 9 => 9 | 3 => 3 | 4 => 4 | 0 => 0 | 20 => 20 | 72 => 129 | 76 => 133 | 70 => 127 | 37 => 22 | 75 => 132 | 127 => 148 | 164 => 160 | 5 => 5 | 80 => 135 | n => n, fun | n => n⟩
theorem lays156 : Go.Proofs.Lays.n156 Tryz.prog lays156_ren := {
  mixed := by kernel_rfl
  f156 := Tryz.func59.trans (congrArg some (by kernel_rfl))
  f165 := Tryz.func76.trans (congrArg some (by kernel_rfl))
  f166 := Tryz.func77.trans (congrArg some (by kernel_rfl))
  f169 := Tryz.func78.trans (congrArg some (by kernel_rfl))
  f240 := Tryz.func92.trans (congrArg some (by kernel_rfl))
  f241 := Tryz.func93.trans (congrArg some (by kernel_rfl))
  f276 := Tryz.func105.trans (congrArg some (by kernel_rfl))
  f277 := Tryz.func106.trans (congrArg some (by kernel_rfl))
  t0 := Tryz.underlying0
  a0 := Tryz.isAgg0
  z0 := Tryz.sizeOf0
  v0 := Tryz.zeroValue0
  t3 := Tryz.underlying3
  a3 := Tryz.isAgg3
  z3 := Tryz.sizeOf3
  v3 := Tryz.zeroValue3
  t4 := Tryz.underlying4
  a4 := Tryz.isAgg4
  z4 := Tryz.sizeOf4
  v4 := Tryz.zeroValue4
  t9 := Tryz.underlying9
  a9 := Tryz.isAgg9
  z9 := Tryz.sizeOf9
  v9 := Tryz.zeroValue9
  t20 := Tryz.underlying20
  a20 := Tryz.isAgg20
  z20 := Tryz.sizeOf20
  v20 := Tryz.zeroValue20
  t31 := Tryz.underlying38
  a31 := Tryz.isAgg38
  z31 := Tryz.sizeOf38
  v31 := Tryz.zeroValue38
  t37 := Tryz.underlying22
  a37 := Tryz.isAgg22
  z37 := Tryz.sizeOf22
  v37 := Tryz.zeroValue22
  t70 := Tryz.underlying127
  a70 := Tryz.isAgg127
  z70 := Tryz.sizeOf127
  v70 := Tryz.zeroValue127
  t72 := Tryz.underlying129
  a72 := Tryz.isAgg129
  z72 := Tryz.sizeOf129
  v72 := Tryz.zeroValue129
  t75 := Tryz.underlying132
  a75 := Tryz.isAgg132
  z75 := Tryz.sizeOf132
  v75 := Tryz.zeroValue132
  t76 := Tryz.underlying133
  a76 := Tryz.isAgg133
  z76 := Tryz.sizeOf133
  v76 := Tryz.zeroValue133
  t127 := Tryz.underlying148
  a127 := Tryz.isAgg148
  z127 := Tryz.sizeOf148
  v127 := Tryz.zeroValue148
  t164 := Tryz.underlying160
  a164 := Tryz.isAgg160
  z164 := Tryz.sizeOf160
  v164 := Tryz.zeroValue160 }
theorem Builder_Extra_156 : Builder.Extra Tryz.prog lays156_ren := {
  sizeBuilder := by kernel_rfl
  liesBuilder := by kernel_rfl
  t5 := Tryz.underlying5
  a5 := Tryz.isAgg5
  z5 := Tryz.sizeOf5
  v5 := Tryz.zeroValue5
  infoByte := by kernel_rfl
  cellsByte := by kernel_rfl
  sizeByte := by kernel_rfl
  neB5 := by decide }
open Go.RowKit in
theorem strings_Join_none (a : Option Addr) (c : Nat) (sep : ByteArray) (w : World) :
    Calls Tryz.prog 59 #[.slice a 0 c, .string sep] w fun e w' => e = .returned (.string ⟨#[]⟩) ∧ w' = w := Any.strings_Join_none lays156 Builder_Extra_156 a c sep w
open Go.RowKit in
theorem strings_Join (bk o c : Nat) (xs : List ByteArray) (sep : ByteArray) (w : World) (hcells : ∀ (j : Nat) x, xs[j]? = some x → w.cell? ⟨bk, o + j, none⟩ = some (.string x)) (hbk : bk < w.heap.size) (hN : xs.length ≤ 140737488355328) (hcap : xs.length ≤ c) (hlen : (Lib.join (xs.map (·.data.toList)) sep.data.toList).length ≤ 140737488355328) :
    Calls Tryz.prog 59 #[.slice (some ⟨bk, o, none⟩) xs.length c, .string sep] w fun e w' => e = .returned (.string ⟨(Lib.join (xs.map (·.data.toList)) sep.data.toList).toArray⟩) ∧ Below w.heap.size w w' := Any.strings_Join lays156 Builder_Extra_156 bk o c xs sep w hcells hbk hN hcap hlen
def lays103_ren : Go.Shelf.Ren := ⟨fun | 103 => 51 | 210 => 68 | 206 => 83 | n => n, fun | 9 => 9 | 4 => 4 | 24 => 103 | 3 => 3 | n => n, fun | n => n⟩
theorem lays103 : Go.Proofs.Lays.n103 Tryz.prog lays103_ren := {
  mixed := by kernel_rfl
  f103 := Tryz.func51.trans (congrArg some (by kernel_rfl))
  f206 := Tryz.func83.trans (congrArg some (by kernel_rfl))
  f210 := Tryz.func68.trans (congrArg some (by kernel_rfl))
  t3 := Tryz.underlying3
  a3 := Tryz.isAgg3
  z3 := Tryz.sizeOf3
  v3 := Tryz.zeroValue3
  t4 := Tryz.underlying4
  a4 := Tryz.isAgg4
  z4 := Tryz.sizeOf4
  v4 := Tryz.zeroValue4
  t9 := Tryz.underlying9
  a9 := Tryz.isAgg9
  z9 := Tryz.sizeOf9
  v9 := Tryz.zeroValue9
  t24 := Tryz.underlying103
  a24 := Tryz.isAgg103
  z24 := Tryz.sizeOf103
  v24 := Tryz.zeroValue103 }
open Go.RowKit in
theorem strings_CutPrefix (s p : ByteArray) (w : World) :
    Calls Tryz.prog 51 #[.string s, .string p] w fun e w' => e = .returned (.tuple #[.string ⟨(Lib.trimPrefix s.data.toList p.data.toList).toArray⟩, .bool (Lib.hasPrefix s.data.toList p.data.toList)]) ∧ w' = w := Any.strings_CutPrefix lays103 s p w
def lays99_ren : Go.Shelf.Ren := ⟨fun | 99 => 81 | 206 => 83 | n => n, fun | 9 => 9 | 4 => 4 | 3 => 3 | n => n, fun | n => n⟩
theorem lays99 : Go.Proofs.Lays.n99 Tryz.prog lays99_ren := {
  mixed := by kernel_rfl
  f99 := Tryz.func81.trans (congrArg some (by kernel_rfl))
  f206 := Tryz.func83.trans (congrArg some (by kernel_rfl))
  t3 := Tryz.underlying3
  a3 := Tryz.isAgg3
  z3 := Tryz.sizeOf3
  v3 := Tryz.zeroValue3
  t4 := Tryz.underlying4
  a4 := Tryz.isAgg4
  z4 := Tryz.sizeOf4
  v4 := Tryz.zeroValue4
  t9 := Tryz.underlying9
  a9 := Tryz.isAgg9
  z9 := Tryz.sizeOf9
  v9 := Tryz.zeroValue9 }
open Go.RowKit Go.Lib in
theorem strings_HasPrefix (s p : ByteArray) (w : World) :
    Calls Tryz.prog 81 #[.string s, .string p] w fun e w' => e = .returned (.bool (Lib.hasPrefix s.data.toList p.data.toList)) ∧ w' = w := Any.strings_HasPrefix lays99 s p w
def lays146_ren : Go.Shelf.Ren := ⟨fun | 146 => 52 | 221 => 69 | 268 => 84 | 138 => 85 | 143 => 86 | 195 => 100 | 197 => 101 | 218 => 102 | 219 => 103 | 260 => 108 | 217 => 109 | 225 => 110 | 224 => 111 | 267 => 112 | 266 => 116 | 314 => 117 | n => n, fun | 9 => 9 | 31 => 38 | 3 => 3 | 4 => 4 | 0 => 0 | 105 => 155 | 21 => 21 | 5 => 5 | 46 => 82 | 119 => 167 | 139 => 170 | 138 => 169 | 146 => 171 | 51 => 116 | n => n, fun | 1 => 1 | 3 => 3 | 4 => 4 | n => n⟩
theorem lays146 : Go.Proofs.Lays.n146 Tryz.prog lays146_ren := {
  mixed := by kernel_rfl
  f138 := Tryz.func85.trans (congrArg some (by kernel_rfl))
  f143 := Tryz.func86.trans (congrArg some (by kernel_rfl))
  f146 := Tryz.func52.trans (congrArg some (by kernel_rfl))
  f195 := Tryz.func100.trans (congrArg some (by kernel_rfl))
  f197 := Tryz.func101.trans (congrArg some (by kernel_rfl))
  f217 := Tryz.func109.trans (congrArg some (by kernel_rfl))
  f218 := Tryz.func102.trans (congrArg some (by kernel_rfl))
  f219 := Tryz.func103.trans (congrArg some (by kernel_rfl))
  f221 := Tryz.func69.trans (congrArg some (by kernel_rfl))
  f224 := Tryz.func111.trans (congrArg some (by kernel_rfl))
  f225 := Tryz.func110.trans (congrArg some (by kernel_rfl))
  f260 := Tryz.func108.trans (congrArg some (by kernel_rfl))
  f266 := Tryz.func116.trans (congrArg some (by kernel_rfl))
  f267 := Tryz.func112.trans (congrArg some (by kernel_rfl))
  f268 := Tryz.func84.trans (congrArg some (by kernel_rfl))
  f314 := Tryz.func117.trans (congrArg some (by kernel_rfl))
  t0 := Tryz.underlying0
  a0 := Tryz.isAgg0
  z0 := Tryz.sizeOf0
  v0 := Tryz.zeroValue0
  t3 := Tryz.underlying3
  a3 := Tryz.isAgg3
  z3 := Tryz.sizeOf3
  v3 := Tryz.zeroValue3
  t4 := Tryz.underlying4
  a4 := Tryz.isAgg4
  z4 := Tryz.sizeOf4
  v4 := Tryz.zeroValue4
  t5 := Tryz.underlying5
  a5 := Tryz.isAgg5
  z5 := Tryz.sizeOf5
  v5 := Tryz.zeroValue5
  t9 := Tryz.underlying9
  a9 := Tryz.isAgg9
  z9 := Tryz.sizeOf9
  v9 := Tryz.zeroValue9
  t21 := Tryz.underlying21
  a21 := Tryz.isAgg21
  z21 := Tryz.sizeOf21
  v21 := Tryz.zeroValue21
  t31 := Tryz.underlying38
  a31 := Tryz.isAgg38
  z31 := Tryz.sizeOf38
  v31 := Tryz.zeroValue38
  t46 := Tryz.underlying82
  a46 := Tryz.isAgg82
  z46 := Tryz.sizeOf82
  v46 := Tryz.zeroValue82
  t51 := Tryz.underlying116
  a51 := Tryz.isAgg116
  z51 := Tryz.sizeOf116
  v51 := Tryz.zeroValue116
  t105 := Tryz.underlying155
  a105 := Tryz.isAgg155
  z105 := Tryz.sizeOf155
  v105 := Tryz.zeroValue155
  t119 := Tryz.underlying167
  a119 := Tryz.isAgg167
  z119 := Tryz.sizeOf167
  t138 := Tryz.underlying169
  a138 := Tryz.isAgg169
  z138 := Tryz.sizeOf169
  v138 := Tryz.zeroValue169
  t139 := Tryz.underlying170
  a139 := Tryz.isAgg170
  z139 := Tryz.sizeOf170
  v139 := Tryz.zeroValue170
  t146 := Tryz.underlying171
  a146 := Tryz.isAgg171
  z146 := Tryz.sizeOf171
  v146 := Tryz.zeroValue171
  g1 := by kernel_rfl
  g3 := by kernel_rfl
  g4 := by kernel_rfl }
open Go.RowKit Go.Lib in
theorem strings_Split (s sep : ByteArray) (m : Int) (w : World) (hs : s.size < 4294967281) (hm : w.cell? ⟨1, 0, none⟩ = some (.int .i64 m)) (h1 : 1 ≤ sep.size) :
    Calls Tryz.prog 52 #[.string s, .string sep] w fun e w' =>
      e = .returned (.slice (some ⟨w.heap.size, 0, none⟩) (Lib.countB s sep + 1) (Lib.countB s sep + 1)) ∧ w' = w.alloc (.cells ((Lib.splitB sep 0 (Lib.countB s sep) s).map Value.string).toArray 9) := Any.strings_Split lays146 (by kernel_rfl) s sep m w hs hm h1

end Go.Proofs.YticcphppnmoogaaGreatDoor

namespace Go.Proofs.YticcphppnmoogaaGreatDoor
open Go.RowKit
attribute [local go_sem ↓] Go.wp_at_zero Go.wp_at_succ

theorem addr_lit {w : World} {ad : Addr} {v : Value} (h : w.cell? (ad.add 0) = some v) : ad = ⟨ad.block, ad.off, none⟩ := by
  obtain ⟨b, o, s⟩ := ad
  have : s = none := by simpa [Addr.add] using World.cell?_spot h
  subst this
  rfl
theorem reads_lit {w : World} {B n : Nat} {ad : Addr} {xs : List Value} (h : Reads w B 1 (some ad) n xs) (hn : 0 < n) : ∃ b o, ad = ⟨b, o, none⟩ ∧ b < B ∧ ∀ j u, xs[j]? = some u → w.cell? ⟨b, o + j, none⟩ = some u := by
  obtain ⟨ad', e, hb, hc⟩ := h.2 hn
  injection e with e
  subst e
  have hl : 0 < xs.length := by have := h.1; omega
  have e := addr_lit (hc 0 _ (List.getElem?_eq_getElem hl))
  refine ⟨ad.block, ad.off, e, hb, fun j u hu => ?_⟩
  have := hc j u hu
  rw [e, Addr.add_lit] at this
  exact this

def joinF (p : List ByteArray) : ByteArray := ⟨(Lib.join (p.map (·.data.toList)) [47]).toArray⟩
def txtF (p : List ByteArray) : ByteArray := if p = [] then ⟨#[47]⟩ else ⟨#[47]⟩ ++ joinF p
theorem lens_le {k : Nat} : ∀ (p : List ByteArray), (∀ s ∈ p, s.size ≤ k) → Lib.lens (p.map (·.data.toList)) ≤ p.length * k
  | [], _ => by simp [Lib.lens]
  | s :: p, h => by
    have h1 := lens_le p (fun t ht => h t (List.mem_cons_of_mem _ ht))
    have h2 := h s (List.mem_cons_self ..)
    have h3 : s.data.toList.length = s.size := by simp
    have h4 : Lib.lens ((s :: p).map (·.data.toList)) = s.data.toList.length + Lib.lens (p.map (·.data.toList)) := by simp [Lib.lens]
    rw [h4, h3, List.length_cons, Nat.add_mul]
    omega
theorem join_le {k : Nat} (p : List ByteArray) (h : ∀ s ∈ p, s.size ≤ k) : (Lib.join (p.map (·.data.toList)) [47]).length ≤ p.length * (k + 1) := by
  cases p with
  | nil => simp [Lib.join_nil]
  | cons s p =>
    rw [List.map_cons, Lib.join_length]
    have := lens_le (s :: p) h
    rw [List.map_cons] at this
    simp only [List.length_cons, List.length_nil, List.length_map, Nat.mul_add] at *
    omega
theorem joinF_size (p : List ByteArray) : (joinF p).size = (Lib.join (p.map (·.data.toList)) [47]).length := by simp [joinF, ByteArray.size]
theorem txtF_size {k : Nat} (p : List ByteArray) (h : ∀ s ∈ p, s.size ≤ k) : (txtF p).size ≤ p.length * (k + 1) + 1 := by
  unfold txtF
  split
  · show 1 ≤ _; omega
  · rw [ByteArray.size_append, joinF_size]
    have := join_le p h
    show 1 + _ ≤ _
    omega

set_option maxHeartbeats 1000000 in
theorem text_any (A : Option Addr) (n c : Nat) (p : List ByteArray) (w : World) (hn : n ≤ 1000) (hc : n ≤ c) (hs : ∀ s ∈ p, s.size ≤ 1000) (hR : Reads w w.heap.size 1 A n (strV p)) :
    Calls Tryz.prog 47 #[.slice A n c] w fun e w' => e = .returned (.string (txtF p)) ∧ Below w.heap.size w w' := by
  have hl := strs_n hR
  by_cases h0 : n = 0
  · subst h0
    obtain rfl : p = [] := List.eq_nil_of_length_eq_zero hl
    clear hR
    go_enter Tryz.func47, Tryz.ntmps47
    go_wp2_with fail
    go_ret
    exact ⟨rfl, Below.refl _ _⟩
  · have h0' : ((n : Int) == 0) = false := by simp; omega
    have hne : p ≠ [] := fun e => by subst e; simp at hl; omega
    have HT := Sl.mk (show txtF p = ⟨#[47]⟩ ++ joinF p from if_neg hne)
    have hjl := join_le p hs
    have hjs : (joinF p).size ≤ 1001000 := by rw [joinF_size]; have : p.length * (1000 + 1) ≤ 1000 * 1001 := Nat.mul_le_mul (by omega) (Nat.le_refl _); omega
    obtain ⟨ad, rfl, hb, -⟩ := hR.2 (by omega)
    obtain ⟨b, o, rfl, hbb, hcell⟩ := reads_lit hR (by omega)
    have H := Sl.mk (show Calls Tryz.prog 59 #[.slice (some ⟨b, o, none⟩) n c, .string ⟨#[47]⟩] w fun e w' => e = .returned (.string (joinF p)) ∧ Below w.heap.size w w' by
      have h := strings_Join b o c p ⟨#[47]⟩ w (fun j x hx => hcell j _ (strV_at hx)) hbb (by omega) (by omega) (by have : p.length * (1000 + 1) ≤ 1000 * 1001 := Nat.mul_le_mul (by omega) (Nat.le_refl _); exact Nat.le_trans hjl (by omega))
      rw [hl] at h
      exact h)
    obtain ⟨J, hJ⟩ : ∃ J, joinF p = J := ⟨_, rfl⟩
    rw [hJ] at H hjs HT
    have hsz : ((⟨#[47]⟩ : ByteArray) ++ J).size ≤ 1001001 := by rw [ByteArray.size_append]; show 1 + _ ≤ _; omega
    clear hjl hcell hl hne hJ hR hb
    go_enter Tryz.func47, Tryz.ntmps47
    go_wp2_with fail
    refine H.out.mono ?_
    rintro e w' ⟨rfl, hB⟩
    go_wp2_with fail
    go_ret
    exact ⟨by rw [HT.out]; rfl, hB⟩

end Go.Proofs.YticcphppnmoogaaGreatDoor

namespace Go.Proofs.YticcphppnmoogaaGreatDoor
open Go.RowKit
attribute [local go_sem ↓] Go.wp_at_zero Go.wp_at_succ

/-- A path under construction: a row of the call's own, or the clipped beginning of one. -/
structure PP (w : World) (base : Nat) (A : Option Addr) (c : Nat) (p : List ByteArray) : Prop where
  cap : p.length ≤ c ∧ c ≤ 9223372036854775807
  row : w.ownsRow base 9 1 (.slice A p.length c) p.length (strV p) ∨
    (c = p.length ∧ ∃ ad, A = some ad ∧ base ≤ ad.block ∧ ad.block < w.heap.size ∧ ∀ j u, (strV p)[j]? = some u → w.cell? (ad.add j) = some u)

def stepF (p : List ByteArray) (s : ByteArray) : Option (List ByteArray) :=
  if s.toList = [46] then some p else if s.toList = [46, 46] then (if p = [] then none else some p.dropLast) else if nameB s = true ∧ p.length < 8 then some (p ++ [s]) else none

theorem PP.of_own {w : World} {base : Nat} {A : Option Addr} {c : Nat} {p : List ByteArray} (h : w.ownsRow base 9 1 (.slice A p.length c) p.length (strV p)) : PP w base A c p := by
  refine ⟨?_, .inl h⟩
  obtain ⟨A', c', e, h1, h2⟩ := ownCap h
  injection e with _ _ e
  subst e
  unfold maxLen at h2
  exact ⟨h1, by omega⟩
theorem PP.reads {w : World} {base : Nat} {A : Option Addr} {c : Nat} {p : List ByteArray} (h : PP w base A c p) : Reads w w.heap.size 1 A p.length (strV p) := by
  rcases h.row with h | ⟨-, ad, rfl, -, hb, hc⟩
  · exact Reads.of_own h
  · exact ⟨by rw [strV_len, Nat.mul_one], fun _ => ⟨ad, rfl, hb, hc⟩⟩
theorem PP.below {w w' : World} {base : Nat} {A : Option Addr} {c : Nat} {p : List ByteArray} (h : PP w base A c p) (hb : Below w.heap.size w w') : PP w' base A c p := by
  refine ⟨h.cap, ?_⟩
  rcases h.row with h | ⟨hc, ad, rfl, h1, h2, h3⟩
  · exact .inl (own_below h hb)
  · exact .inr ⟨hc, ad, rfl, h1, Nat.lt_of_lt_of_le h2 hb.size, fun j u hu => (hb.cell (p := ad.add j) (by rw [block_of_add]; exact h2)).trans (h3 j u hu)⟩
theorem PP.ge {w : World} {base : Nat} {A : Option Addr} {c : Nat} {p : List ByteArray} (h : PP w base A c p) {g : Nat} (hg : A.map (·.block) = some g) : base ≤ g := by
  rcases h.row with h | ⟨-, ad, rfl, h1, -, -⟩
  · exact ownGe h (g := g) (by cases A with
      | none => simp at hg
      | some ad => simpa [Value.ownBlock] using hg)
  · have : ad.block = g := by simpa using hg
    omega
theorem dropLast_at {p : List ByteArray} {j : Nat} {u : Value} (h : (strV p.dropLast)[j]? = some u) : (strV p)[j]? = some u := by
  simp only [strV, List.getElem?_map] at h ⊢
  rw [List.getElem?_dropLast] at h
  split at h
  · exact h
  · simp at h
theorem PP.cut {w : World} {base : Nat} {A : Option Addr} {c : Nat} {p : List ByteArray} (h : PP w base A c p) (hp : p ≠ []) : PP w base A p.dropLast.length p.dropLast := by
  have hl : 0 < p.length := List.length_pos_iff.2 hp
  refine ⟨⟨Nat.le_refl _, ?_⟩, .inr ⟨rfl, ?_⟩⟩
  · have := h.cap; rw [List.length_dropLast]; omega
  · rcases h.row with h | ⟨-, ad, rfl, h1, h2, h3⟩
    · obtain ⟨g, c', e, hb, hg, hcells⟩ := ownCells h hl
      injection e with e
      subst e
      refine ⟨_, rfl, hb, hg, fun j u hu => ?_⟩
      have hadd : (⟨g, 0, none⟩ : Addr).add j = ⟨g, j, none⟩ := by unfold Addr.add; split <;> simp_all
      rw [hadd]
      exact hcells j u (dropLast_at hu)
    · exact ⟨ad, rfl, h1, h2, fun j u hu => h3 j u (dropLast_at hu)⟩

def StepPost (w : World) (base : Nat) (A : Option Addr) (p : List ByteArray) (s : ByteArray) (e : Ending) (w' : World) : Prop :=
  ∃ (A' : Option Addr) (k c' : Nat), e = .returned (.tuple #[.slice A' k c', .bool (stepF p s).isSome]) ∧ w.grownBy w' (A.map (·.block)) ∧
    (∀ g, g < w.heap.size → A.map (·.block) ≠ some g → A'.map (·.block) ≠ some g) ∧ ∀ q, stepF p s = some q → k = q.length ∧ PP w' base A' c' q

theorem own_mono {w : World} {b b' : Nat} {e : TypeId} {size n : Nat} {v : Value} {xs : List Value} (h : w.ownsRow b e size v n xs) (hb : b' ≤ b) : w.ownsRow b' e size v n xs := by
  refine ⟨h.1, ?_⟩
  rcases h.2 with h | ⟨g, cap, cur, h1, h2, h3⟩
  · exact .inl h
  · exact .inr ⟨g, cap, cur, h1, by omega, h3⟩
theorem own_map {A : Option Addr} {n c : Nat} : (Value.slice A n c).ownBlock = A.map (·.block) := by cases A <;> rfl

theorem step_close {w w1 : World} {base n c1 : Nat} {A A1 : Option Addr} {p : List ByteArray} {s : ByteArray} {b : Bool} (hF : stepF p s = if nameB s = true ∧ p.length < 8 then some (p ++ [s]) else none) (hl : p.length = n) (hW : w.grownBy w1 (A.map (·.block)))
    (hN : ∀ g, g < w.heap.size → A.map (·.block) ≠ some g → A1.map (·.block) ≠ some g) (hown : w1.ownsRow base 9 1 (.slice A1 (n + 1) c1) (n + 1) (strV p ++ [.string s])) (hb : b = (nameB s && decide (n < 8))) :
    StepPost w base A p s (.returned (.tuple #[.slice A1 (n + 1) c1, .bool b])) w1 := by
  subst hl
  by_cases h : nameB s = true ∧ p.length < 8
  · rw [if_pos h] at hF
    refine ⟨A1, p.length + 1, c1, by rw [hF, hb, h.1]; simp [h.2], hW, hN, fun q hq => ?_⟩
    rw [hF] at hq
    injection hq with hq
    subst hq
    have h2 : (p ++ [s]).length = p.length + 1 := by simp
    refine ⟨h2.symm, PP.of_own ?_⟩
    rw [h2, strV_app]
    exact hown
  · rw [if_neg h] at hF
    refine ⟨A1, p.length + 1, c1, ?_, hW, hN, fun q hq => by rw [hF] at hq; cases hq⟩
    rw [hF, hb]
    have : (nameB s && decide (p.length < 8)) = false := by
      cases hn : nameB s
      · rfl
      · simp only [Bool.true_and, decide_eq_false_iff_not]
        exact fun h8 => h ⟨hn, h8⟩
    rw [this]; rfl

set_option maxHeartbeats 2000000 in
theorem step_any (base : Nat) (A : Option Addr) (n c : Nat) (p : List ByteArray) (s : ByteArray) (w : World) (hn : p.length = n) (hn8 : n ≤ 8) (hs : s.size ≤ 9223372036854775807) (hb : base ≤ w.heap.size) (hP : PP w base A c p) :
    Calls Tryz.prog 96 #[.slice A n c, .string s] w (StepPost w base A p s) := by
  have HN := Sl.mk hn
  have hcap := hP.cap
  rw [hn] at hcap
  by_cases h1 : s.toList = [46]
  · have HF := Sl.mk (show stepF p s = some p from if_pos h1)
    have HP := Sl.mk hP
    clear hP hn
    go_enter Tryz.func96, Tryz.ntmps96
    go_wp2_with fail
    go_ret2
    exact ⟨A, n, c, by rw [HF.out]; rfl, only_refl _ _, fun g _ h => h, fun q hq => by rw [HF.out] at hq; injection hq with hq; subst hq; exact ⟨HN.out.symm, HP.out⟩⟩
  have h1' : (s.toList == [46]) = false := by simpa using h1
  by_cases h2 : s.toList = [46, 46]
  · by_cases h0 : n = 0
    · subst h0
      have hp : p = [] := List.eq_nil_of_length_eq_zero hn
      have HF := Sl.mk (show stepF p s = none by unfold stepF; rw [if_neg h1, if_pos h2, if_pos hp])
      clear hP hn
      go_enter Tryz.func96, Tryz.ntmps96
      go_wp2_with fail
      go_ret2
      exact ⟨none, 0, 0, by rw [HF.out]; rfl, only_refl _ _, (fun g _ _ h => by cases h), (fun q hq => by rw [HF.out] at hq; cases hq)⟩
    · have h0' : ((n : Int) == 0) = false := by simp; omega
      have hp : p ≠ [] := fun e => by subst e; simp at hn; omega
      have HF := Sl.mk (show stepF p s = some p.dropLast by unfold stepF; rw [if_neg h1, if_pos h2, if_neg hp])
      have HC := Sl.mk (hP.cut hp)
      have HD := Sl.mk (show p.dropLast.length = n - 1 by rw [List.length_dropLast, hn])
      have hc1 : ((n - 1 : Nat) : Int) = (n : Int) - 1 := by omega
      obtain ⟨k, rfl⟩ : ∃ k, n = k + 1 := ⟨n - 1, by omega⟩
      clear hP hn hc1
      go_enter Tryz.func96, Tryz.ntmps96
      go_wp2_with fail
      go_ret2
      exact ⟨A, k, k, by rw [HF.out]; first | rfl | simp, only_refl _ _, fun g _ h => h, fun q hq => by rw [HF.out] at hq; injection hq with hq; subst hq; have := HD.out; have h := HC.out; rw [this] at h ⊢; exact ⟨rfl, h⟩⟩
  have h2' : (s.toList == [46, 46]) = false := by simpa using h2
  have HF := Sl.mk (show stepF p s = if nameB s = true ∧ p.length < 8 then some (p ++ [s]) else none by unfold stepF; rw [if_neg h1, if_neg h2])
  obtain ⟨i0, hi0, hz0, hz1, hz2⟩ := info_parts strInfo
  have hone : ∀ u ∈ [Value.string s], u.oneCell' = true := by intro u hu; simp at hu; subst hu; rfl
  rcases hP.row with hown | ⟨hcn, ad, rfl, hb1, hb2, hcl⟩
  · rw [hn] at hown
    have HONE := Sl.mk hone
    clear hone hP hn h1 h2
    cases eN : nameB s
    all_goals
      by_cases h8 : n < 8
    all_goals
      have hd : decide ((n : Int) < 8) = decide (n < 8) := by rw [decide_eq_decide]; omega
      go_enter Tryz.func96, Tryz.ntmps96
      go_wp2_with (at_builtin; refine wpList_append_any _ rfl (.tmp 23) (.tmp 25) 38 rfl base 9 i0 (.string ByteArray.empty) 1 16 Tryz.underlying38 hi0 hz0 hz1 hz2 rfl (by decide) _ _ _ rfl (hown.alloc _) (w.heap.size + 1) (some ⟨w.heap.size, 0, none⟩) 1 1 [.string s] rfl (reads_new1 _ _ _ (Nat.lt_succ_self _)) HONE.out (by unfold maxLen; omega) (by omega) (by simp; omega) ?_)
      intro v' w1 hown1 hg1 hb1
      obtain ⟨A1, c1, rfl⟩ := ownForm hown1
      have hW : w.grownBy w1 (A.map (·.block)) := by
        rw [← own_map (n := n) (c := c)]
        exact only_trans (only_alloc (only_refl w _) _) hg1
      have hN : ∀ g, g < w.heap.size → A.map (·.block) ≠ some g → A1.map (·.block) ≠ some g := fun g hg hne => by
        rw [own_map, own_map] at hb1
        rcases hb1 with e | e
        · rw [e]; exact hne
        · rw [e]; intro e2; injection e2 with e2; have e3 : (w.alloc (.cells #[.string s] 9)).heap.size = w.heap.size + 1 := by simp
          omega
      have HK := Sl.mk (And.intro hW (And.intro hN hown1))
      clear hW hN hown1 hg1 hb1 hown
      go_wp2_with fail
      refine (name_any s _ hs).mono ?_
      rintro e w' ⟨rfl, rfl⟩
      rw [eN]
      go_wp2_with fail
      go_ret2
      obtain ⟨hW, hN, hown1⟩ := HK.out
      exact step_close HF.out HN.out hW hN hown1 (by rw [eN]; first | rfl | simp [h8])
  · rw [hn] at hcn
    subst hcn
    have HONE := Sl.mk hone
    have HCL := Sl.mk (show ∀ b, some ad = some b → ∀ j u, (strV p)[j]? = some u → (w.alloc (.cells #[.string s] 9)).cell? (b.add j) = some u from fun b e j u hu => by
      rw [← Option.some.inj e]
      exact (World.cell?_alloc_lt w _ (ad.add j) (by rw [block_of_add]; exact hb2)).trans (hcl j u hu))
    have HNW := Sl.mk (show ∀ j u, [Value.string s][j]? = some u → (w.alloc (.cells #[.string s] 9)).cell? ((⟨w.heap.size, 0, none⟩ : Addr).add j) = some u from fun j u hu => ((reads_new1 w (.string s) 9 (Nat.lt_succ_self _)).2 (by omega)).elim fun ad' h => by
      obtain ⟨e, _, h⟩ := h
      rw [Option.some.inj e]
      exact h j u hu)
    have hlen : (strV p).length = c * 1 := by rw [strV_len, hn, Nat.mul_one]
    have HLEN := Sl.mk hlen
    clear hone hP hn h1 h2 hcl hlen
    cases eN : nameB s
    all_goals
      by_cases h8 : c < 8
    all_goals
      have hd : decide ((c : Int) < 8) = decide (c < 8) := by rw [decide_eq_decide]; omega
      go_enter Tryz.func96, Tryz.ntmps96
      go_wp2_with (at_builtin; refine wpList_append_grows _ rfl (.tmp 23) (.tmp 25) 38 rfl 9 i0 (.string ByteArray.empty) 1 16 Tryz.underlying38 hi0 hz0 hz1 hz2 rfl (by decide) (some ad) c c (strV p) rfl (fun e => by cases e) HLEN.out HCL.out ⟨w.heap.size, 0, none⟩ 1 1 [.string s] rfl rfl HNW.out HONE.out (by omega) (by unfold maxLen; omega) (by omega) ?_)
      intro v' w1 hown1 hg1
      obtain ⟨A1, c1, rfl⟩ := ownForm hown1
      have hW : w.grownBy w1 ((some ad).map (·.block)) := only_trans (only_alloc (only_refl w _) _) ⟨hg1.os, hg1.tape, hg1.output, hg1.size, fun i hi _ => hg1.block i hi (by simp)⟩
      have hge : ∀ g, A1.map (·.block) = some g → w.heap.size ≤ g := fun g hg => by
        have h3 := ownGe hown1 (g := g) (by rw [own_map]; exact hg)

        omega
      have hN : ∀ g, g < w.heap.size → (some ad).map (·.block) ≠ some g → A1.map (·.block) ≠ some g := fun g hg _ e => by have := hge g e; omega
      have hown2 := own_mono (b' := base) hown1 (by omega)
      have HK := Sl.mk (And.intro hW (And.intro hN hown2))
      clear hW hN hown1 hg1 hown2 hge
      go_wp2_with fail
      refine (name_any s _ hs).mono ?_
      rintro e w' ⟨rfl, rfl⟩
      rw [eN]
      go_wp2_with fail
      go_ret2
      obtain ⟨hW, hN, hown1⟩ := HK.out
      exact step_close HF.out HN.out hW hN hown1 (by rw [eN]; first | rfl | simp [h8])

end Go.Proofs.YticcphppnmoogaaGreatDoor
