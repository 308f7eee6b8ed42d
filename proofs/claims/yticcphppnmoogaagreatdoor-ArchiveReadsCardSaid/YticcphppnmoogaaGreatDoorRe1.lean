/-
  What is read of bytes, place by place (plain); pieces of a slice of bytes.
-/
import Derived.Test.YticcphppnmoogaaGreatDoorBy18

namespace Go.Proofs.YticcphppnmoogaaGreatDoor
open Go.RowKit

theorem short_true (n : Nat) (b : List Nat) : shortV n b true = true := by unfold shortV; split <;> rfl
theorem readF_form (k0 m1 m2 pl s1 s2 : Nat) (p d sl r : List Nat) (s : Bool) (hp : p.length = pl) (hd : d.length = s1 * 256 + s2) (hs : sl.length = 8) :
    readF (k0 :: m1 :: m2 :: pl :: (p ++ (s1 :: s2 :: (d ++ (sl ++ r))))) s = ⟨k0, m1 * 256 + m2, p, d, sl, r, s⟩ := by
  have hb : k0 :: m1 :: m2 :: pl :: (p ++ (s1 :: s2 :: (d ++ (sl ++ r)))) = [k0] ++ ([m1, m2] ++ ([pl] ++ (p ++ ([s1, s2] ++ (d ++ (sl ++ r)))))) := by simp
  rw [hb]
  have n1 : numF [k0] = k0 := by show 0 * 256 + k0 = k0; omega
  have n2 : numF [m1, m2] = m1 * 256 + m2 := by show (0 * 256 + m1) * 256 + m2 = _; omega
  have n3 : numF [pl] = pl := by show 0 * 256 + pl = pl; omega
  have n4 : numF [s1, s2] = s1 * 256 + s2 := by show (0 * 256 + s1) * 256 + s2 = _; omega
  unfold readF
  simp only [takeV_app (n := 1) (x := [k0]) rfl, restV_app (n := 1) (x := [k0]) rfl, shortV_app (n := 1) (x := [k0]) rfl,
    takeV_app (n := 2) (x := [m1, m2]) rfl, restV_app (n := 2) (x := [m1, m2]) rfl, shortV_app (n := 2) (x := [m1, m2]) rfl,
    takeV_app (n := 1) (x := [pl]) rfl, restV_app (n := 1) (x := [pl]) rfl, shortV_app (n := 1) (x := [pl]) rfl, n1, n2, n3,
    takeV_app (n := pl) hp, restV_app (n := pl) hp, shortV_app (n := pl) hp,
    takeV_app (n := 2) (x := [s1, s2]) rfl, restV_app (n := 2) (x := [s1, s2]) rfl, shortV_app (n := 2) (x := [s1, s2]) rfl, n4,
    takeV_app (n := s1 * 256 + s2) hd, restV_app (n := s1 * 256 + s2) hd, shortV_app (n := s1 * 256 + s2) hd,
    takeV_app (n := 8) hs, restV_app (n := 8) hs, shortV_app (n := 8) hs]
theorem read_short1 {b : List Nat} (h : b.length < 4) : (readF b false).s = true := by
  match b, h with
  | [], _ => simp [readF, shortV, restV]
  | [_], _ => simp [readF, shortV, restV]
  | [_, _], _ => simp [readF, shortV, restV]
  | [_, _, _], _ => simp [readF, shortV, restV]
theorem read_short2 {k0 m1 m2 pl : Nat} {t : List Nat} (h : t.length < pl + 2) : (readF (k0 :: m1 :: m2 :: pl :: t) false).s = true := by
  have hb : k0 :: m1 :: m2 :: pl :: t = [k0] ++ ([m1, m2] ++ ([pl] ++ t)) := by simp
  rw [hb]
  have n3 : numF [pl] = pl := by show 0 * 256 + pl = pl; omega
  unfold readF
  simp only [restV_app (n := 1) (x := [k0]) rfl, shortV_app (n := 1) (x := [k0]) rfl,
    restV_app (n := 2) (x := [m1, m2]) rfl, shortV_app (n := 2) (x := [m1, m2]) rfl,
    takeV_app (n := 1) (x := [pl]) rfl, restV_app (n := 1) (x := [pl]) rfl, shortV_app (n := 1) (x := [pl]) rfl, n3]
  by_cases hp : t.length < pl
  · have : shortV pl t false = true := by unfold shortV; rw [if_pos hp]
    simp only [this, short_true]
  · have h1 : shortV 2 (restV pl t) (shortV pl t false) = true := by
      unfold shortV restV
      rw [if_neg hp, if_pos (by rw [List.length_drop]; omega)]
    simp only [h1, short_true]
theorem read_short3 {k0 m1 m2 pl s1 s2 : Nat} {p t : List Nat} (hp : p.length = pl) (h : t.length < s1 * 256 + s2 + 8) : (readF (k0 :: m1 :: m2 :: pl :: (p ++ (s1 :: s2 :: t))) false).s = true := by
  have hb : k0 :: m1 :: m2 :: pl :: (p ++ (s1 :: s2 :: t)) = [k0] ++ ([m1, m2] ++ ([pl] ++ (p ++ ([s1, s2] ++ t)))) := by simp
  rw [hb]
  have n3 : numF [pl] = pl := by show 0 * 256 + pl = pl; omega
  have n4 : numF [s1, s2] = s1 * 256 + s2 := by show (0 * 256 + s1) * 256 + s2 = _; omega
  unfold readF
  simp only [restV_app (n := 1) (x := [k0]) rfl, shortV_app (n := 1) (x := [k0]) rfl,
    restV_app (n := 2) (x := [m1, m2]) rfl, shortV_app (n := 2) (x := [m1, m2]) rfl,
    takeV_app (n := 1) (x := [pl]) rfl, restV_app (n := 1) (x := [pl]) rfl, shortV_app (n := 1) (x := [pl]) rfl, n3,
    restV_app (n := pl) hp, shortV_app (n := pl) hp,
    takeV_app (n := 2) (x := [s1, s2]) rfl, restV_app (n := 2) (x := [s1, s2]) rfl, shortV_app (n := 2) (x := [s1, s2]) rfl, n4]
  by_cases hq : t.length < s1 * 256 + s2
  · have : shortV (s1 * 256 + s2) t false = true := by unfold shortV; rw [if_pos hq]
    simp only [this, short_true]
  · have h1 : shortV 8 (restV (s1 * 256 + s2) t) (shortV (s1 * 256 + s2) t false) = true := by
      unfold shortV restV
      rw [if_neg hq, if_pos (by rw [List.length_drop]; omega)]
    exact h1

theorem drop_four {b : List Nat} {i k0 m1 m2 pl : Nat} (h0 : b[i]? = some k0) (h1 : b[i + 1]? = some m1) (h2 : b[i + 2]? = some m2) (h3 : b[i + 3]? = some pl) : b.drop i = k0 :: m1 :: m2 :: pl :: b.drop (i + 4) := by
  rw [drop_cons1 h0, drop_cons1 h1, drop_cons1 h2, drop_cons1 h3]
theorem drop_two {b : List Nat} {i s1 s2 : Nat} (h0 : b[i]? = some s1) (h1 : b[i + 1]? = some s2) : b.drop i = s1 :: s2 :: b.drop (i + 2) := by
  rw [drop_cons1 h0, drop_cons1 h1]
theorem drop_piece (b : List Nat) (i m : Nat) : b.drop i = (b.drop i).take m ++ b.drop (i + m) := by
  conv => lhs; rw [← List.take_append_drop m (b.drop i)]
  rw [List.drop_drop]
theorem piece_len {b : List Nat} {i m : Nat} (h : i + m ≤ b.length) : ((b.drop i).take m).length = m := by rw [List.length_take, List.length_drop]; omega
theorem sub_reads {w : World} {B bk o n : Nat} {b : List Nat} (hl : b.length = n) (hB : bk < B) (h : ∀ j u, (u8s b)[j]? = some u → w.cell? ⟨bk, o + j, none⟩ = some u) {a m : Nat} (ha : a + m ≤ n) : Reads w B 1 (some ⟨bk, o + a, none⟩) m (u8s ((b.drop a).take m)) :=
  ⟨by rw [u8s_len, piece_len (by omega)]; omega, fun _ => ⟨_, rfl, hB, fun j u hu => by
    rw [Addr.add_lit, Nat.add_assoc]
    refine h (a + j) u ?_
    have hj : j < m := by have := (List.getElem?_eq_some_iff.1 hu).1; rw [u8s_len, piece_len (by omega)] at this; exact this
    rw [← hu]
    simp only [u8s, List.getElem?_map, List.getElem?_take_of_lt hj, List.getElem?_drop]⟩⟩
theorem byte_at {b : List Nat} {i : Nat} (h : i < b.length) : ∃ x, b[i]? = some x := ⟨_, List.getElem?_eq_getElem h⟩

theorem nextE_short {b : List Nat} {l : List Ex} (h : (readF b false).s = true) : nextE b false l = 4 := by unfold nextE; rw [if_pos h]
theorem nextE_form {b : List Nat} {l : List Ex} {r : Read} (h : readF b false = r) (hs : r.s = false) : nextE b false l = if parseE (strN r.p) ≠ 0 then 10 else if refusedE (entF r) l ≠ 0 then refusedE (entF r) l else if eqB r.sl (sealF (entF r)) = true then 0 else 5 := by
  unfold nextE; rw [h, if_neg (by rw [hs]; simp)]

end Go.Proofs.YticcphppnmoogaaGreatDoor
