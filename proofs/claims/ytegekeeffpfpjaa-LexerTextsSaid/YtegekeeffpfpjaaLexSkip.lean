/-
  The contract of skip: blanks, line ends and notes.
-/
import Derived.Test.YtegekeeffpfpjaaLexRun
import Derived.Test.YtegekeeffpfpjaaWordsE
namespace Go.Proofs.Ytegekeeffpfpjaa
open Go.RowKit

def skipL : Bool → List UInt8 → Nat → List UInt8 × Nat
  | _, [], ln => ([], ln)
  | note, c :: l, ln => if ((c.toNat : Int) == 10) = true then skipL false l (ln + 1) else if (note || (c.toNat : Int) == 32 || (c.toNat : Int) == 9) = true then skipL note l ln else if ((c.toNat : Int) == 35) = true then skipL true l ln else (c :: l, ln)

/-- A reader lies in block g: its text, where it stands, its line. -/
def Rd (w : World) (g : Nat) (s : ByteArray) (a ln : Nat) : Prop := Blk w g 47 #[.string s, .int .i64 a, .int .i64 ln]
theorem Rd.seta {w : World} {g : Nat} {s : ByteArray} {a ln : Nat} (h : Rd w g s a ln) (a' : Nat) : Rd (w.setCell ⟨g, 1, none⟩ (.int .i64 a')) g s a' ln := blk_set _ _ _ _ 1 _ _ h rfl
theorem Rd.setl {w : World} {g : Nat} {s : ByteArray} {a ln : Nat} (h : Rd w g s a ln) (l' : Nat) : Rd (w.setCell ⟨g, 2, none⟩ (.int .i64 l')) g s a l' := blk_set _ _ _ _ 2 _ _ h rfl

def SkipPost (w : World) (g : Nat) (s : ByteArray) (a ln : Nat) (e : Ending) (w' : World) : Prop :=
  e = .returned (.tuple #[]) ∧ ∃ a' l' : Nat, a ≤ a' ∧ a' ≤ s.size ∧ ln ≤ l' ∧ l' + a ≤ ln + a' ∧ skipL false (s.data.toList.drop a) ln = (s.data.toList.drop a', l') ∧ Rd w' g s a' l' ∧ w.grownBy w' (some g)

theorem skip_at {s : ByteArray} {i : Nat} (note : Bool) (ln : Nat) (h : i < s.size) :
    skipL note (s.data.toList.drop i) ln = if (((s[i].toNat : Nat) : Int) == 10) = true then skipL false (s.data.toList.drop (i + 1)) (ln + 1) else if (note || ((s[i].toNat : Nat) : Int) == 32 || ((s[i].toNat : Nat) : Int) == 9) = true then skipL note (s.data.toList.drop (i + 1)) ln
      else if (((s[i].toNat : Nat) : Int) == 35) = true then skipL true (s.data.toList.drop (i + 1)) ln else (s.data.toList.drop i, ln) := by
  rw [drop_at s i h]; rfl

/-- The reader is as it was, so is all else. -/
def Still (r : Value) (w : World) (g : Nat) (s : ByteArray) (a ln : Nat) (e : Ending) (w' : World) : Prop := e = .returned r ∧ Rd w' g s a ln ∧ w.grownBy w' (some g)

theorem Rd.drN {w : World} {g : Nat} {s : ByteArray} {a ln : Nat} (h : Rd w g s a ln) (n : Nat) : Rd (w.drewN n) g s a ln := h
theorem Rd.setA {w : World} {g : Nat} {s : ByteArray} {a ln : Nat} (h : Rd w g s a ln) {x : Int} {a' : Nat} (hx : x = a') : Rd (w.setCell ⟨g, 1, none⟩ (.int .i64 x)) g s a' ln := by subst hx; exact h.seta a'
theorem Rd.setL {w : World} {g : Nat} {s : ByteArray} {a ln : Nat} (h : Rd w g s a ln) {x : Int} {a' : Nat} (hx : x = a') : Rd (w.setCell ⟨g, 2, none⟩ (.int .i64 x)) g s a a' := by subst hx; exact h.setl a'
theorem sk_nl {s : ByteArray} {b l : Nat} {note : Bool} (h : b < s.size) (h1 : (((s[b].toNat : Nat) : Int) == 10) = true) : skipL note (s.data.toList.drop b) l = skipL false (s.data.toList.drop (b + 1)) (l + 1) := by
  rw [skip_at note l h, if_pos h1]
theorem sk_bl {s : ByteArray} {b l : Nat} {note : Bool} (h : b < s.size) (h1 : (((s[b].toNat : Nat) : Int) == 10) = false) (h2 : (note || ((s[b].toNat : Nat) : Int) == 32 || ((s[b].toNat : Nat) : Int) == 9) = true) :
    skipL note (s.data.toList.drop b) l = skipL note (s.data.toList.drop (b + 1)) l := by
  rw [skip_at note l h, if_neg (by rw [h1]; simp), if_pos h2]
theorem sk_ha {s : ByteArray} {b l : Nat} (h : b < s.size) (h1 : (((s[b].toNat : Nat) : Int) == 10) = false) (h2 : (((s[b].toNat : Nat) : Int) == 32) = false) (h3 : (((s[b].toNat : Nat) : Int) == 9) = false) (h4 : (((s[b].toNat : Nat) : Int) == 35) = true) :
    skipL false (s.data.toList.drop b) l = skipL true (s.data.toList.drop (b + 1)) l := by
  rw [skip_at false l h, if_neg (by rw [h1]; simp), if_neg (by rw [h2, h3]; simp), if_pos h4]
theorem sk_st {s : ByteArray} {b l : Nat} (h : b < s.size) (h1 : (((s[b].toNat : Nat) : Int) == 10) = false) (h2 : (((s[b].toNat : Nat) : Int) == 32) = false) (h3 : (((s[b].toNat : Nat) : Int) == 9) = false) (h4 : (((s[b].toNat : Nat) : Int) == 35) = false) :
    skipL false (s.data.toList.drop b) l = (s.data.toList.drop b, l) := by
  rw [skip_at false l h, if_neg (by rw [h1]; simp), if_neg (by rw [h2, h3]; simp), if_neg (by rw [h4]; simp)]

def posOf (w : World) (g : Nat) : Nat := (intOf ((w.cell? ⟨g, 1, none⟩).getD undef)).toNat
theorem posOf_rd {w : World} {g : Nat} {s : ByteArray} {a ln : Nat} (h : Rd w g s a ln) : posOf w g = a := by
  have h1 := h.c3.2.1
  unfold posOf
  rw [h1]
  simp [intOf]
theorem meas {w w' : World} {g : Nat} {s : ByteArray} {a ln a' ln' : Nat} (h : Rd w g s a ln) (h' : Rd w' g s a' ln') (h1 : a < a') (h2 : a < s.size) : s.size - posOf w' g < s.size - posOf w g := by
  rw [posOf_rd h, posOf_rd h']; omega

theorem left_any (g : Nat) (s : ByteArray) (a ln : Nat) (w : World) (hR : Rd w g s a ln) :
    Calls Try.prog 21 #[.pointer (some ⟨g, 0, none⟩)] w (Still (.bool (decide (a < s.size))) w g s a ln) := by
  obtain ⟨c0, c1, c2⟩ := hR.c3
  go_enter Try.func21, Try.ntmps21
  go_wp2
  go_quiet (fail)
  go_wp2
  go_ret
  exact ⟨rfl, hR.drewN _, only_drewN (only_refl _ _) _⟩

set_option maxHeartbeats 2000000 in
theorem skip_any (g : Nat) (s : ByteArray) (a ln : Nat) (w : World) (hR : Rd w g s a ln) (ha : a ≤ s.size) (hm : s.size ≤ 1000000) (hln : ln ≤ 1000000) :
    Calls Try.prog 20 #[.pointer (some ⟨g, 0, none⟩)] w (SkipPost w g s a ln) := by
  have hs : s.size ≤ 9223372036854775807 := by omega
  go_enter Try.func20, Try.ntmps20
  go_wp2
  go_step3
  go_wp2
  go_step3
  go_wp2
  go_loopw [2] (fun s2 wr => ∃ (note : Bool) (b l : Nat), s2 = .bool note ∧ a ≤ b ∧ b ≤ s.size ∧ ln ≤ l ∧ l + a ≤ ln + b ∧ Hid (skipL false (s.data.toList.drop a) ln = skipL note (s.data.toList.drop b) l) ∧ Rd wr g s b l ∧ w.grownBy wr (some g))
    (fun _ wr => s.size - posOf wr g)
  case atStart => exact ⟨false, a, ln, rfl, Nat.le_refl _, ha, Nat.le_refl _, Nat.le_refl _, rfl, hR, only_refl _ _⟩
  case round =>
    obtain ⟨note, b, l, rfl, h1, h2, h3, h4, HS, hRr, hG⟩ := hrel
    clear hR
    obtain ⟨c0, c1, c2⟩ := hRr.c3
    obtain ⟨f0, f1, f2⟩ := hRr.f3
    by_cases hlt : b < s.size
    · have hd : decide (b < s.size) = true := by simpa using hlt
      have hib : (b : Int) < (s.size : Int) := by omega
      cases e10 : (((s[b].toNat : Nat) : Int) == 10)
      · cases note
        · cases e32 : (((s[b].toNat : Nat) : Int) == 32)
          · cases e9 : (((s[b].toNat : Nat) : Int) == 9)
            · cases e35 : (((s[b].toNat : Nat) : Int) == 35)
              · have HE := hide (sk_st (l := l) hlt e10 e32 e9 e35)
                go_wp2_with fail
                refine (left_any g s b l _ hRr).mono ?_
                rintro e w2 ⟨rfl, hR2, hG2⟩
                have hG3 := only_trans hG hG2
                clear c0 c1 c2 f0 f1 f2 hG hG2
                obtain ⟨c0, c1, c2⟩ := hR2.c3
                obtain ⟨f0, f1, f2⟩ := hR2.f3
                go_wp2_with fail
                go_quiet (fail)
                go_wp2_with fail
                rw [Exit.noGoto_normal]
                go_end0
                exact ⟨rfl, b, l, h1, h2, h3, h4, HS.out.trans HE.out, hR2.drN _, only_drewN hG3 _⟩
              · go_wp2_with fail
                refine (left_any g s b l _ hRr).mono ?_
                rintro e w2 ⟨rfl, hR2, hG2⟩
                have hG3 := only_trans hG hG2
                clear c0 c1 c2 f0 f1 f2 hG hG2
                obtain ⟨c0, c1, c2⟩ := hR2.c3
                obtain ⟨f0, f1, f2⟩ := hR2.f3
                go_wp2_with fail
                go_quiet (fail)
                go_wp2_with fail
                go_roundw
                case rel => exact ⟨_, b + 1, l, rfl, by omega, by omega, by omega, by omega, HS.out.trans (sk_ha hlt e10 e32 e9 e35), (hR2.drN _).setA (a' := b + 1) (by omega), only_setCell (only_drewN hG3 _) _ _⟩
                case measure => exact meas hRr ((hR2.drN _).setA (a' := b + 1) (by omega)) (by omega) hlt
            · go_wp2_with fail
              refine (left_any g s b l _ hRr).mono ?_
              rintro e w2 ⟨rfl, hR2, hG2⟩
              have hG3 := only_trans hG hG2
              clear c0 c1 c2 f0 f1 f2 hG hG2
              obtain ⟨c0, c1, c2⟩ := hR2.c3
              obtain ⟨f0, f1, f2⟩ := hR2.f3
              go_wp2_with fail
              go_quiet (fail)
              go_wp2_with fail
              go_roundw
              case rel => exact ⟨_, b + 1, l, rfl, by omega, by omega, by omega, by omega, HS.out.trans (sk_bl hlt e10 (by rw [e9]; simp)), (hR2.drN _).setA (a' := b + 1) (by omega), only_setCell (only_drewN hG3 _) _ _⟩
              case measure => exact meas hRr ((hR2.drN _).setA (a' := b + 1) (by omega)) (by omega) hlt
          · go_wp2_with fail
            refine (left_any g s b l _ hRr).mono ?_
            rintro e w2 ⟨rfl, hR2, hG2⟩
            have hG3 := only_trans hG hG2
            clear c0 c1 c2 f0 f1 f2 hG hG2
            obtain ⟨c0, c1, c2⟩ := hR2.c3
            obtain ⟨f0, f1, f2⟩ := hR2.f3
            go_wp2_with fail
            go_quiet (fail)
            go_wp2_with fail
            go_roundw
            case rel => exact ⟨_, b + 1, l, rfl, by omega, by omega, by omega, by omega, HS.out.trans (sk_bl hlt e10 (by rw [e32]; simp)), (hR2.drN _).setA (a' := b + 1) (by omega), only_setCell (only_drewN hG3 _) _ _⟩
            case measure => exact meas hRr ((hR2.drN _).setA (a' := b + 1) (by omega)) (by omega) hlt
        · go_wp2_with fail
          refine (left_any g s b l _ hRr).mono ?_
          rintro e w2 ⟨rfl, hR2, hG2⟩
          have hG3 := only_trans hG hG2
          clear c0 c1 c2 f0 f1 f2 hG hG2
          obtain ⟨c0, c1, c2⟩ := hR2.c3
          obtain ⟨f0, f1, f2⟩ := hR2.f3
          go_wp2_with fail
          go_quiet (fail)
          go_wp2_with fail
          go_roundw
          case rel => exact ⟨_, b + 1, l, rfl, by omega, by omega, by omega, by omega, HS.out.trans (sk_bl hlt e10 (by simp)), (hR2.drN _).setA (a' := b + 1) (by omega), only_setCell (only_drewN hG3 _) _ _⟩
          case measure => exact meas hRr ((hR2.drN _).setA (a' := b + 1) (by omega)) (by omega) hlt
      · go_wp2_with fail
        refine (left_any g s b l _ hRr).mono ?_
        rintro e w2 ⟨rfl, hR2, hG2⟩
        have hG3 := only_trans hG hG2
        clear c0 c1 c2 f0 f1 f2 hG hG2
        obtain ⟨c0, c1, c2⟩ := hR2.c3
        obtain ⟨f0, f1, f2⟩ := hR2.f3
        go_wp2_with fail
        go_quiet (fail)
        go_wp2_with fail
        go_roundw
        case rel => exact ⟨_, b + 1, l + 1, rfl, by omega, by omega, by omega, by omega, HS.out.trans (sk_nl hlt e10), ((hR2.drN _).setL (a' := l + 1) (by omega)).setA (a' := b + 1) (by omega), only_setCell (only_setCell (only_drewN hG3 _) _ _) _ _⟩
        case measure => exact meas hRr (((hR2.drN _).setL (a' := l + 1) (by omega)).setA (a' := b + 1) (by omega)) (by omega) hlt
    · have hd : decide (b < s.size) = false := by simpa using hlt
      go_wp2_with fail
      refine (left_any g s b l _ hRr).mono ?_
      rintro e w2 ⟨rfl, hR2, hG2⟩
      have hG3 := only_trans hG hG2
      go_wp2_with fail
      rw [Exit.noGoto_normal]
      go_end0
      have hz : s.data.toList.drop b = [] := List.drop_eq_nil_of_le (by simpa using Nat.le_of_not_lt hlt)
      exact ⟨rfl, b, l, h1, h2, h3, h4, HS.out.trans (by rw [hz]; cases note <;> rfl), hR2, hG3⟩

end Go.Proofs.Ytegekeeffpfpjaa
