/- ByLetter of element and of its reference return the one element with a letter. The text has fewer than 2^32 - 15 bytes. -/
import Derived.Test.YtanfbfmchhbgfaaDoorElem
import Derived.Test.YtanfbfmchhbgfaaDoorShelf
import Derived.Test.YtanfbfmchhbgfaaDoorPlain
namespace Go.Proofs.YtanfbfmchhbgfaaDoor
open Go Go.RowKit

def byFrom (s : ByteArray) : Nat → Int → Int
  | 0, _ => 0
  | f + 1, c => if letter c = s then c else byFrom s f (c + 1)
/-- The element with a letter, 0 if there is none. -/
def byL (s : ByteArray) : Int := byFrom s 11 1
def byE (s : ByteArray) : Int := if byL s = 0 then 9 else 0

theorem byFrom_range (s : ByteArray) : ∀ (f : Nat) (c : Int), 1 ≤ c → byFrom s f c = 0 ∨ (c ≤ byFrom s f c ∧ byFrom s f c < c + f ∧ letter (byFrom s f c) = s)
  | 0, c, _ => Or.inl rfl
  | f + 1, c, h => by
    unfold byFrom
    split
    · right; rename_i e; exact ⟨Int.le_refl _, by omega, e⟩
    · rcases byFrom_range s f (c + 1) (by omega) with q | ⟨q1, q2, q3⟩
      · exact Or.inl q
      · exact Or.inr ⟨by omega, by omega, q3⟩
theorem byL_range (s : ByteArray) : byL s = 0 ∨ (1 ≤ byL s ∧ byL s ≤ 11 ∧ letter (byL s) = s) := by
  rcases byFrom_range s 11 1 (by omega) with q | ⟨q1, q2, q3⟩
  · exact Or.inl q
  · exact Or.inr ⟨q1, by have : byL s < 1 + 11 := q2; omega, q3⟩
theorem byFrom_none (s : ByteArray) : ∀ (f : Nat) (c : Int), (∀ k, c ≤ k → k < c + f → letter k ≠ s) → byFrom s f c = 0
  | 0, _, _ => rfl
  | f + 1, c, h => by
    unfold byFrom
    rw [if_neg (h c (by omega) (by omega)), byFrom_none s f (c + 1) (fun k h1 h2 => h k (by omega) (by omega))]
theorem letter_size {c : Int} (h : 1 ≤ c ∧ c ≤ 11) : (letter c).size = 1 := by
  unfold letter; rw [if_pos h]; rfl
theorem byL_size {s : ByteArray} (h : s.size ≠ 1) : byL s = 0 :=
  byFrom_none s 11 1 (fun k h1 h2 e => h (by rw [← e]; exact letter_size (by omega)))
theorem byL_letter (c : Int) (h : 1 ≤ c ∧ c ≤ 11) : byL (letter c) = c := eleven (P := fun c => byL (letter c) = c) (by decide +kernel) (by decide +kernel) (by decide +kernel) (by decide +kernel) (by decide +kernel) (by decide +kernel) (by decide +kernel) (by decide +kernel) (by decide +kernel) (by decide +kernel) (by decide +kernel) c h
theorem byL_byte (a : UInt8) : byL ⟨#[a]⟩ = Lib.indexByte lets a + 1 := by
  have : ∀ k : Fin 256, byL ⟨#[UInt8.ofNat k.1]⟩ = Lib.indexByte lets (UInt8.ofNat k.1) + 1 := by decide +kernel
  have h := this ⟨a.toNat, UInt8.toNat_lt a⟩
  simpa using h

theorem byl_any (s : ByteArray) (w : World) (hs : s.size < 4294967281) (hG : Glo w) :
    Calls Tryd.prog 18 #[.string s] w fun r w' => r = .returned (.tuple #[.int .i64 (byL s), .int .i64 (byE s)]) ∧ w = w' := by
  obtain ⟨m, hm⟩ := hG.2
  by_cases h1 : s.size = 1
  · obtain ⟨a, rfl⟩ : ∃ a : UInt8, s = ⟨#[a]⟩ := by
      obtain ⟨⟨l⟩⟩ := s
      match l, h1 with
      | [a], _ => exact ⟨a, rfl⟩
    have hI := Tryd.strings_Index_one ⟨lets.toArray⟩ a w
    have hb := byL_byte a
    have he : byE ⟨#[a]⟩ = if Lib.indexByte lets a < 0 then 9 else 0 := by
      unfold byE; rw [hb]
      have hr := byL_range ⟨#[a]⟩
      split <;> split <;> omega
    have hr := byL_range ⟨#[a]⟩
    rw [hb] at hr
    rw [hb, he]
    have e1 : (lets.toArray.toList) = lets := rfl
    have e2 : (⟨lets.toArray⟩ : ByteArray).data.toList = lets := rfl
    rw [e2] at hI
    have hlo : -1 ≤ Lib.indexByte lets a ∧ Lib.indexByte lets a ≤ 11 := by omega
    clear hb he hr h1 e1 e2 hm m hG hs
    generalize Lib.indexByte lets a = i at *
    have HI := Lib.hid hI
    clear hI
    by_cases hi : i < 0
    · rw [if_pos hi]
      obtain rfl : i = -1 := by omega
      clear hi hlo
      go_enter Tryd.func18, Tryd.ntmps18
      go_wp2_with fail
      refine HI.out.mono ?_
      rintro r w1 ⟨rfl, rfl⟩
      go_wp2_with fail
      go_ret2
      exact ⟨rfl, rfl⟩
    · rw [if_neg hi]
      go_enter Tryd.func18, Tryd.ntmps18
      go_wp2_with fail
      refine HI.out.mono ?_
      rintro r w1 ⟨rfl, rfl⟩
      go_wp2_with fail
      go_ret2
      exact ⟨rfl, rfl⟩
  · have hb := byL_size h1
    have he : byE s = 9 := by unfold byE; rw [if_pos hb]
    rw [hb, he]
    have hI := Tryd.strings_Index ⟨lets.toArray⟩ s m w (by decide) hm
    have HI := Lib.hid hI
    have h2 : ((s.size : Int) == 1) = false := by simp; omega
    have h3 : ((s.size : Int) != 1) = true := by simp; omega
    clear hI hG hm hb he h1
    generalize Lib.index _ s.data.toList = i at *
    go_enter Tryd.func18, Tryd.ntmps18
    go_wp2_with fail
    refine HI.out.mono ?_
    rintro r w1 ⟨rfl, rfl⟩
    go_wp2_with fail
    go_ret2
    exact ⟨rfl, rfl⟩

theorem byFrom_step (s : ByteArray) (f : Nat) (c : Int) : byFrom s (f + 1) c = if letter c = s then c else byFrom s f (c + 1) := rfl

theorem rbyl_any (s : ByteArray) (w : World) :
    Calls Tryd.prog 32 #[.string s] w fun r w' => r = .returned (.tuple #[.int .i64 (byL s), .int .i64 (byE s)]) ∧ Below w.heap.size w w' := by
  have hd := fun c w1 => rdesc_any c w1
  have Hd := Lib.hid hd
  have hr := byL_range s
  have Hr := Lib.hid hr
  have Hv : Hid (byE s = if byL s = 0 then 9 else 0) := rfl
  have Hb : Hid (byL s = byFrom s 11 1) := rfl
  generalize byE s = be at *
  generalize byL s = bl at *
  clear hd hr
  go_enter Tryd.func32, Tryd.ntmps32
  go_wp2_with fail
  go_loopw [4] (fun c wr => ∃ k : Nat, k ≤ 11 ∧ c = .int .i64 ((k : Int) + 1) ∧ Hid (bl = byFrom s (11 - k) ((k : Int) + 1)) ∧ Below w.heap.size w wr) (fun c _ => (12 - intOf c).toNat)
  case atStart => exact ⟨0, by omega, rfl, Hb, Below.refl _ _⟩
  case round =>
    obtain ⟨k, hk, rfl, hb, hB⟩ := hrel
    by_cases hlt : k < 11
    · have h1 : Hid (∃ L lo hi dg, infoOf ((k : Int) + 1) = infoV L lo hi dg ∧ letter ((k : Int) + 1) = L) := ⟨_, _, _, _, rfl, rfl⟩
      obtain ⟨L, lo, hi, dg, h1, h1'⟩ := h1.out
      have H1 := Lib.hid h1
      have H2 := Lib.hid h1'
      clear h1 h1'
      go_wp2_with fail
      refine (Hd.out _ _).mono ?_
      rintro r w1 ⟨rfl, hb1⟩
      rw [H1.out]
      unfold infoV
      have hB1 := below_then hB hb1
      have hz1 : w.heap.size ≤ w1.heap.size := hB1.size
      clear hb1 hB
      have hstep : bl = if L = s then (k : Int) + 1 else byFrom s (11 - (k + 1)) ((k : Int) + 1 + 1) := by
        rw [hb.out, show 11 - k = (11 - (k + 1)) + 1 by omega, byFrom_step, H2.out]
      by_cases he : L = s
      · subst he
        rw [if_pos rfl] at hstep
        have Hs := Lib.hid hstep
        clear hstep
        go_wp2_with fail
        go_ret2
        exact ⟨by rw [Hs.out, Hv.out, Hs.out, if_neg (by omega)]; rfl, hB1.alloc hz1 _⟩
      · rw [if_neg he] at hstep
        have Hs := Lib.hid hstep
        have hne := str_ne he
        clear hstep
        go_wp2_with fail
        go_roundw
        case rel => exact ⟨k + 1, by omega, by go_num, by rw [Hs.out]; unfold Hid; rfl, hB1.alloc hz1 _⟩
        case measure => simp [intOf]; omega
    · obtain rfl : k = 11 := by omega
      have Hz : Hid (bl = 0) := hb.out
      go_wp2_with fail
      go_ret2
      exact ⟨by rw [Hv.out, Hz.out, if_pos rfl]; rfl, hB⟩
end Go.Proofs.YtanfbfmchhbgfaaDoor
