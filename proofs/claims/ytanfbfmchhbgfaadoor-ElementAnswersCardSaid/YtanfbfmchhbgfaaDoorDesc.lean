/- Describe of element and of its reference return the row of the same table. No conditions. -/
import Derived.Test.YtanfbfmchhbgfaaDoorChecked
import Derived.WalkKit
import Derived.WalkLawsBesides
import Derived.Outline
import Derived.Lib.Hide
import Derived.Deep.QuietTactic
import Derived.BigQuiet
import Derived.IntWalk
import Derived.RegionTactic
namespace Go.Proofs.YtanfbfmchhbgfaaDoor
open Go Go.RowKit

/-- The table of the least and the greatest values, as the program lays it. -/
def bnds : List Int := [8000, 11000, 1800, 3300, 1800, 3300, -1000, 1000, -1000, 1000, 900, 1700, 2000, 3200, 2400, 3400, 2000, 3000, 4400, 6200, 2000, 2900]
def lets : List UInt8 := [80, 84, 68, 69, 78, 65, 66, 70, 71, 74, 75]
/-- Block 0 holds it. -/
def Bnds (w : World) : Prop := ∀ i, i < 22 → w.cell? ⟨0, i, none⟩ = some (.int .i64 (bnds.getD i 0))

def infoV (L : ByteArray) (a b d : Int) : Value := .agg #[.string L, .int .i64 a, .int .i64 b, .int .i64 d]

theorem desc_none (c : Int) (w : World) (h : c < 1 ∨ 11 < c) :
    Calls Tryd.prog 17 #[.int .i64 c] w fun e w' => e = .returned (.tuple #[infoV ⟨#[]⟩ 0 0 0, .int .i64 4]) ∧ Below w.heap.size w w' := by
  have h0 : c < 1 ∨ ¬ c < 1 := by omega
  rcases h0 with h1 | h1
  · clear h
    go_enter Tryd.func17, Tryd.ntmps17
    go_wp2
    exact bodyPost_ret (v := .tuple #[infoV ⟨#[]⟩ 0 0 0, .int .i64 4]) (by simp [results, Tryd.results17, go_sem, infoV]) rfl ⟨rfl, (Below.refl _ _).alloc (Nat.le_refl _) _⟩
  · have h2 : 11 < c := by omega
    clear h
    go_enter Tryd.func17, Tryd.ntmps17
    go_wp2
    exact bodyPost_ret (v := .tuple #[infoV ⟨#[]⟩ 0 0 0, .int .i64 4]) (by simp [results, Tryd.results17, go_sem, infoV]) rfl ⟨rfl, (Below.refl _ _).alloc (Nat.le_refl _) _⟩

theorem desc_more (k : Nat) (lo hi : Int) (L : ByteArray) (w : World) (hk : 1 ≤ k) (hk' : k < 11) (h0 : w.cell? ⟨0, k * 2, none⟩ = some (.int .i64 lo)) (h1 : w.cell? ⟨0, k * 2 + 1, none⟩ = some (.int .i64 hi))
    (hL : ∀ h : k < (ByteArray.mk #[80, 84, 68, 69, 78, 65, 66, 70, 71, 74, 75]).size, Utf8.encode (((ByteArray.mk #[80, 84, 68, 69, 78, 65, 66, 70, 71, 74, 75])[k]'h).toNat : Int) = L) :
    Calls Tryd.prog 17 #[.int .i64 (k + 1)] w fun e w' => e = .returned (.tuple #[infoV L lo hi 4, .int .i64 0]) ∧ Below w.heap.size w w' := by
  have hsz : 0 < w.heap.size := World.block_lt_of_cell? (a := ⟨0, k * 2, none⟩) _ h0
  have h1b : (((k : Int) + 1) == 1) = false := by simp; omega
  have HL := Lib.hid hL
  clear hL
  go_enter Tryd.func17, Tryd.ntmps17
  go_wp2
  have ek : IntKind.i64.wrap (k : Int) = k := IntWalk.i64_in _ (by omega)
  have e0 : (0 : Int) ≤ k := by omega
  have e1 : (k : Int) < 11 := by omega
  go_region
  clear ek
  go_wp2
  exact bodyPost_ret (v := .tuple #[infoV L lo hi 4, .int .i64 0]) (by simp [results, Tryd.results17, go_sem, infoV, HL.out]) rfl ⟨rfl, ((((Below.refl _ _).alloc (Nat.le_refl _) _).alloc (by simp) _).alloc (by simp; omega) _).drew⟩

theorem desc_1 (w : World) (h0 : w.cell? ⟨0, 0, none⟩ = some (.int .i64 8000)) (h1 : w.cell? ⟨0, 1, none⟩ = some (.int .i64 11000)) :
    Calls Tryd.prog 17 #[.int .i64 1] w fun e w' => e = .returned (.tuple #[infoV ⟨#[80]⟩ 8000 11000 5, .int .i64 0]) ∧ Below w.heap.size w w' := by
  have hsz : 0 < w.heap.size := World.block_lt_of_cell? (a := ⟨0, 0, none⟩) _ h0
  go_enter Tryd.func17, Tryd.ntmps17
  go_wp2
  go_region
  go_wp2
  exact bodyPost_ret (v := .tuple #[infoV ⟨#[80]⟩ 8000 11000 5, .int .i64 0]) (by simp [results, Tryd.results17, go_sem, infoV]; decide) rfl ⟨rfl, ((((Below.refl _ _).alloc (Nat.le_refl _) _).alloc (by simp) _).alloc (by simp; omega) _).drew⟩

def letter (c : Int) : ByteArray := if 1 ≤ c ∧ c ≤ 11 then ⟨#[lets.getD (c - 1).toNat 0]⟩ else ⟨#[]⟩
def least (c : Int) : Int := if 1 ≤ c ∧ c ≤ 11 then bnds.getD (2 * (c - 1).toNat) 0 else 0
def most (c : Int) : Int := if 1 ≤ c ∧ c ≤ 11 then bnds.getD (2 * (c - 1).toNat + 1) 0 else 0
def digits (c : Int) : Int := if c = 1 then 5 else if 1 ≤ c ∧ c ≤ 11 then 4 else 0
def descE (c : Int) : Int := if 1 ≤ c ∧ c ≤ 11 then 0 else 4
def infoOf (c : Int) : Value := infoV (letter c) (least c) (most c) (digits c)

theorem eleven {P : Int → Prop} (h1 : P 1) (h2 : P 2) (h3 : P 3) (h4 : P 4) (h5 : P 5) (h6 : P 6) (h7 : P 7) (h8 : P 8) (h9 : P 9) (h10 : P 10) (h11 : P 11) (c : Int) (h : 1 ≤ c ∧ c ≤ 11) : P c := by
  have : c = 1 ∨ c = 2 ∨ c = 3 ∨ c = 4 ∨ c = 5 ∨ c = 6 ∨ c = 7 ∨ c = 8 ∨ c = 9 ∨ c = 10 ∨ c = 11 := by omega
  rcases this with rfl | rfl | rfl | rfl | rfl | rfl | rfl | rfl | rfl | rfl | rfl <;> assumption

def DescOk (f : FuncId) (w : World) (c : Int) : Prop :=
  Calls Tryd.prog f #[.int .i64 c] w fun e w' => e = .returned (.tuple #[infoOf c, .int .i64 (descE c)]) ∧ Below w.heap.size w w'

theorem desc_any (c : Int) (w : World) (hB : Bnds w) : DescOk 17 w c := by
  by_cases h : 1 ≤ c ∧ c ≤ 11
  · revert c
    intro c h
    refine eleven (P := DescOk 17 w) ?_ ?_ ?_ ?_ ?_ ?_ ?_ ?_ ?_ ?_ ?_ c h
    · exact desc_1 w (hB 0 (by omega)) (hB 1 (by omega))
    · exact desc_more 1 _ _ _ w (by omega) (by omega) (hB 2 (by omega)) (hB 3 (by omega)) (fun _ => by kernel_rfl)
    · exact desc_more 2 _ _ _ w (by omega) (by omega) (hB 4 (by omega)) (hB 5 (by omega)) (fun _ => by kernel_rfl)
    · exact desc_more 3 _ _ _ w (by omega) (by omega) (hB 6 (by omega)) (hB 7 (by omega)) (fun _ => by kernel_rfl)
    · exact desc_more 4 _ _ _ w (by omega) (by omega) (hB 8 (by omega)) (hB 9 (by omega)) (fun _ => by kernel_rfl)
    · exact desc_more 5 _ _ _ w (by omega) (by omega) (hB 10 (by omega)) (hB 11 (by omega)) (fun _ => by kernel_rfl)
    · exact desc_more 6 _ _ _ w (by omega) (by omega) (hB 12 (by omega)) (hB 13 (by omega)) (fun _ => by kernel_rfl)
    · exact desc_more 7 _ _ _ w (by omega) (by omega) (hB 14 (by omega)) (hB 15 (by omega)) (fun _ => by kernel_rfl)
    · exact desc_more 8 _ _ _ w (by omega) (by omega) (hB 16 (by omega)) (hB 17 (by omega)) (fun _ => by kernel_rfl)
    · exact desc_more 9 _ _ _ w (by omega) (by omega) (hB 18 (by omega)) (hB 19 (by omega)) (fun _ => by kernel_rfl)
    · exact desc_more 10 _ _ _ w (by omega) (by omega) (hB 20 (by omega)) (hB 21 (by omega)) (fun _ => by kernel_rfl)
  · have := desc_none c w (by omega)
    unfold DescOk
    have h1 : c ≠ 1 := by omega
    have e1 : infoOf c = infoV ⟨#[]⟩ 0 0 0 := by simp [infoOf, letter, least, most, digits, h, h1]
    have e2 : descE c = 4 := by simp [descE, h]
    rw [e1, e2]; exact this

end Go.Proofs.YtanfbfmchhbgfaaDoor
