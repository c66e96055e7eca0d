/- Describe of the reference of element returns the row of the same table. No conditions. -/
import Derived.Test.YtanfbfmchhbgfaaDoorDesc
namespace Go.Proofs.YtanfbfmchhbgfaaDoor
open Go Go.RowKit

theorem rdesc_none (c : Int) (w : World) (h : c < 1 ∨ 11 < c) :
    Calls Tryd.prog 23 #[.int .i64 c] w fun e w' => e = .returned (.tuple #[infoV ⟨#[]⟩ 0 0 0, .int .i64 4]) ∧ Below w.heap.size w w' := by
  have h0 : c < 1 ∨ ¬ c < 1 := by omega
  rcases h0 with h1 | h1
  · clear h
    go_enter Tryd.func23, Tryd.ntmps23
    go_wp2
    exact bodyPost_ret (v := .tuple #[infoV ⟨#[]⟩ 0 0 0, .int .i64 4]) (by simp [results, Tryd.results23, go_sem, infoV]) rfl ⟨rfl, (Below.refl _ _).alloc (Nat.le_refl _) _⟩
  · have h2 : 11 < c := by omega
    clear h
    go_enter Tryd.func23, Tryd.ntmps23
    go_wp2
    exact bodyPost_ret (v := .tuple #[infoV ⟨#[]⟩ 0 0 0, .int .i64 4]) (by simp [results, Tryd.results23, go_sem, infoV]) rfl ⟨rfl, (Below.refl _ _).alloc (Nat.le_refl _) _⟩

set_option maxHeartbeats 2000000 in
theorem rdesc_1 (w : World) : DescOk 23 w 1 := by
  unfold DescOk
  rw [show infoOf 1 = infoV ⟨#[80]⟩ (8000) (11000) 5 from rfl, show descE 1 = 0 from rfl]
  go_enter Tryd.func23, Tryd.ntmps23
  go_wp2
  exact bodyPost_ret (v := .tuple #[infoV ⟨#[80]⟩ (8000) (11000) 5, .int .i64 0]) (by simp [results, Tryd.results23, go_sem, infoV]) rfl ⟨rfl, ((Below.refl _ _).alloc (Nat.le_refl _) _).alloc (by simp) _⟩

set_option maxHeartbeats 2000000 in
theorem rdesc_2 (w : World) : DescOk 23 w 2 := by
  unfold DescOk
  rw [show infoOf 2 = infoV ⟨#[84]⟩ (1800) (3300) 4 from rfl, show descE 2 = 0 from rfl]
  go_enter Tryd.func23, Tryd.ntmps23
  go_wp2
  exact bodyPost_ret (v := .tuple #[infoV ⟨#[84]⟩ (1800) (3300) 4, .int .i64 0]) (by simp [results, Tryd.results23, go_sem, infoV]) rfl ⟨rfl, ((Below.refl _ _).alloc (Nat.le_refl _) _).alloc (by simp) _⟩

set_option maxHeartbeats 2000000 in
theorem rdesc_3 (w : World) : DescOk 23 w 3 := by
  unfold DescOk
  rw [show infoOf 3 = infoV ⟨#[68]⟩ (1800) (3300) 4 from rfl, show descE 3 = 0 from rfl]
  go_enter Tryd.func23, Tryd.ntmps23
  go_wp2
  exact bodyPost_ret (v := .tuple #[infoV ⟨#[68]⟩ (1800) (3300) 4, .int .i64 0]) (by simp [results, Tryd.results23, go_sem, infoV]) rfl ⟨rfl, ((Below.refl _ _).alloc (Nat.le_refl _) _).alloc (by simp) _⟩

set_option maxHeartbeats 2000000 in
theorem rdesc_4 (w : World) : DescOk 23 w 4 := by
  unfold DescOk
  rw [show infoOf 4 = infoV ⟨#[69]⟩ (-1000) (1000) 4 from rfl, show descE 4 = 0 from rfl]
  go_enter Tryd.func23, Tryd.ntmps23
  go_wp2
  exact bodyPost_ret (v := .tuple #[infoV ⟨#[69]⟩ (-1000) (1000) 4, .int .i64 0]) (by simp [results, Tryd.results23, go_sem, infoV]) rfl ⟨rfl, ((Below.refl _ _).alloc (Nat.le_refl _) _).alloc (by simp) _⟩

set_option maxHeartbeats 2000000 in
theorem rdesc_5 (w : World) : DescOk 23 w 5 := by
  unfold DescOk
  rw [show infoOf 5 = infoV ⟨#[78]⟩ (-1000) (1000) 4 from rfl, show descE 5 = 0 from rfl]
  go_enter Tryd.func23, Tryd.ntmps23
  go_wp2
  exact bodyPost_ret (v := .tuple #[infoV ⟨#[78]⟩ (-1000) (1000) 4, .int .i64 0]) (by simp [results, Tryd.results23, go_sem, infoV]) rfl ⟨rfl, ((Below.refl _ _).alloc (Nat.le_refl _) _).alloc (by simp) _⟩

set_option maxHeartbeats 2000000 in
theorem rdesc_6 (w : World) : DescOk 23 w 6 := by
  unfold DescOk
  rw [show infoOf 6 = infoV ⟨#[65]⟩ (900) (1700) 4 from rfl, show descE 6 = 0 from rfl]
  go_enter Tryd.func23, Tryd.ntmps23
  go_wp2
  exact bodyPost_ret (v := .tuple #[infoV ⟨#[65]⟩ (900) (1700) 4, .int .i64 0]) (by simp [results, Tryd.results23, go_sem, infoV]) rfl ⟨rfl, ((Below.refl _ _).alloc (Nat.le_refl _) _).alloc (by simp) _⟩

set_option maxHeartbeats 2000000 in
theorem rdesc_7 (w : World) : DescOk 23 w 7 := by
  unfold DescOk
  rw [show infoOf 7 = infoV ⟨#[66]⟩ (2000) (3200) 4 from rfl, show descE 7 = 0 from rfl]
  go_enter Tryd.func23, Tryd.ntmps23
  go_wp2
  exact bodyPost_ret (v := .tuple #[infoV ⟨#[66]⟩ (2000) (3200) 4, .int .i64 0]) (by simp [results, Tryd.results23, go_sem, infoV]) rfl ⟨rfl, ((Below.refl _ _).alloc (Nat.le_refl _) _).alloc (by simp) _⟩

set_option maxHeartbeats 2000000 in
theorem rdesc_8 (w : World) : DescOk 23 w 8 := by
  unfold DescOk
  rw [show infoOf 8 = infoV ⟨#[70]⟩ (2400) (3400) 4 from rfl, show descE 8 = 0 from rfl]
  go_enter Tryd.func23, Tryd.ntmps23
  go_wp2
  exact bodyPost_ret (v := .tuple #[infoV ⟨#[70]⟩ (2400) (3400) 4, .int .i64 0]) (by simp [results, Tryd.results23, go_sem, infoV]) rfl ⟨rfl, ((Below.refl _ _).alloc (Nat.le_refl _) _).alloc (by simp) _⟩

set_option maxHeartbeats 2000000 in
theorem rdesc_9 (w : World) : DescOk 23 w 9 := by
  unfold DescOk
  rw [show infoOf 9 = infoV ⟨#[71]⟩ (2000) (3000) 4 from rfl, show descE 9 = 0 from rfl]
  go_enter Tryd.func23, Tryd.ntmps23
  go_wp2
  exact bodyPost_ret (v := .tuple #[infoV ⟨#[71]⟩ (2000) (3000) 4, .int .i64 0]) (by simp [results, Tryd.results23, go_sem, infoV]) rfl ⟨rfl, ((Below.refl _ _).alloc (Nat.le_refl _) _).alloc (by simp) _⟩

set_option maxHeartbeats 2000000 in
theorem rdesc_10 (w : World) : DescOk 23 w 10 := by
  unfold DescOk
  rw [show infoOf 10 = infoV ⟨#[74]⟩ (4400) (6200) 4 from rfl, show descE 10 = 0 from rfl]
  go_enter Tryd.func23, Tryd.ntmps23
  go_wp2
  exact bodyPost_ret (v := .tuple #[infoV ⟨#[74]⟩ (4400) (6200) 4, .int .i64 0]) (by simp [results, Tryd.results23, go_sem, infoV]) rfl ⟨rfl, ((Below.refl _ _).alloc (Nat.le_refl _) _).alloc (by simp) _⟩

set_option maxHeartbeats 2000000 in
theorem rdesc_11 (w : World) : DescOk 23 w 11 := by
  unfold DescOk
  rw [show infoOf 11 = infoV ⟨#[75]⟩ (2000) (2900) 4 from rfl, show descE 11 = 0 from rfl]
  go_enter Tryd.func23, Tryd.ntmps23
  go_wp2
  exact bodyPost_ret (v := .tuple #[infoV ⟨#[75]⟩ (2000) (2900) 4, .int .i64 0]) (by simp [results, Tryd.results23, go_sem, infoV]) rfl ⟨rfl, ((Below.refl _ _).alloc (Nat.le_refl _) _).alloc (by simp) _⟩

theorem rdesc_any (c : Int) (w : World) : DescOk 23 w c := by
  by_cases h : 1 ≤ c ∧ c ≤ 11
  · exact eleven (P := DescOk 23 w) (rdesc_1 w) (rdesc_2 w) (rdesc_3 w) (rdesc_4 w) (rdesc_5 w) (rdesc_6 w) (rdesc_7 w) (rdesc_8 w) (rdesc_9 w) (rdesc_10 w) (rdesc_11 w) c h
  · have := rdesc_none c w (by omega)
    unfold DescOk
    have h1 : c ≠ 1 := by omega
    have e1 : infoOf c = infoV ⟨#[]⟩ 0 0 0 := by simp [infoOf, letter, least, most, digits, h, h1]
    have e2 : descE c = 4 := by simp [descE, h]
    rw [e1, e2]; exact this
end Go.Proofs.YtanfbfmchhbgfaaDoor
