/- Part 4 of the proof: laws on memory and what functions of the program return. No conditions but those that each theorem names. -/
import Derived.Test.YtmmmebdgannpgaaGreatDoorR03
set_option linter.unusedVariables false
set_option linter.unusedSimpArgs false
/- Scores of tables: those of the reference, and the numerators and denominators of the program. Printed by gen_scos.py. -/
namespace Go.Proofs.YtmmmebdgannpgaaGreatDoor
open Go Go.RowKit

theorem fine_all {h a m o : Int} (hf : fineT h a m o) : (0 ≤ h ∧ h ≤ 10000) ∧ (0 ≤ a ∧ a ≤ 10000) ∧ (0 ≤ m ∧ m ≤ 10000) ∧ (0 ≤ o ∧ o ≤ 10000) :=
  ⟨hf h (by simp), hf a (by simp), hf m (by simp), hf o (by simp)⟩
theorem prod_bnd {x y b c : Int} (hx : 0 ≤ x ∧ x ≤ b) (hy : 0 ≤ y ∧ y ≤ c) : 0 ≤ x * y ∧ x * y ≤ b * c :=
  ⟨Int.mul_nonneg hx.1 hy.1, Int.mul_le_mul hx.2 hy.2 hy.1 (by omega)⟩
def heidN (h a m o : Int) : Int := 2 * (h * o - a * m)
def heidD (h a m o : Int) : Int := (h + m) * (m + o) + (h + a) * (a + o)
theorem ratio_bad (h a m o num den : Int) (hf : ¬ fineT h a m o) (w : World) : Calls Tryz.prog 78 #[tabV h a m o, .int .i64 num, .int .i64 den] w (RedIs (0, 0, 1) w) := by
  have := ratio_any h a m o num den w
  rw [show ofT h a m o num den = (0, 0, 1) from if_neg hf] at this
  exact this
set_option maxHeartbeats 1000000 in
theorem rDetection_any (h a m o : Int) (w : World) : Calls Tryz.prog 56 #[tabV h a m o] w (RedIs (ofT h a m o (h) (h + m)) w) := by
  by_cases hf : fineT h a m o
  · obtain ⟨⟨h0, h1⟩, ⟨a0, a1⟩, ⟨m0, m1⟩, ⟨o0, o1⟩⟩ := fine_all hf
    obtain ⟨p0, p1⟩ := prod_bnd ⟨h0, h1⟩ ⟨o0, o1⟩
    obtain ⟨q0, q1⟩ := prod_bnd ⟨a0, a1⟩ ⟨m0, m1⟩
    obtain ⟨r0, r1⟩ := prod_bnd (x := h + m) (y := m + o) (b := 20000) (c := 20000) (by omega) (by omega)
    obtain ⟨s0, s1⟩ := prod_bnd (x := h + a) (y := a + o) (b := 20000) (c := 20000) (by omega) (by omega)
    have HR := Lib.hid (fun w => ratio_any h a m o (h) (h + m) w)
    clear hf
    generalize ofT h a m o (h) (h + m) = x at *
    have HS : Hid (CivAt w (w.heap.size + 1) [.int .i64 0, .int .i64 0] ((w.alloc (.cells #[.int .i64 h, .int .i64 a, .int .i64 m, .int .i64 o] 33)).alloc (.cells #[.int .i64 0, .int .i64 0] 24))) := ⟨RowAt.new _ [.int .i64 0, .int .i64 0] (by simp) _ (by simp), ((Below.refl _ _).alloc (Nat.le_refl _) _).alloc (by simp) _⟩
    unfold tabV at HR ⊢
    go_enter Tryz.func56, Tryz.ntmps56
    go_wp2_with fail
    refine (HR.out _).mono ?_
    rintro e w1 ⟨rfl, hb⟩
    have HW : Hid (CivAt w (w.heap.size + 1) [.int .i64 0, .int .i64 0] w1) := HS.out.new hb
    clear hb HS
    obtain ⟨x1, x2, x3⟩ := x
    simp only [frV]
    go_wp2_with (first
      | ((first | with_reducible refine gate_st ?_ | with_reducible refine gate_stw ?_)
         refine row_store rfl _ _ rfl (w.heap.size + 1) rfl [.int .i64 0, .int .i64 0] [.int .i64 x1, .int .i64 x2] rfl HW.out.1 rfl rowT_fr (List.all_eq_true.1 rfl) ?_
         intro wz HRow Hap)
      | fail)
    exact ret_row2 rfl _ _ (.int .i64 x3) HRow rowT_fr rfl rfl rfl ⟨rfl, HW.out.2.trans (Hap.below (by omega))⟩
  · rw [show ofT h a m o (h) (h + m) = (0, 0, 1) from if_neg hf]
    have HR := Lib.hid (fun n d w => ratio_bad h a m o n d hf w)
    clear hf
    generalize ((0, 0, 1) : Int × Int × Int) = x at *
    have HS : Hid (CivAt w (w.heap.size + 1) [.int .i64 0, .int .i64 0] ((w.alloc (.cells #[.int .i64 h, .int .i64 a, .int .i64 m, .int .i64 o] 33)).alloc (.cells #[.int .i64 0, .int .i64 0] 24))) := ⟨RowAt.new _ [.int .i64 0, .int .i64 0] (by simp) _ (by simp), ((Below.refl _ _).alloc (Nat.le_refl _) _).alloc (by simp) _⟩
    unfold tabV at HR ⊢
    go_enter Tryz.func56, Tryz.ntmps56
    go_wp2_with fail
    refine (HR.out _ _ _).mono ?_
    rintro e w1 ⟨rfl, hb⟩
    have HW : Hid (CivAt w (w.heap.size + 1) [.int .i64 0, .int .i64 0] w1) := HS.out.new hb
    clear hb HS
    obtain ⟨x1, x2, x3⟩ := x
    simp only [frV]
    go_wp2_with (first
      | ((first | with_reducible refine gate_st ?_ | with_reducible refine gate_stw ?_)
         refine row_store rfl _ _ rfl (w.heap.size + 1) rfl [.int .i64 0, .int .i64 0] [.int .i64 x1, .int .i64 x2] rfl HW.out.1 rfl rowT_fr (List.all_eq_true.1 rfl) ?_
         intro wz HRow Hap)
      | fail)
    exact ret_row2 rfl _ _ (.int .i64 x3) HRow rowT_fr rfl rfl rfl ⟨rfl, HW.out.2.trans (Hap.below (by omega))⟩
set_option maxHeartbeats 1000000 in
theorem rFalseAlarm_any (h a m o : Int) (w : World) : Calls Tryz.prog 58 #[tabV h a m o] w (RedIs (ofT h a m o (a) (h + a)) w) := by
  by_cases hf : fineT h a m o
  · obtain ⟨⟨h0, h1⟩, ⟨a0, a1⟩, ⟨m0, m1⟩, ⟨o0, o1⟩⟩ := fine_all hf
    obtain ⟨p0, p1⟩ := prod_bnd ⟨h0, h1⟩ ⟨o0, o1⟩
    obtain ⟨q0, q1⟩ := prod_bnd ⟨a0, a1⟩ ⟨m0, m1⟩
    obtain ⟨r0, r1⟩ := prod_bnd (x := h + m) (y := m + o) (b := 20000) (c := 20000) (by omega) (by omega)
    obtain ⟨s0, s1⟩ := prod_bnd (x := h + a) (y := a + o) (b := 20000) (c := 20000) (by omega) (by omega)
    have HR := Lib.hid (fun w => ratio_any h a m o (a) (h + a) w)
    clear hf
    generalize ofT h a m o (a) (h + a) = x at *
    have HS : Hid (CivAt w (w.heap.size + 1) [.int .i64 0, .int .i64 0] ((w.alloc (.cells #[.int .i64 h, .int .i64 a, .int .i64 m, .int .i64 o] 33)).alloc (.cells #[.int .i64 0, .int .i64 0] 24))) := ⟨RowAt.new _ [.int .i64 0, .int .i64 0] (by simp) _ (by simp), ((Below.refl _ _).alloc (Nat.le_refl _) _).alloc (by simp) _⟩
    unfold tabV at HR ⊢
    go_enter Tryz.func58, Tryz.ntmps58
    go_wp2_with fail
    refine (HR.out _).mono ?_
    rintro e w1 ⟨rfl, hb⟩
    have HW : Hid (CivAt w (w.heap.size + 1) [.int .i64 0, .int .i64 0] w1) := HS.out.new hb
    clear hb HS
    obtain ⟨x1, x2, x3⟩ := x
    simp only [frV]
    go_wp2_with (first
      | ((first | with_reducible refine gate_st ?_ | with_reducible refine gate_stw ?_)
         refine row_store rfl _ _ rfl (w.heap.size + 1) rfl [.int .i64 0, .int .i64 0] [.int .i64 x1, .int .i64 x2] rfl HW.out.1 rfl rowT_fr (List.all_eq_true.1 rfl) ?_
         intro wz HRow Hap)
      | fail)
    exact ret_row2 rfl _ _ (.int .i64 x3) HRow rowT_fr rfl rfl rfl ⟨rfl, HW.out.2.trans (Hap.below (by omega))⟩
  · rw [show ofT h a m o (a) (h + a) = (0, 0, 1) from if_neg hf]
    have HR := Lib.hid (fun n d w => ratio_bad h a m o n d hf w)
    clear hf
    generalize ((0, 0, 1) : Int × Int × Int) = x at *
    have HS : Hid (CivAt w (w.heap.size + 1) [.int .i64 0, .int .i64 0] ((w.alloc (.cells #[.int .i64 h, .int .i64 a, .int .i64 m, .int .i64 o] 33)).alloc (.cells #[.int .i64 0, .int .i64 0] 24))) := ⟨RowAt.new _ [.int .i64 0, .int .i64 0] (by simp) _ (by simp), ((Below.refl _ _).alloc (Nat.le_refl _) _).alloc (by simp) _⟩
    unfold tabV at HR ⊢
    go_enter Tryz.func58, Tryz.ntmps58
    go_wp2_with fail
    refine (HR.out _ _ _).mono ?_
    rintro e w1 ⟨rfl, hb⟩
    have HW : Hid (CivAt w (w.heap.size + 1) [.int .i64 0, .int .i64 0] w1) := HS.out.new hb
    clear hb HS
    obtain ⟨x1, x2, x3⟩ := x
    simp only [frV]
    go_wp2_with (first
      | ((first | with_reducible refine gate_st ?_ | with_reducible refine gate_stw ?_)
         refine row_store rfl _ _ rfl (w.heap.size + 1) rfl [.int .i64 0, .int .i64 0] [.int .i64 x1, .int .i64 x2] rfl HW.out.1 rfl rowT_fr (List.all_eq_true.1 rfl) ?_
         intro wz HRow Hap)
      | fail)
    exact ret_row2 rfl _ _ (.int .i64 x3) HRow rowT_fr rfl rfl rfl ⟨rfl, HW.out.2.trans (Hap.below (by omega))⟩
set_option maxHeartbeats 1000000 in
theorem rThreat_any (h a m o : Int) (w : World) : Calls Tryz.prog 59 #[tabV h a m o] w (RedIs (ofT h a m o (h) (h + a + m)) w) := by
  by_cases hf : fineT h a m o
  · obtain ⟨⟨h0, h1⟩, ⟨a0, a1⟩, ⟨m0, m1⟩, ⟨o0, o1⟩⟩ := fine_all hf
    obtain ⟨p0, p1⟩ := prod_bnd ⟨h0, h1⟩ ⟨o0, o1⟩
    obtain ⟨q0, q1⟩ := prod_bnd ⟨a0, a1⟩ ⟨m0, m1⟩
    obtain ⟨r0, r1⟩ := prod_bnd (x := h + m) (y := m + o) (b := 20000) (c := 20000) (by omega) (by omega)
    obtain ⟨s0, s1⟩ := prod_bnd (x := h + a) (y := a + o) (b := 20000) (c := 20000) (by omega) (by omega)
    have HR := Lib.hid (fun w => ratio_any h a m o (h) (h + a + m) w)
    clear hf
    generalize ofT h a m o (h) (h + a + m) = x at *
    have HS : Hid (CivAt w (w.heap.size + 1) [.int .i64 0, .int .i64 0] ((w.alloc (.cells #[.int .i64 h, .int .i64 a, .int .i64 m, .int .i64 o] 33)).alloc (.cells #[.int .i64 0, .int .i64 0] 24))) := ⟨RowAt.new _ [.int .i64 0, .int .i64 0] (by simp) _ (by simp), ((Below.refl _ _).alloc (Nat.le_refl _) _).alloc (by simp) _⟩
    unfold tabV at HR ⊢
    go_enter Tryz.func59, Tryz.ntmps59
    go_wp2_with fail
    refine (HR.out _).mono ?_
    rintro e w1 ⟨rfl, hb⟩
    have HW : Hid (CivAt w (w.heap.size + 1) [.int .i64 0, .int .i64 0] w1) := HS.out.new hb
    clear hb HS
    obtain ⟨x1, x2, x3⟩ := x
    simp only [frV]
    go_wp2_with (first
      | ((first | with_reducible refine gate_st ?_ | with_reducible refine gate_stw ?_)
         refine row_store rfl _ _ rfl (w.heap.size + 1) rfl [.int .i64 0, .int .i64 0] [.int .i64 x1, .int .i64 x2] rfl HW.out.1 rfl rowT_fr (List.all_eq_true.1 rfl) ?_
         intro wz HRow Hap)
      | fail)
    exact ret_row2 rfl _ _ (.int .i64 x3) HRow rowT_fr rfl rfl rfl ⟨rfl, HW.out.2.trans (Hap.below (by omega))⟩
  · rw [show ofT h a m o (h) (h + a + m) = (0, 0, 1) from if_neg hf]
    have HR := Lib.hid (fun n d w => ratio_bad h a m o n d hf w)
    clear hf
    generalize ((0, 0, 1) : Int × Int × Int) = x at *
    have HS : Hid (CivAt w (w.heap.size + 1) [.int .i64 0, .int .i64 0] ((w.alloc (.cells #[.int .i64 h, .int .i64 a, .int .i64 m, .int .i64 o] 33)).alloc (.cells #[.int .i64 0, .int .i64 0] 24))) := ⟨RowAt.new _ [.int .i64 0, .int .i64 0] (by simp) _ (by simp), ((Below.refl _ _).alloc (Nat.le_refl _) _).alloc (by simp) _⟩
    unfold tabV at HR ⊢
    go_enter Tryz.func59, Tryz.ntmps59
    go_wp2_with fail
    refine (HR.out _ _ _).mono ?_
    rintro e w1 ⟨rfl, hb⟩
    have HW : Hid (CivAt w (w.heap.size + 1) [.int .i64 0, .int .i64 0] w1) := HS.out.new hb
    clear hb HS
    obtain ⟨x1, x2, x3⟩ := x
    simp only [frV]
    go_wp2_with (first
      | ((first | with_reducible refine gate_st ?_ | with_reducible refine gate_stw ?_)
         refine row_store rfl _ _ rfl (w.heap.size + 1) rfl [.int .i64 0, .int .i64 0] [.int .i64 x1, .int .i64 x2] rfl HW.out.1 rfl rowT_fr (List.all_eq_true.1 rfl) ?_
         intro wz HRow Hap)
      | fail)
    exact ret_row2 rfl _ _ (.int .i64 x3) HRow rowT_fr rfl rfl rfl ⟨rfl, HW.out.2.trans (Hap.below (by omega))⟩
set_option maxHeartbeats 1000000 in
theorem rHeidke_any (h a m o : Int) (w : World) : Calls Tryz.prog 60 #[tabV h a m o] w (RedIs (ofT h a m o (2 * (h * o - a * m)) ((h + m) * (m + o) + (h + a) * (a + o))) w) := by
  by_cases hf : fineT h a m o
  · obtain ⟨⟨h0, h1⟩, ⟨a0, a1⟩, ⟨m0, m1⟩, ⟨o0, o1⟩⟩ := fine_all hf
    obtain ⟨p0, p1⟩ := prod_bnd ⟨h0, h1⟩ ⟨o0, o1⟩
    obtain ⟨q0, q1⟩ := prod_bnd ⟨a0, a1⟩ ⟨m0, m1⟩
    obtain ⟨r0, r1⟩ := prod_bnd (x := h + m) (y := m + o) (b := 20000) (c := 20000) (by omega) (by omega)
    obtain ⟨s0, s1⟩ := prod_bnd (x := h + a) (y := a + o) (b := 20000) (c := 20000) (by omega) (by omega)
    have HR := Lib.hid (fun w => ratio_any h a m o (2 * (h * o - a * m)) ((h + m) * (m + o) + (h + a) * (a + o)) w)
    clear hf
    generalize ofT h a m o (2 * (h * o - a * m)) ((h + m) * (m + o) + (h + a) * (a + o)) = x at *
    have HS : Hid (CivAt w (w.heap.size + 1) [.int .i64 0, .int .i64 0] ((w.alloc (.cells #[.int .i64 h, .int .i64 a, .int .i64 m, .int .i64 o] 33)).alloc (.cells #[.int .i64 0, .int .i64 0] 24))) := ⟨RowAt.new _ [.int .i64 0, .int .i64 0] (by simp) _ (by simp), ((Below.refl _ _).alloc (Nat.le_refl _) _).alloc (by simp) _⟩
    unfold tabV at HR ⊢
    go_enter Tryz.func60, Tryz.ntmps60
    go_wp2_with fail
    refine (HR.out _).mono ?_
    rintro e w1 ⟨rfl, hb⟩
    have HW : Hid (CivAt w (w.heap.size + 1) [.int .i64 0, .int .i64 0] w1) := HS.out.new hb
    clear hb HS
    obtain ⟨x1, x2, x3⟩ := x
    simp only [frV]
    go_wp2_with (first
      | ((first | with_reducible refine gate_st ?_ | with_reducible refine gate_stw ?_)
         refine row_store rfl _ _ rfl (w.heap.size + 1) rfl [.int .i64 0, .int .i64 0] [.int .i64 x1, .int .i64 x2] rfl HW.out.1 rfl rowT_fr (List.all_eq_true.1 rfl) ?_
         intro wz HRow Hap)
      | fail)
    exact ret_row2 rfl _ _ (.int .i64 x3) HRow rowT_fr rfl rfl rfl ⟨rfl, HW.out.2.trans (Hap.below (by omega))⟩
  · rw [show ofT h a m o (2 * (h * o - a * m)) ((h + m) * (m + o) + (h + a) * (a + o)) = (0, 0, 1) from if_neg hf]
    have HR := Lib.hid (fun n d w => ratio_bad h a m o n d hf w)
    clear hf
    generalize ((0, 0, 1) : Int × Int × Int) = x at *
    have HS : Hid (CivAt w (w.heap.size + 1) [.int .i64 0, .int .i64 0] ((w.alloc (.cells #[.int .i64 h, .int .i64 a, .int .i64 m, .int .i64 o] 33)).alloc (.cells #[.int .i64 0, .int .i64 0] 24))) := ⟨RowAt.new _ [.int .i64 0, .int .i64 0] (by simp) _ (by simp), ((Below.refl _ _).alloc (Nat.le_refl _) _).alloc (by simp) _⟩
    unfold tabV at HR ⊢
    go_enter Tryz.func60, Tryz.ntmps60
    go_wp2_with fail
    refine (HR.out _ _ _).mono ?_
    rintro e w1 ⟨rfl, hb⟩
    have HW : Hid (CivAt w (w.heap.size + 1) [.int .i64 0, .int .i64 0] w1) := HS.out.new hb
    clear hb HS
    obtain ⟨x1, x2, x3⟩ := x
    simp only [frV]
    go_wp2_with (first
      | ((first | with_reducible refine gate_st ?_ | with_reducible refine gate_stw ?_)
         refine row_store rfl _ _ rfl (w.heap.size + 1) rfl [.int .i64 0, .int .i64 0] [.int .i64 x1, .int .i64 x2] rfl HW.out.1 rfl rowT_fr (List.all_eq_true.1 rfl) ?_
         intro wz HRow Hap)
      | fail)
    exact ret_row2 rfl _ _ (.int .i64 x3) HRow rowT_fr rfl rfl rfl ⟨rfl, HW.out.2.trans (Hap.below (by omega))⟩
set_option maxHeartbeats 1000000 in
theorem sc1_any (h a m o : Int) (hf : fineT h a m o) (w : World) : Calls Tryz.prog 107 #[tabV h a m o] w fun e w' => e = .returned (.tuple #[.int .i64 (h), .int .i64 (h + m)]) ∧ Below w.heap.size w w' := by
  obtain ⟨⟨h0, h1⟩, ⟨a0, a1⟩, ⟨m0, m1⟩, ⟨o0, o1⟩⟩ := fine_all hf
  obtain ⟨p0, p1⟩ := prod_bnd ⟨h0, h1⟩ ⟨o0, o1⟩
  obtain ⟨q0, q1⟩ := prod_bnd ⟨a0, a1⟩ ⟨m0, m1⟩
  obtain ⟨r0, r1⟩ := prod_bnd (x := h + m) (y := m + o) (b := 20000) (c := 20000) (by omega) (by omega)
  obtain ⟨s0, s1⟩ := prod_bnd (x := h + a) (y := a + o) (b := 20000) (c := 20000) (by omega) (by omega)
  have hw6 : IntKind.i64.wrap (h + m) = h + m := IntWalk.i64_in _ (by omega)
  have HS : Hid (CivAt w w.heap.size [.int .i64 h, .int .i64 a, .int .i64 m, .int .i64 o] (w.alloc (.cells #[.int .i64 h, .int .i64 a, .int .i64 m, .int .i64 o] 33))) := ⟨RowAt.new w [.int .i64 h, .int .i64 a, .int .i64 m, .int .i64 o] (by simp) _ rfl, (Below.refl _ _).alloc (Nat.le_refl _) _⟩
  clear hf
  unfold tabV
  go_enter Tryz.func107, Tryz.ntmps107
  go_wp2_with fail
  generalize w.alloc _ = w2 at HS ⊢
  have HS1 : Hid (CivAt w w.heap.size [.int .i64 h, .int .i64 a, .int .i64 m, .int .i64 o] w2.drew) := HS.out.new ((Below.refl _ _).drew)
  refine wp_region_seq (by kernel_rfl) (fun w' => CivAt w w.heap.size [.int .i64 h, .int .i64 a, .int .i64 m, .int .i64 o] w') [(0, true), (1, true), (2, true), (3, true), (4, true), (5, true), (6, true), (7, true), (8, true)] (by kernel_rfl) (HS1.out) ?_
  refine seq_q (d := some 4) rfl rfl rfl (.pointer (some ⟨w.heap.size, 0, none⟩)) (fun w hw => by go_simp) ?_
  simp only [Act.put, List.setIfInBounds_toArray, List.set_cons_zero, List.set_cons_succ]
  refine seq_q (d := some 5) rfl rfl rfl (.int .i64 h) (fun w hw => by have h := hw.1.at 0 rfl; simp [execOp, Act.eval, go_sem, h]) ?_
  simp only [Act.put, List.setIfInBounds_toArray, List.set_cons_zero, List.set_cons_succ]
  refine seq_q (d := some 6) rfl rfl rfl (.pointer (some ⟨w.heap.size, 0, none⟩)) (fun w hw => by go_simp) ?_
  simp only [Act.put, List.setIfInBounds_toArray, List.set_cons_zero, List.set_cons_succ]
  refine seq_q (d := some 7) rfl rfl rfl (.int .i64 h) (fun w hw => by have h := hw.1.at 0 rfl; simp [execOp, Act.eval, go_sem, h]) ?_
  simp only [Act.put, List.setIfInBounds_toArray, List.set_cons_zero, List.set_cons_succ]
  refine seq_q (d := some 8) rfl rfl rfl (.pointer (some ⟨w.heap.size, 2, none⟩)) (fun w hw => by go_simp) ?_
  simp only [Act.put, List.setIfInBounds_toArray, List.set_cons_zero, List.set_cons_succ]
  refine seq_q (d := some 9) rfl rfl rfl (.int .i64 m) (fun w hw => by have h := hw.1.at 2 rfl; simp [execOp, Act.eval, go_sem, h]) ?_
  simp only [Act.put, List.setIfInBounds_toArray, List.set_cons_zero, List.set_cons_succ]
  refine seq_q (d := some 10) rfl rfl rfl (.int .i64 (h + m)) (fun w hw => by simp [execOp, Act.eval, go_sem, hw6]) ?_
  simp only [Act.put, List.setIfInBounds_toArray, List.set_cons_zero, List.set_cons_succ]
  refine seq_q (d := some 2) rfl rfl rfl (.int .i64 h) (fun w hw => rfl) ?_
  simp only [Act.put, List.setIfInBounds_toArray, List.set_cons_zero, List.set_cons_succ]
  refine seq_q (d := some 3) rfl rfl rfl (.int .i64 (h + m)) (fun w hw => rfl) ?_
  simp only [Act.put, List.setIfInBounds_toArray, List.set_cons_zero, List.set_cons_succ]
  refine seq_end ?_
  go_wp2_with fail
  exact bodyPost_ret (v := .tuple #[.int .i64 (h), .int .i64 (h + m)]) (by simp [results, Tryz.results107, go_sem]) rfl ⟨rfl, HS1.out.2⟩
set_option maxHeartbeats 1000000 in
theorem sc2_any (h a m o : Int) (hf : fineT h a m o) (w : World) : Calls Tryz.prog 108 #[tabV h a m o] w fun e w' => e = .returned (.tuple #[.int .i64 (a), .int .i64 (h + a)]) ∧ Below w.heap.size w w' := by
  obtain ⟨⟨h0, h1⟩, ⟨a0, a1⟩, ⟨m0, m1⟩, ⟨o0, o1⟩⟩ := fine_all hf
  obtain ⟨p0, p1⟩ := prod_bnd ⟨h0, h1⟩ ⟨o0, o1⟩
  obtain ⟨q0, q1⟩ := prod_bnd ⟨a0, a1⟩ ⟨m0, m1⟩
  obtain ⟨r0, r1⟩ := prod_bnd (x := h + m) (y := m + o) (b := 20000) (c := 20000) (by omega) (by omega)
  obtain ⟨s0, s1⟩ := prod_bnd (x := h + a) (y := a + o) (b := 20000) (c := 20000) (by omega) (by omega)
  have hw6 : IntKind.i64.wrap (h + a) = h + a := IntWalk.i64_in _ (by omega)
  have HS : Hid (CivAt w w.heap.size [.int .i64 h, .int .i64 a, .int .i64 m, .int .i64 o] (w.alloc (.cells #[.int .i64 h, .int .i64 a, .int .i64 m, .int .i64 o] 33))) := ⟨RowAt.new w [.int .i64 h, .int .i64 a, .int .i64 m, .int .i64 o] (by simp) _ rfl, (Below.refl _ _).alloc (Nat.le_refl _) _⟩
  clear hf
  unfold tabV
  go_enter Tryz.func108, Tryz.ntmps108
  go_wp2_with fail
  generalize w.alloc _ = w2 at HS ⊢
  have HS1 : Hid (CivAt w w.heap.size [.int .i64 h, .int .i64 a, .int .i64 m, .int .i64 o] w2.drew) := HS.out.new ((Below.refl _ _).drew)
  refine wp_region_seq (by kernel_rfl) (fun w' => CivAt w w.heap.size [.int .i64 h, .int .i64 a, .int .i64 m, .int .i64 o] w') [(0, true), (1, true), (2, true), (3, true), (4, true), (5, true), (6, true), (7, true), (8, true)] (by kernel_rfl) (HS1.out) ?_
  refine seq_q (d := some 4) rfl rfl rfl (.pointer (some ⟨w.heap.size, 1, none⟩)) (fun w hw => by go_simp) ?_
  simp only [Act.put, List.setIfInBounds_toArray, List.set_cons_zero, List.set_cons_succ]
  refine seq_q (d := some 5) rfl rfl rfl (.int .i64 a) (fun w hw => by have h := hw.1.at 1 rfl; simp [execOp, Act.eval, go_sem, h]) ?_
  simp only [Act.put, List.setIfInBounds_toArray, List.set_cons_zero, List.set_cons_succ]
  refine seq_q (d := some 6) rfl rfl rfl (.pointer (some ⟨w.heap.size, 0, none⟩)) (fun w hw => by go_simp) ?_
  simp only [Act.put, List.setIfInBounds_toArray, List.set_cons_zero, List.set_cons_succ]
  refine seq_q (d := some 7) rfl rfl rfl (.int .i64 h) (fun w hw => by have h := hw.1.at 0 rfl; simp [execOp, Act.eval, go_sem, h]) ?_
  simp only [Act.put, List.setIfInBounds_toArray, List.set_cons_zero, List.set_cons_succ]
  refine seq_q (d := some 8) rfl rfl rfl (.pointer (some ⟨w.heap.size, 1, none⟩)) (fun w hw => by go_simp) ?_
  simp only [Act.put, List.setIfInBounds_toArray, List.set_cons_zero, List.set_cons_succ]
  refine seq_q (d := some 9) rfl rfl rfl (.int .i64 a) (fun w hw => by have h := hw.1.at 1 rfl; simp [execOp, Act.eval, go_sem, h]) ?_
  simp only [Act.put, List.setIfInBounds_toArray, List.set_cons_zero, List.set_cons_succ]
  refine seq_q (d := some 10) rfl rfl rfl (.int .i64 (h + a)) (fun w hw => by simp [execOp, Act.eval, go_sem, hw6]) ?_
  simp only [Act.put, List.setIfInBounds_toArray, List.set_cons_zero, List.set_cons_succ]
  refine seq_q (d := some 2) rfl rfl rfl (.int .i64 a) (fun w hw => rfl) ?_
  simp only [Act.put, List.setIfInBounds_toArray, List.set_cons_zero, List.set_cons_succ]
  refine seq_q (d := some 3) rfl rfl rfl (.int .i64 (h + a)) (fun w hw => rfl) ?_
  simp only [Act.put, List.setIfInBounds_toArray, List.set_cons_zero, List.set_cons_succ]
  refine seq_end ?_
  go_wp2_with fail
  exact bodyPost_ret (v := .tuple #[.int .i64 (a), .int .i64 (h + a)]) (by simp [results, Tryz.results108, go_sem]) rfl ⟨rfl, HS1.out.2⟩
set_option maxHeartbeats 1000000 in
theorem sc3_any (h a m o : Int) (hf : fineT h a m o) (w : World) : Calls Tryz.prog 109 #[tabV h a m o] w fun e w' => e = .returned (.tuple #[.int .i64 (h), .int .i64 ((h + a) + m)]) ∧ Below w.heap.size w w' := by
  obtain ⟨⟨h0, h1⟩, ⟨a0, a1⟩, ⟨m0, m1⟩, ⟨o0, o1⟩⟩ := fine_all hf
  obtain ⟨p0, p1⟩ := prod_bnd ⟨h0, h1⟩ ⟨o0, o1⟩
  obtain ⟨q0, q1⟩ := prod_bnd ⟨a0, a1⟩ ⟨m0, m1⟩
  obtain ⟨r0, r1⟩ := prod_bnd (x := h + m) (y := m + o) (b := 20000) (c := 20000) (by omega) (by omega)
  obtain ⟨s0, s1⟩ := prod_bnd (x := h + a) (y := a + o) (b := 20000) (c := 20000) (by omega) (by omega)
  have hw6 : IntKind.i64.wrap (h + a) = h + a := IntWalk.i64_in _ (by omega)
  have hw9 : IntKind.i64.wrap ((h + a) + m) = (h + a) + m := IntWalk.i64_in _ (by omega)
  have HS : Hid (CivAt w w.heap.size [.int .i64 h, .int .i64 a, .int .i64 m, .int .i64 o] (w.alloc (.cells #[.int .i64 h, .int .i64 a, .int .i64 m, .int .i64 o] 33))) := ⟨RowAt.new w [.int .i64 h, .int .i64 a, .int .i64 m, .int .i64 o] (by simp) _ rfl, (Below.refl _ _).alloc (Nat.le_refl _) _⟩
  clear hf
  unfold tabV
  go_enter Tryz.func109, Tryz.ntmps109
  go_wp2_with fail
  generalize w.alloc _ = w2 at HS ⊢
  have HS1 : Hid (CivAt w w.heap.size [.int .i64 h, .int .i64 a, .int .i64 m, .int .i64 o] w2.drew) := HS.out.new ((Below.refl _ _).drew)
  refine wp_region_seq (by kernel_rfl) (fun w' => CivAt w w.heap.size [.int .i64 h, .int .i64 a, .int .i64 m, .int .i64 o] w') [(0, true), (1, true), (2, true), (3, true), (4, true), (5, true), (6, true), (7, true), (8, true), (9, true), (10, true), (11, true)] (by kernel_rfl) (HS1.out) ?_
  refine seq_q (d := some 4) rfl rfl rfl (.pointer (some ⟨w.heap.size, 0, none⟩)) (fun w hw => by go_simp) ?_
  simp only [Act.put, List.setIfInBounds_toArray, List.set_cons_zero, List.set_cons_succ]
  refine seq_q (d := some 5) rfl rfl rfl (.int .i64 h) (fun w hw => by have h := hw.1.at 0 rfl; simp [execOp, Act.eval, go_sem, h]) ?_
  simp only [Act.put, List.setIfInBounds_toArray, List.set_cons_zero, List.set_cons_succ]
  refine seq_q (d := some 6) rfl rfl rfl (.pointer (some ⟨w.heap.size, 0, none⟩)) (fun w hw => by go_simp) ?_
  simp only [Act.put, List.setIfInBounds_toArray, List.set_cons_zero, List.set_cons_succ]
  refine seq_q (d := some 7) rfl rfl rfl (.int .i64 h) (fun w hw => by have h := hw.1.at 0 rfl; simp [execOp, Act.eval, go_sem, h]) ?_
  simp only [Act.put, List.setIfInBounds_toArray, List.set_cons_zero, List.set_cons_succ]
  refine seq_q (d := some 8) rfl rfl rfl (.pointer (some ⟨w.heap.size, 1, none⟩)) (fun w hw => by go_simp) ?_
  simp only [Act.put, List.setIfInBounds_toArray, List.set_cons_zero, List.set_cons_succ]
  refine seq_q (d := some 9) rfl rfl rfl (.int .i64 a) (fun w hw => by have h := hw.1.at 1 rfl; simp [execOp, Act.eval, go_sem, h]) ?_
  simp only [Act.put, List.setIfInBounds_toArray, List.set_cons_zero, List.set_cons_succ]
  refine seq_q (d := some 10) rfl rfl rfl (.int .i64 (h + a)) (fun w hw => by simp [execOp, Act.eval, go_sem, hw6]) ?_
  simp only [Act.put, List.setIfInBounds_toArray, List.set_cons_zero, List.set_cons_succ]
  refine seq_q (d := some 11) rfl rfl rfl (.pointer (some ⟨w.heap.size, 2, none⟩)) (fun w hw => by go_simp) ?_
  simp only [Act.put, List.setIfInBounds_toArray, List.set_cons_zero, List.set_cons_succ]
  refine seq_q (d := some 12) rfl rfl rfl (.int .i64 m) (fun w hw => by have h := hw.1.at 2 rfl; simp [execOp, Act.eval, go_sem, h]) ?_
  simp only [Act.put, List.setIfInBounds_toArray, List.set_cons_zero, List.set_cons_succ]
  refine seq_q (d := some 13) rfl rfl rfl (.int .i64 ((h + a) + m)) (fun w hw => by simp [execOp, Act.eval, go_sem, hw9]) ?_
  simp only [Act.put, List.setIfInBounds_toArray, List.set_cons_zero, List.set_cons_succ]
  refine seq_q (d := some 2) rfl rfl rfl (.int .i64 h) (fun w hw => rfl) ?_
  simp only [Act.put, List.setIfInBounds_toArray, List.set_cons_zero, List.set_cons_succ]
  refine seq_q (d := some 3) rfl rfl rfl (.int .i64 ((h + a) + m)) (fun w hw => rfl) ?_
  simp only [Act.put, List.setIfInBounds_toArray, List.set_cons_zero, List.set_cons_succ]
  refine seq_end ?_
  go_wp2_with fail
  exact bodyPost_ret (v := .tuple #[.int .i64 (h), .int .i64 ((h + a) + m)]) (by simp [results, Tryz.results109, go_sem]) rfl ⟨rfl, HS1.out.2⟩
set_option maxHeartbeats 1000000 in
theorem sc4_any (h a m o : Int) (hf : fineT h a m o) (w : World) : Calls Tryz.prog 110 #[tabV h a m o] w fun e w' => e = .returned (.tuple #[.int .i64 (2 * ((h * o) - (a * m))), .int .i64 (((h + m) * (m + o)) + ((h + a) * (a + o)))]) ∧ Below w.heap.size w w' := by
  obtain ⟨⟨h0, h1⟩, ⟨a0, a1⟩, ⟨m0, m1⟩, ⟨o0, o1⟩⟩ := fine_all hf
  obtain ⟨p0, p1⟩ := prod_bnd ⟨h0, h1⟩ ⟨o0, o1⟩
  obtain ⟨q0, q1⟩ := prod_bnd ⟨a0, a1⟩ ⟨m0, m1⟩
  obtain ⟨r0, r1⟩ := prod_bnd (x := h + m) (y := m + o) (b := 20000) (c := 20000) (by omega) (by omega)
  obtain ⟨s0, s1⟩ := prod_bnd (x := h + a) (y := a + o) (b := 20000) (c := 20000) (by omega) (by omega)
  have hw4 : IntKind.i64.wrap (h * o) = h * o := IntWalk.i64_in _ (by omega)
  have hw9 : IntKind.i64.wrap (a * m) = a * m := IntWalk.i64_in _ (by omega)
  have hw10 : IntKind.i64.wrap ((h * o) - (a * m)) = (h * o) - (a * m) := IntWalk.i64_in _ (by omega)
  have hw11 : IntKind.i64.wrap (2 * ((h * o) - (a * m))) = 2 * ((h * o) - (a * m)) := IntWalk.i64_in _ (by omega)
  have hw16 : IntKind.i64.wrap (h + m) = h + m := IntWalk.i64_in _ (by omega)
  have hw21 : IntKind.i64.wrap (m + o) = m + o := IntWalk.i64_in _ (by omega)
  have hw22 : IntKind.i64.wrap ((h + m) * (m + o)) = (h + m) * (m + o) := IntWalk.i64_in _ (by omega)
  have hw27 : IntKind.i64.wrap (h + a) = h + a := IntWalk.i64_in _ (by omega)
  have hw32 : IntKind.i64.wrap (a + o) = a + o := IntWalk.i64_in _ (by omega)
  have hw33 : IntKind.i64.wrap ((h + a) * (a + o)) = (h + a) * (a + o) := IntWalk.i64_in _ (by omega)
  have hw34 : IntKind.i64.wrap (((h + m) * (m + o)) + ((h + a) * (a + o))) = ((h + m) * (m + o)) + ((h + a) * (a + o)) := IntWalk.i64_in _ (by omega)
  have HS : Hid (CivAt w w.heap.size [.int .i64 h, .int .i64 a, .int .i64 m, .int .i64 o] (w.alloc (.cells #[.int .i64 h, .int .i64 a, .int .i64 m, .int .i64 o] 33))) := ⟨RowAt.new w [.int .i64 h, .int .i64 a, .int .i64 m, .int .i64 o] (by simp) _ rfl, (Below.refl _ _).alloc (Nat.le_refl _) _⟩
  clear hf
  unfold tabV
  go_enter Tryz.func110, Tryz.ntmps110
  go_wp2_with fail
  generalize w.alloc _ = w2 at HS ⊢
  have HS1 : Hid (CivAt w w.heap.size [.int .i64 h, .int .i64 a, .int .i64 m, .int .i64 o] w2.drew) := HS.out.new ((Below.refl _ _).drew)
  refine wp_region_seq (by kernel_rfl) (fun w' => CivAt w w.heap.size [.int .i64 h, .int .i64 a, .int .i64 m, .int .i64 o] w') [(0, true), (1, true), (2, true), (3, true), (4, true), (5, true), (6, true), (7, true), (8, true), (9, true), (10, true), (11, true), (12, true), (13, true), (14, true), (15, true), (16, true), (17, true), (18, true), (19, true), (20, true), (21, true), (22, true), (23, true), (24, true), (25, true), (26, true), (27, true), (28, true), (29, true), (30, true), (31, true), (32, true), (33, true), (34, true), (35, true), (36, true)] (by kernel_rfl) (HS1.out) ?_
  refine seq_q (d := some 4) rfl rfl rfl (.pointer (some ⟨w.heap.size, 0, none⟩)) (fun w hw => by go_simp) ?_
  simp only [Act.put, List.setIfInBounds_toArray, List.set_cons_zero, List.set_cons_succ]
  refine seq_q (d := some 5) rfl rfl rfl (.int .i64 h) (fun w hw => by have h := hw.1.at 0 rfl; simp [execOp, Act.eval, go_sem, h]) ?_
  simp only [Act.put, List.setIfInBounds_toArray, List.set_cons_zero, List.set_cons_succ]
  refine seq_q (d := some 6) rfl rfl rfl (.pointer (some ⟨w.heap.size, 3, none⟩)) (fun w hw => by go_simp) ?_
  simp only [Act.put, List.setIfInBounds_toArray, List.set_cons_zero, List.set_cons_succ]
  refine seq_q (d := some 7) rfl rfl rfl (.int .i64 o) (fun w hw => by have h := hw.1.at 3 rfl; simp [execOp, Act.eval, go_sem, h]) ?_
  simp only [Act.put, List.setIfInBounds_toArray, List.set_cons_zero, List.set_cons_succ]
  refine seq_q (d := some 8) rfl rfl rfl (.int .i64 (h * o)) (fun w hw => by simp [execOp, Act.eval, go_sem, hw4]) ?_
  simp only [Act.put, List.setIfInBounds_toArray, List.set_cons_zero, List.set_cons_succ]
  refine seq_q (d := some 9) rfl rfl rfl (.pointer (some ⟨w.heap.size, 1, none⟩)) (fun w hw => by go_simp) ?_
  simp only [Act.put, List.setIfInBounds_toArray, List.set_cons_zero, List.set_cons_succ]
  refine seq_q (d := some 10) rfl rfl rfl (.int .i64 a) (fun w hw => by have h := hw.1.at 1 rfl; simp [execOp, Act.eval, go_sem, h]) ?_
  simp only [Act.put, List.setIfInBounds_toArray, List.set_cons_zero, List.set_cons_succ]
  refine seq_q (d := some 11) rfl rfl rfl (.pointer (some ⟨w.heap.size, 2, none⟩)) (fun w hw => by go_simp) ?_
  simp only [Act.put, List.setIfInBounds_toArray, List.set_cons_zero, List.set_cons_succ]
  refine seq_q (d := some 12) rfl rfl rfl (.int .i64 m) (fun w hw => by have h := hw.1.at 2 rfl; simp [execOp, Act.eval, go_sem, h]) ?_
  simp only [Act.put, List.setIfInBounds_toArray, List.set_cons_zero, List.set_cons_succ]
  refine seq_q (d := some 13) rfl rfl rfl (.int .i64 (a * m)) (fun w hw => by simp [execOp, Act.eval, go_sem, hw9]) ?_
  simp only [Act.put, List.setIfInBounds_toArray, List.set_cons_zero, List.set_cons_succ]
  refine seq_q (d := some 14) rfl rfl rfl (.int .i64 ((h * o) - (a * m))) (fun w hw => by simp [execOp, Act.eval, go_sem, hw10]) ?_
  simp only [Act.put, List.setIfInBounds_toArray, List.set_cons_zero, List.set_cons_succ]
  refine seq_q (d := some 15) rfl rfl rfl (.int .i64 (2 * ((h * o) - (a * m)))) (fun w hw => by simp [execOp, Act.eval, go_sem, hw11]) ?_
  simp only [Act.put, List.setIfInBounds_toArray, List.set_cons_zero, List.set_cons_succ]
  refine seq_q (d := some 16) rfl rfl rfl (.pointer (some ⟨w.heap.size, 0, none⟩)) (fun w hw => by go_simp) ?_
  simp only [Act.put, List.setIfInBounds_toArray, List.set_cons_zero, List.set_cons_succ]
  refine seq_q (d := some 17) rfl rfl rfl (.int .i64 h) (fun w hw => by have h := hw.1.at 0 rfl; simp [execOp, Act.eval, go_sem, h]) ?_
  simp only [Act.put, List.setIfInBounds_toArray, List.set_cons_zero, List.set_cons_succ]
  refine seq_q (d := some 18) rfl rfl rfl (.pointer (some ⟨w.heap.size, 2, none⟩)) (fun w hw => by go_simp) ?_
  simp only [Act.put, List.setIfInBounds_toArray, List.set_cons_zero, List.set_cons_succ]
  refine seq_q (d := some 19) rfl rfl rfl (.int .i64 m) (fun w hw => by have h := hw.1.at 2 rfl; simp [execOp, Act.eval, go_sem, h]) ?_
  simp only [Act.put, List.setIfInBounds_toArray, List.set_cons_zero, List.set_cons_succ]
  refine seq_q (d := some 20) rfl rfl rfl (.int .i64 (h + m)) (fun w hw => by simp [execOp, Act.eval, go_sem, hw16]) ?_
  simp only [Act.put, List.setIfInBounds_toArray, List.set_cons_zero, List.set_cons_succ]
  refine seq_q (d := some 21) rfl rfl rfl (.pointer (some ⟨w.heap.size, 2, none⟩)) (fun w hw => by go_simp) ?_
  simp only [Act.put, List.setIfInBounds_toArray, List.set_cons_zero, List.set_cons_succ]
  refine seq_q (d := some 22) rfl rfl rfl (.int .i64 m) (fun w hw => by have h := hw.1.at 2 rfl; simp [execOp, Act.eval, go_sem, h]) ?_
  simp only [Act.put, List.setIfInBounds_toArray, List.set_cons_zero, List.set_cons_succ]
  refine seq_q (d := some 23) rfl rfl rfl (.pointer (some ⟨w.heap.size, 3, none⟩)) (fun w hw => by go_simp) ?_
  simp only [Act.put, List.setIfInBounds_toArray, List.set_cons_zero, List.set_cons_succ]
  refine seq_q (d := some 24) rfl rfl rfl (.int .i64 o) (fun w hw => by have h := hw.1.at 3 rfl; simp [execOp, Act.eval, go_sem, h]) ?_
  simp only [Act.put, List.setIfInBounds_toArray, List.set_cons_zero, List.set_cons_succ]
  refine seq_q (d := some 25) rfl rfl rfl (.int .i64 (m + o)) (fun w hw => by simp [execOp, Act.eval, go_sem, hw21]) ?_
  simp only [Act.put, List.setIfInBounds_toArray, List.set_cons_zero, List.set_cons_succ]
  refine seq_q (d := some 26) rfl rfl rfl (.int .i64 ((h + m) * (m + o))) (fun w hw => by simp [execOp, Act.eval, go_sem, hw22]) ?_
  simp only [Act.put, List.setIfInBounds_toArray, List.set_cons_zero, List.set_cons_succ]
  refine seq_q (d := some 27) rfl rfl rfl (.pointer (some ⟨w.heap.size, 0, none⟩)) (fun w hw => by go_simp) ?_
  simp only [Act.put, List.setIfInBounds_toArray, List.set_cons_zero, List.set_cons_succ]
  refine seq_q (d := some 28) rfl rfl rfl (.int .i64 h) (fun w hw => by have h := hw.1.at 0 rfl; simp [execOp, Act.eval, go_sem, h]) ?_
  simp only [Act.put, List.setIfInBounds_toArray, List.set_cons_zero, List.set_cons_succ]
  refine seq_q (d := some 29) rfl rfl rfl (.pointer (some ⟨w.heap.size, 1, none⟩)) (fun w hw => by go_simp) ?_
  simp only [Act.put, List.setIfInBounds_toArray, List.set_cons_zero, List.set_cons_succ]
  refine seq_q (d := some 30) rfl rfl rfl (.int .i64 a) (fun w hw => by have h := hw.1.at 1 rfl; simp [execOp, Act.eval, go_sem, h]) ?_
  simp only [Act.put, List.setIfInBounds_toArray, List.set_cons_zero, List.set_cons_succ]
  refine seq_q (d := some 31) rfl rfl rfl (.int .i64 (h + a)) (fun w hw => by simp [execOp, Act.eval, go_sem, hw27]) ?_
  simp only [Act.put, List.setIfInBounds_toArray, List.set_cons_zero, List.set_cons_succ]
  refine seq_q (d := some 32) rfl rfl rfl (.pointer (some ⟨w.heap.size, 1, none⟩)) (fun w hw => by go_simp) ?_
  simp only [Act.put, List.setIfInBounds_toArray, List.set_cons_zero, List.set_cons_succ]
  refine seq_q (d := some 33) rfl rfl rfl (.int .i64 a) (fun w hw => by have h := hw.1.at 1 rfl; simp [execOp, Act.eval, go_sem, h]) ?_
  simp only [Act.put, List.setIfInBounds_toArray, List.set_cons_zero, List.set_cons_succ]
  refine seq_q (d := some 34) rfl rfl rfl (.pointer (some ⟨w.heap.size, 3, none⟩)) (fun w hw => by go_simp) ?_
  simp only [Act.put, List.setIfInBounds_toArray, List.set_cons_zero, List.set_cons_succ]
  refine seq_q (d := some 35) rfl rfl rfl (.int .i64 o) (fun w hw => by have h := hw.1.at 3 rfl; simp [execOp, Act.eval, go_sem, h]) ?_
  simp only [Act.put, List.setIfInBounds_toArray, List.set_cons_zero, List.set_cons_succ]
  refine seq_q (d := some 36) rfl rfl rfl (.int .i64 (a + o)) (fun w hw => by simp [execOp, Act.eval, go_sem, hw32]) ?_
  simp only [Act.put, List.setIfInBounds_toArray, List.set_cons_zero, List.set_cons_succ]
  refine seq_q (d := some 37) rfl rfl rfl (.int .i64 ((h + a) * (a + o))) (fun w hw => by simp [execOp, Act.eval, go_sem, hw33]) ?_
  simp only [Act.put, List.setIfInBounds_toArray, List.set_cons_zero, List.set_cons_succ]
  refine seq_q (d := some 38) rfl rfl rfl (.int .i64 (((h + m) * (m + o)) + ((h + a) * (a + o)))) (fun w hw => by simp [execOp, Act.eval, go_sem, hw34]) ?_
  simp only [Act.put, List.setIfInBounds_toArray, List.set_cons_zero, List.set_cons_succ]
  refine seq_q (d := some 2) rfl rfl rfl (.int .i64 (2 * ((h * o) - (a * m)))) (fun w hw => rfl) ?_
  simp only [Act.put, List.setIfInBounds_toArray, List.set_cons_zero, List.set_cons_succ]
  refine seq_q (d := some 3) rfl rfl rfl (.int .i64 (((h + m) * (m + o)) + ((h + a) * (a + o)))) (fun w hw => rfl) ?_
  simp only [Act.put, List.setIfInBounds_toArray, List.set_cons_zero, List.set_cons_succ]
  refine seq_end ?_
  go_wp2_with fail
  exact bodyPost_ret (v := .tuple #[.int .i64 (2 * ((h * o) - (a * m))), .int .i64 (((h + m) * (m + o)) + ((h + a) * (a + o)))]) (by simp [results, Tryz.results110, go_sem]) rfl ⟨rfl, HS1.out.2⟩
end Go.Proofs.YtmmmebdgannpgaaGreatDoor
/- Scores of tables of the program. Printed by gen_scof.py. -/
namespace Go.Proofs.YtmmmebdgannpgaaGreatDoor
open Go Go.RowKit

abbrev FnT : TypeId := 141
def fnV (f : Nat) : Value := .func (.func f) #[] #[]
/-- The four functions. -/
def fnCells : List Value := [fnV 107, fnV 108, fnV 109, fnV 110]
theorem scores_any (w : World) : Calls Tryz.prog 91 #[] w fun e w' => e = .returned (.slice (some ⟨w.heap.size, 0, none⟩) 4 4) ∧ w' = w.alloc (.cells fnCells.toArray FnT) := by
  go_enter Tryz.func91, Tryz.ntmps91
  go_wp2_with fail
  go_ret
  exact ⟨rfl, rfl⟩
structure OfS (w : World) (g : Nat) (h a m o : Int) (wr : World) : Prop where
  c : RowAt wr w.heap.size [.int .i64 h, .int .i64 a, .int .i64 m, .int .i64 o]
  r : RowAt wr (w.heap.size + 1) [.int .i64 0, .int .i64 0]
  g : RowAt wr g [.int .i64 h, .int .i64 a, .int .i64 m, .int .i64 o]
  b : Below w.heap.size w wr
theorem OfS.new {w wr w' : World} {g : Nat} {h a m o : Int} (s : OfS w g h a m o wr) (hb : Below wr.heap.size wr w') : OfS w g h a m o w' := ⟨s.c.below hb, s.r.below hb, s.g.below hb, below_then s.b hb⟩
theorem rowT_tab : RowT 33 4 := ⟨by kernel_rfl, _, Tryz.underlying33, rfl⟩
theorem row_loadC {t : TypeId} {w : World} {b : Nat} {cs : List Value} (h : RowAt w b cs) (ht : RowT t cs.length) {op : Oper} {a : Act} (x : Operand) (ho : op.op = .load t x) (hx : a.eval x = .pointer (some ⟨b, 0, none⟩)) : (execOp a.eval op).run Tryz.prog w = .ok (.value (.agg cs.toArray)) w := by
  have := h.loadVar ht
  unfold execOp
  simp only [ho, hx, Instr.loadAt, Instr.sureAddr, Sem.run_bind, Sem.run_pure, Result.andThen_ok, this]
set_option maxHeartbeats 4000000 in
set_option maxRecDepth 100000 in
theorem of1_any (h a m o : Int) (w : World) : Calls Tryz.prog 77 #[.int .i64 0, tabV h a m o] w (RedIs (ofT h a m o (h) (h + m)) w) := by
  have HBad : Hid (∀ i : Nat, i < 4 → ¬ (0 ≤ [h, a, m, o].getD i 0 ∧ [h, a, m, o].getD i 0 ≤ 10000) → ofT h a m o (h) (h + m) = (0, 0, 1)) := fun i hi hx => bad_tab hi hx _ _
  have HGood : Hid ((∀ i, i < 4 → 0 ≤ [h, a, m, o].getD i 0 ∧ [h, a, m, o].getD i 0 ≤ 10000) → fineT h a m o ∧ ofT h a m o (h) (h + m) = if h + m = 0 then (0, 0, 9) else redOf (h) (h + m)) := fun hp => ⟨good_tab hp, if_pos (good_tab hp)⟩
  generalize ofT h a m o (h) (h + m) = x at *
  have HS : Hid (OfS w (w.heap.size + 2) h a m o (((w.alloc (.cells #[.int .i64 h, .int .i64 a, .int .i64 m, .int .i64 o] 33)).alloc (.cells #[.int .i64 0, .int .i64 0] 24)).alloc (.cells #[.int .i64 h, .int .i64 a, .int .i64 m, .int .i64 o] 3))) :=
    ⟨((RowAt.new w [.int .i64 h, .int .i64 a, .int .i64 m, .int .i64 o] (by simp) _ rfl).alloc _).alloc _, (RowAt.new _ [.int .i64 0, .int .i64 0] (by simp) _ (by simp)).alloc _, RowAt.new _ [.int .i64 h, .int .i64 a, .int .i64 m, .int .i64 o] (by simp) _ (by simp), (((Below.refl _ _).alloc (Nat.le_refl _) _).alloc (by simp) _).alloc (by simp; omega) _⟩
  unfold tabV
  go_enter Tryz.func77, Tryz.ntmps77
  go_wp2_with fail
  generalize hg : w.heap.size + 2 = g at *
  clear hg
  generalize ((w.alloc _).alloc _).alloc _ = w2 at HS ⊢
  go_loopw [7, 20] (fun _ kv wr => ∃ k : Nat, k ≤ 4 ∧ kv = .int .i64 k ∧ Hid (∀ i, i < k → 0 ≤ [h, a, m, o].getD i 0 ∧ [h, a, m, o].getD i 0 ≤ 10000) ∧ Hid (OfS w g h a m o wr)) (fun _ kv _ => 4 - (intOf kv).toNat)
  case atStart => exact ⟨0, by omega, rfl, fun i hi => by omega, HS⟩
  case round =>
    clear HS
    obtain ⟨k, hk, rfl, HP, HS⟩ := hrel
    by_cases hlt : k < 4
    · have hki : (k : Int) < 4 := by omega
      have hcell : wr.cell? ⟨g, k, none⟩ = some (.int .i64 ([h, a, m, o].getD k 0)) := by
        refine HS.out.g.at k ?_
        have : k = 0 ∨ k = 1 ∨ k = 2 ∨ k = 3 := by omega
        rcases this with rfl | rfl | rfl | rfl <;> rfl
      have HB1 := Lib.hid (HBad.out k hlt)
      have HP1 : Hid (0 ≤ [h, a, m, o].getD k 0 ∧ [h, a, m, o].getD k 0 ≤ 10000 → ∀ i, i < k + 1 → 0 ≤ [h, a, m, o].getD i 0 ∧ [h, a, m, o].getD i 0 ≤ 10000) := fun hx i hi => by
        rcases Nat.lt_or_ge i k with h' | h'
        · exact HP.out i h'
        · obtain rfl : i = k := by omega
          exact hx
      generalize [h, a, m, o].getD k 0 = y at *
      by_cases hy : 0 ≤ y ∧ y ≤ 10000
      · have HE := Lib.hid (HP1.out hy)
        have hy1 : (decide ((0 : Int) ≤ y) && decide (y ≤ 10000)) = true := by simpa using hy
        clear HB1 HP1 HP
        go_wp2_with fail
        refine (within_any y 0 10000 _).mono ?_
        rintro e w1 ⟨rfl, rfl⟩
        rw [hy1]
        go_wp2_with fail
        go_roundw
        case rel => exact ⟨k + 1, by omega, by go_num, HE.out, HS⟩
        case measure => simp [intOf]; omega
      · have HE : Hid (x = (0, 0, 1)) := HB1.out hy
        have hy1 : (decide ((0 : Int) ≤ y) && decide (y ≤ 10000)) = false := by simp; omega
        clear HB1 HP1 hy
        go_wp2_with fail
        refine (within_any y 0 10000 _).mono ?_
        rintro e w1 ⟨rfl, rfl⟩
        rw [hy1]
        go_wp2_with (first
          | ((first | with_reducible refine gate_st ?_ | with_reducible refine gate_stw ?_)
             refine row_store rfl _ _ rfl (w.heap.size + 1) rfl [.int .i64 0, .int .i64 0] [.int .i64 0, .int .i64 0] rfl HS.out.r rfl rowT_fr (List.all_eq_true.1 rfl) ?_
             intro wz HRow Hap)
          | fail)
        exact ret_row2 rfl _ _ (.int .i64 1) HRow rowT_fr rfl rfl rfl ⟨by rw [HE.out]; rfl, HS.out.b.trans (Hap.below (by omega))⟩
    · obtain rfl : k = 4 := by omega
      have HG := Lib.hid (HGood.out HP.out)
      clear hlt HP
      have HD := Lib.hid (HS.out.new (Below.refl wr.heap.size wr).drew)
      go_wp2_with fail
      refine wp_region_seqL (by kernel_rfl) (fun w' => RowAt w' w.heap.size [.int .i64 h, .int .i64 a, .int .i64 m, .int .i64 o]) 5 [(1, 0), (4, 1), (0, 2), (2, 0), (3, 2), (5, 2), (6, 0), (7, 0), (8, 0), (9, 0), (10, 0)] (by kernel_rfl) (HD.out.c) ?_
      refine sl_q (d := some 31) rfl rfl rfl (.int .i64 0) (fun w => rfl) ?_
      simp only [Act.put, List.setIfInBounds_toArray, List.set_cons_zero, List.set_cons_succ]
      refine sl_s (d := some 34) rfl rfl rfl (tabV h a m o) (fun w hw => row_loadC hw rowT_tab _ rfl rfl) ?_
      simp only [Act.put, List.setIfInBounds_toArray, List.set_cons_zero, List.set_cons_succ]
      refine sl_call (d := some 30) rfl rfl rfl ⟨_, Tryz.func91, by kernel_rfl, by kernel_rfl⟩ _ _ _ rfl rfl [] rfl (scores_any wr.drew) ?_
      rintro e wf ⟨rfl, hwf⟩
      have HF : Hid (RowAt wf wr.drew.heap.size fnCells) := by unfold Hid; rw [hwf]; exact RowAt.new _ fnCells (by simp [fnCells]) _ rfl
      have HN : Hid (OfS w g h a m o wf) := HD.out.new (by rw [hwf]; exact (Below.refl _ _).alloc (Nat.le_refl _) _)
      generalize wr.drew.heap.size = gf at *
      clear hwf
      refine ⟨_, rfl, fun _ => HN.out.c, ?_⟩
      simp only [Act.put, List.setIfInBounds_toArray, List.set_cons_zero, List.set_cons_succ]
      refine sl_q (d := some 32) rfl rfl rfl (.pointer (some ⟨gf, 0, none⟩)) (fun w => by simp [execOp, Act.eval, go_sem]) ?_
      simp only [Act.put, List.setIfInBounds_toArray, List.set_cons_zero, List.set_cons_succ]
      have hc3 := HF.out.at 0 rfl
      refine sl_run (d := some 33) rfl rfl rfl (fnV 107) wf (by simp [execOp, Act.eval, go_sem, hc3]) (fun _ => HN.out.c) ?_
      simp only [Act.put, List.setIfInBounds_toArray, List.set_cons_zero, List.set_cons_succ]
      refine sl_call (d := some 35) rfl rfl rfl ⟨_, Tryz.func107, by kernel_rfl, by kernel_rfl⟩ _ _ _ rfl rfl [tabV h a m o] rfl (sc1_any h a m o HG.out.1 wf) ?_
      rintro e w1 ⟨rfl, hb⟩
      refine ⟨_, rfl, (fun h => by cases h), ?_⟩
      simp only [Act.put, List.setIfInBounds_toArray, List.set_cons_zero, List.set_cons_succ]
      refine sl_q (d := some 29) rfl rfl rfl (.tuple #[.int .i64 (h), .int .i64 (h + m)]) (fun w => rfl) ?_
      simp only [Act.put, List.setIfInBounds_toArray, List.set_cons_zero, List.set_cons_succ]
      refine sl_q (d := some 36) rfl rfl rfl (.int .i64 (h)) (fun w => by simp [execOp, Act.eval, go_sem]) ?_
      simp only [Act.put, List.setIfInBounds_toArray, List.set_cons_zero, List.set_cons_succ]
      refine sl_q (d := some 37) rfl rfl rfl (.int .i64 (h + m)) (fun w => by simp [execOp, Act.eval, go_sem]) ?_
      simp only [Act.put, List.setIfInBounds_toArray, List.set_cons_zero, List.set_cons_succ]
      refine sl_q (d := some 8) rfl rfl rfl (.int .i64 (h)) (fun w => rfl) ?_
      simp only [Act.put, List.setIfInBounds_toArray, List.set_cons_zero, List.set_cons_succ]
      refine sl_q (d := some 9) rfl rfl rfl (.int .i64 (h + m)) (fun w => rfl) ?_
      simp only [Act.put, List.setIfInBounds_toArray, List.set_cons_zero, List.set_cons_succ]
      refine sl_end ?_
      have HW := Lib.hid (HN.out.new hb)
      clear hb HN
      generalize hden : h + m = den at *
      generalize hnum : h = num at *
      clear hnum
      by_cases hd : den = 0
      · subst hd
        have HE : Hid (x = (0, 0, 9)) := HG.out.2
        go_wp2_with (first
          | ((first | with_reducible refine gate_st ?_ | with_reducible refine gate_stw ?_)
             refine row_store rfl _ _ rfl (w.heap.size + 1) rfl [.int .i64 0, .int .i64 0] [.int .i64 0, .int .i64 0] rfl HW.out.r rfl rowT_fr (List.all_eq_true.1 rfl) ?_
             intro wz HRow Hap)
          | fail)
        exact ret_row2 rfl _ _ (.int .i64 9) HRow rowT_fr rfl rfl rfl ⟨by rw [HE.out]; rfl, HW.out.b.trans (Hap.below (by omega))⟩
      · have hd0 : (den == 0) = false := by simpa using hd
        have HR := Lib.hid (fun w => red_any num den w)
        have HE : Hid (x = redOf num den) := by unfold Hid; rw [HG.out.2, if_neg hd]
        rw [← HE.out] at HR
        clear HG HE hd hden
        go_wp2_with fail
        refine (HR.out _).mono ?_
        rintro e w1 ⟨rfl, hb⟩
        have HZ := Lib.hid (HW.out.new hb)
        clear hb HW
        obtain ⟨x1, x2, x3⟩ := x
        simp only [frV]
        go_wp2_with (first
          | ((first | with_reducible refine gate_st ?_ | with_reducible refine gate_stw ?_)
             refine row_store rfl _ _ rfl (w.heap.size + 1) rfl [.int .i64 0, .int .i64 0] [.int .i64 x1, .int .i64 x2] rfl HZ.out.r rfl rowT_fr (List.all_eq_true.1 rfl) ?_
             intro wz HRow Hap)
          | fail)
        exact ret_row2 rfl _ _ (.int .i64 x3) HRow rowT_fr rfl rfl rfl ⟨rfl, HZ.out.b.trans (Hap.below (by omega))⟩
set_option maxHeartbeats 4000000 in
set_option maxRecDepth 100000 in
theorem of2_any (h a m o : Int) (w : World) : Calls Tryz.prog 77 #[.int .i64 1, tabV h a m o] w (RedIs (ofT h a m o (a) (h + a)) w) := by
  have HBad : Hid (∀ i : Nat, i < 4 → ¬ (0 ≤ [h, a, m, o].getD i 0 ∧ [h, a, m, o].getD i 0 ≤ 10000) → ofT h a m o (a) (h + a) = (0, 0, 1)) := fun i hi hx => bad_tab hi hx _ _
  have HGood : Hid ((∀ i, i < 4 → 0 ≤ [h, a, m, o].getD i 0 ∧ [h, a, m, o].getD i 0 ≤ 10000) → fineT h a m o ∧ ofT h a m o (a) (h + a) = if h + a = 0 then (0, 0, 9) else redOf (a) (h + a)) := fun hp => ⟨good_tab hp, if_pos (good_tab hp)⟩
  generalize ofT h a m o (a) (h + a) = x at *
  have HS : Hid (OfS w (w.heap.size + 2) h a m o (((w.alloc (.cells #[.int .i64 h, .int .i64 a, .int .i64 m, .int .i64 o] 33)).alloc (.cells #[.int .i64 0, .int .i64 0] 24)).alloc (.cells #[.int .i64 h, .int .i64 a, .int .i64 m, .int .i64 o] 3))) :=
    ⟨((RowAt.new w [.int .i64 h, .int .i64 a, .int .i64 m, .int .i64 o] (by simp) _ rfl).alloc _).alloc _, (RowAt.new _ [.int .i64 0, .int .i64 0] (by simp) _ (by simp)).alloc _, RowAt.new _ [.int .i64 h, .int .i64 a, .int .i64 m, .int .i64 o] (by simp) _ (by simp), (((Below.refl _ _).alloc (Nat.le_refl _) _).alloc (by simp) _).alloc (by simp; omega) _⟩
  unfold tabV
  go_enter Tryz.func77, Tryz.ntmps77
  go_wp2_with fail
  generalize hg : w.heap.size + 2 = g at *
  clear hg
  generalize ((w.alloc _).alloc _).alloc _ = w2 at HS ⊢
  go_loopw [7, 20] (fun _ kv wr => ∃ k : Nat, k ≤ 4 ∧ kv = .int .i64 k ∧ Hid (∀ i, i < k → 0 ≤ [h, a, m, o].getD i 0 ∧ [h, a, m, o].getD i 0 ≤ 10000) ∧ Hid (OfS w g h a m o wr)) (fun _ kv _ => 4 - (intOf kv).toNat)
  case atStart => exact ⟨0, by omega, rfl, fun i hi => by omega, HS⟩
  case round =>
    clear HS
    obtain ⟨k, hk, rfl, HP, HS⟩ := hrel
    by_cases hlt : k < 4
    · have hki : (k : Int) < 4 := by omega
      have hcell : wr.cell? ⟨g, k, none⟩ = some (.int .i64 ([h, a, m, o].getD k 0)) := by
        refine HS.out.g.at k ?_
        have : k = 0 ∨ k = 1 ∨ k = 2 ∨ k = 3 := by omega
        rcases this with rfl | rfl | rfl | rfl <;> rfl
      have HB1 := Lib.hid (HBad.out k hlt)
      have HP1 : Hid (0 ≤ [h, a, m, o].getD k 0 ∧ [h, a, m, o].getD k 0 ≤ 10000 → ∀ i, i < k + 1 → 0 ≤ [h, a, m, o].getD i 0 ∧ [h, a, m, o].getD i 0 ≤ 10000) := fun hx i hi => by
        rcases Nat.lt_or_ge i k with h' | h'
        · exact HP.out i h'
        · obtain rfl : i = k := by omega
          exact hx
      generalize [h, a, m, o].getD k 0 = y at *
      by_cases hy : 0 ≤ y ∧ y ≤ 10000
      · have HE := Lib.hid (HP1.out hy)
        have hy1 : (decide ((0 : Int) ≤ y) && decide (y ≤ 10000)) = true := by simpa using hy
        clear HB1 HP1 HP
        go_wp2_with fail
        refine (within_any y 0 10000 _).mono ?_
        rintro e w1 ⟨rfl, rfl⟩
        rw [hy1]
        go_wp2_with fail
        go_roundw
        case rel => exact ⟨k + 1, by omega, by go_num, HE.out, HS⟩
        case measure => simp [intOf]; omega
      · have HE : Hid (x = (0, 0, 1)) := HB1.out hy
        have hy1 : (decide ((0 : Int) ≤ y) && decide (y ≤ 10000)) = false := by simp; omega
        clear HB1 HP1 hy
        go_wp2_with fail
        refine (within_any y 0 10000 _).mono ?_
        rintro e w1 ⟨rfl, rfl⟩
        rw [hy1]
        go_wp2_with (first
          | ((first | with_reducible refine gate_st ?_ | with_reducible refine gate_stw ?_)
             refine row_store rfl _ _ rfl (w.heap.size + 1) rfl [.int .i64 0, .int .i64 0] [.int .i64 0, .int .i64 0] rfl HS.out.r rfl rowT_fr (List.all_eq_true.1 rfl) ?_
             intro wz HRow Hap)
          | fail)
        exact ret_row2 rfl _ _ (.int .i64 1) HRow rowT_fr rfl rfl rfl ⟨by rw [HE.out]; rfl, HS.out.b.trans (Hap.below (by omega))⟩
    · obtain rfl : k = 4 := by omega
      have HG := Lib.hid (HGood.out HP.out)
      clear hlt HP
      have HD := Lib.hid (HS.out.new (Below.refl wr.heap.size wr).drew)
      go_wp2_with fail
      refine wp_region_seqL (by kernel_rfl) (fun w' => RowAt w' w.heap.size [.int .i64 h, .int .i64 a, .int .i64 m, .int .i64 o]) 5 [(1, 0), (4, 1), (0, 2), (2, 0), (3, 2), (5, 2), (6, 0), (7, 0), (8, 0), (9, 0), (10, 0)] (by kernel_rfl) (HD.out.c) ?_
      refine sl_q (d := some 31) rfl rfl rfl (.int .i64 1) (fun w => rfl) ?_
      simp only [Act.put, List.setIfInBounds_toArray, List.set_cons_zero, List.set_cons_succ]
      refine sl_s (d := some 34) rfl rfl rfl (tabV h a m o) (fun w hw => row_loadC hw rowT_tab _ rfl rfl) ?_
      simp only [Act.put, List.setIfInBounds_toArray, List.set_cons_zero, List.set_cons_succ]
      refine sl_call (d := some 30) rfl rfl rfl ⟨_, Tryz.func91, by kernel_rfl, by kernel_rfl⟩ _ _ _ rfl rfl [] rfl (scores_any wr.drew) ?_
      rintro e wf ⟨rfl, hwf⟩
      have HF : Hid (RowAt wf wr.drew.heap.size fnCells) := by unfold Hid; rw [hwf]; exact RowAt.new _ fnCells (by simp [fnCells]) _ rfl
      have HN : Hid (OfS w g h a m o wf) := HD.out.new (by rw [hwf]; exact (Below.refl _ _).alloc (Nat.le_refl _) _)
      generalize wr.drew.heap.size = gf at *
      clear hwf
      refine ⟨_, rfl, fun _ => HN.out.c, ?_⟩
      simp only [Act.put, List.setIfInBounds_toArray, List.set_cons_zero, List.set_cons_succ]
      refine sl_q (d := some 32) rfl rfl rfl (.pointer (some ⟨gf, 1, none⟩)) (fun w => by simp [execOp, Act.eval, go_sem]) ?_
      simp only [Act.put, List.setIfInBounds_toArray, List.set_cons_zero, List.set_cons_succ]
      have hc3 := HF.out.at 1 rfl
      refine sl_run (d := some 33) rfl rfl rfl (fnV 108) wf (by simp [execOp, Act.eval, go_sem, hc3]) (fun _ => HN.out.c) ?_
      simp only [Act.put, List.setIfInBounds_toArray, List.set_cons_zero, List.set_cons_succ]
      refine sl_call (d := some 35) rfl rfl rfl ⟨_, Tryz.func108, by kernel_rfl, by kernel_rfl⟩ _ _ _ rfl rfl [tabV h a m o] rfl (sc2_any h a m o HG.out.1 wf) ?_
      rintro e w1 ⟨rfl, hb⟩
      refine ⟨_, rfl, (fun h => by cases h), ?_⟩
      simp only [Act.put, List.setIfInBounds_toArray, List.set_cons_zero, List.set_cons_succ]
      refine sl_q (d := some 29) rfl rfl rfl (.tuple #[.int .i64 (a), .int .i64 (h + a)]) (fun w => rfl) ?_
      simp only [Act.put, List.setIfInBounds_toArray, List.set_cons_zero, List.set_cons_succ]
      refine sl_q (d := some 36) rfl rfl rfl (.int .i64 (a)) (fun w => by simp [execOp, Act.eval, go_sem]) ?_
      simp only [Act.put, List.setIfInBounds_toArray, List.set_cons_zero, List.set_cons_succ]
      refine sl_q (d := some 37) rfl rfl rfl (.int .i64 (h + a)) (fun w => by simp [execOp, Act.eval, go_sem]) ?_
      simp only [Act.put, List.setIfInBounds_toArray, List.set_cons_zero, List.set_cons_succ]
      refine sl_q (d := some 8) rfl rfl rfl (.int .i64 (a)) (fun w => rfl) ?_
      simp only [Act.put, List.setIfInBounds_toArray, List.set_cons_zero, List.set_cons_succ]
      refine sl_q (d := some 9) rfl rfl rfl (.int .i64 (h + a)) (fun w => rfl) ?_
      simp only [Act.put, List.setIfInBounds_toArray, List.set_cons_zero, List.set_cons_succ]
      refine sl_end ?_
      have HW := Lib.hid (HN.out.new hb)
      clear hb HN
      generalize hden : h + a = den at *
      generalize hnum : a = num at *
      clear hnum
      by_cases hd : den = 0
      · subst hd
        have HE : Hid (x = (0, 0, 9)) := HG.out.2
        go_wp2_with (first
          | ((first | with_reducible refine gate_st ?_ | with_reducible refine gate_stw ?_)
             refine row_store rfl _ _ rfl (w.heap.size + 1) rfl [.int .i64 0, .int .i64 0] [.int .i64 0, .int .i64 0] rfl HW.out.r rfl rowT_fr (List.all_eq_true.1 rfl) ?_
             intro wz HRow Hap)
          | fail)
        exact ret_row2 rfl _ _ (.int .i64 9) HRow rowT_fr rfl rfl rfl ⟨by rw [HE.out]; rfl, HW.out.b.trans (Hap.below (by omega))⟩
      · have hd0 : (den == 0) = false := by simpa using hd
        have HR := Lib.hid (fun w => red_any num den w)
        have HE : Hid (x = redOf num den) := by unfold Hid; rw [HG.out.2, if_neg hd]
        rw [← HE.out] at HR
        clear HG HE hd hden
        go_wp2_with fail
        refine (HR.out _).mono ?_
        rintro e w1 ⟨rfl, hb⟩
        have HZ := Lib.hid (HW.out.new hb)
        clear hb HW
        obtain ⟨x1, x2, x3⟩ := x
        simp only [frV]
        go_wp2_with (first
          | ((first | with_reducible refine gate_st ?_ | with_reducible refine gate_stw ?_)
             refine row_store rfl _ _ rfl (w.heap.size + 1) rfl [.int .i64 0, .int .i64 0] [.int .i64 x1, .int .i64 x2] rfl HZ.out.r rfl rowT_fr (List.all_eq_true.1 rfl) ?_
             intro wz HRow Hap)
          | fail)
        exact ret_row2 rfl _ _ (.int .i64 x3) HRow rowT_fr rfl rfl rfl ⟨rfl, HZ.out.b.trans (Hap.below (by omega))⟩
set_option maxHeartbeats 4000000 in
set_option maxRecDepth 100000 in
theorem of3_any (h a m o : Int) (w : World) : Calls Tryz.prog 77 #[.int .i64 2, tabV h a m o] w (RedIs (ofT h a m o (h) (h + a + m)) w) := by
  have HBad : Hid (∀ i : Nat, i < 4 → ¬ (0 ≤ [h, a, m, o].getD i 0 ∧ [h, a, m, o].getD i 0 ≤ 10000) → ofT h a m o (h) (h + a + m) = (0, 0, 1)) := fun i hi hx => bad_tab hi hx _ _
  have HGood : Hid ((∀ i, i < 4 → 0 ≤ [h, a, m, o].getD i 0 ∧ [h, a, m, o].getD i 0 ≤ 10000) → fineT h a m o ∧ ofT h a m o (h) (h + a + m) = if h + a + m = 0 then (0, 0, 9) else redOf (h) (h + a + m)) := fun hp => ⟨good_tab hp, if_pos (good_tab hp)⟩
  generalize ofT h a m o (h) (h + a + m) = x at *
  have HS : Hid (OfS w (w.heap.size + 2) h a m o (((w.alloc (.cells #[.int .i64 h, .int .i64 a, .int .i64 m, .int .i64 o] 33)).alloc (.cells #[.int .i64 0, .int .i64 0] 24)).alloc (.cells #[.int .i64 h, .int .i64 a, .int .i64 m, .int .i64 o] 3))) :=
    ⟨((RowAt.new w [.int .i64 h, .int .i64 a, .int .i64 m, .int .i64 o] (by simp) _ rfl).alloc _).alloc _, (RowAt.new _ [.int .i64 0, .int .i64 0] (by simp) _ (by simp)).alloc _, RowAt.new _ [.int .i64 h, .int .i64 a, .int .i64 m, .int .i64 o] (by simp) _ (by simp), (((Below.refl _ _).alloc (Nat.le_refl _) _).alloc (by simp) _).alloc (by simp; omega) _⟩
  unfold tabV
  go_enter Tryz.func77, Tryz.ntmps77
  go_wp2_with fail
  generalize hg : w.heap.size + 2 = g at *
  clear hg
  generalize ((w.alloc _).alloc _).alloc _ = w2 at HS ⊢
  go_loopw [7, 20] (fun _ kv wr => ∃ k : Nat, k ≤ 4 ∧ kv = .int .i64 k ∧ Hid (∀ i, i < k → 0 ≤ [h, a, m, o].getD i 0 ∧ [h, a, m, o].getD i 0 ≤ 10000) ∧ Hid (OfS w g h a m o wr)) (fun _ kv _ => 4 - (intOf kv).toNat)
  case atStart => exact ⟨0, by omega, rfl, fun i hi => by omega, HS⟩
  case round =>
    clear HS
    obtain ⟨k, hk, rfl, HP, HS⟩ := hrel
    by_cases hlt : k < 4
    · have hki : (k : Int) < 4 := by omega
      have hcell : wr.cell? ⟨g, k, none⟩ = some (.int .i64 ([h, a, m, o].getD k 0)) := by
        refine HS.out.g.at k ?_
        have : k = 0 ∨ k = 1 ∨ k = 2 ∨ k = 3 := by omega
        rcases this with rfl | rfl | rfl | rfl <;> rfl
      have HB1 := Lib.hid (HBad.out k hlt)
      have HP1 : Hid (0 ≤ [h, a, m, o].getD k 0 ∧ [h, a, m, o].getD k 0 ≤ 10000 → ∀ i, i < k + 1 → 0 ≤ [h, a, m, o].getD i 0 ∧ [h, a, m, o].getD i 0 ≤ 10000) := fun hx i hi => by
        rcases Nat.lt_or_ge i k with h' | h'
        · exact HP.out i h'
        · obtain rfl : i = k := by omega
          exact hx
      generalize [h, a, m, o].getD k 0 = y at *
      by_cases hy : 0 ≤ y ∧ y ≤ 10000
      · have HE := Lib.hid (HP1.out hy)
        have hy1 : (decide ((0 : Int) ≤ y) && decide (y ≤ 10000)) = true := by simpa using hy
        clear HB1 HP1 HP
        go_wp2_with fail
        refine (within_any y 0 10000 _).mono ?_
        rintro e w1 ⟨rfl, rfl⟩
        rw [hy1]
        go_wp2_with fail
        go_roundw
        case rel => exact ⟨k + 1, by omega, by go_num, HE.out, HS⟩
        case measure => simp [intOf]; omega
      · have HE : Hid (x = (0, 0, 1)) := HB1.out hy
        have hy1 : (decide ((0 : Int) ≤ y) && decide (y ≤ 10000)) = false := by simp; omega
        clear HB1 HP1 hy
        go_wp2_with fail
        refine (within_any y 0 10000 _).mono ?_
        rintro e w1 ⟨rfl, rfl⟩
        rw [hy1]
        go_wp2_with (first
          | ((first | with_reducible refine gate_st ?_ | with_reducible refine gate_stw ?_)
             refine row_store rfl _ _ rfl (w.heap.size + 1) rfl [.int .i64 0, .int .i64 0] [.int .i64 0, .int .i64 0] rfl HS.out.r rfl rowT_fr (List.all_eq_true.1 rfl) ?_
             intro wz HRow Hap)
          | fail)
        exact ret_row2 rfl _ _ (.int .i64 1) HRow rowT_fr rfl rfl rfl ⟨by rw [HE.out]; rfl, HS.out.b.trans (Hap.below (by omega))⟩
    · obtain rfl : k = 4 := by omega
      have HG := Lib.hid (HGood.out HP.out)
      clear hlt HP
      have HD := Lib.hid (HS.out.new (Below.refl wr.heap.size wr).drew)
      go_wp2_with fail
      refine wp_region_seqL (by kernel_rfl) (fun w' => RowAt w' w.heap.size [.int .i64 h, .int .i64 a, .int .i64 m, .int .i64 o]) 5 [(1, 0), (4, 1), (0, 2), (2, 0), (3, 2), (5, 2), (6, 0), (7, 0), (8, 0), (9, 0), (10, 0)] (by kernel_rfl) (HD.out.c) ?_
      refine sl_q (d := some 31) rfl rfl rfl (.int .i64 2) (fun w => rfl) ?_
      simp only [Act.put, List.setIfInBounds_toArray, List.set_cons_zero, List.set_cons_succ]
      refine sl_s (d := some 34) rfl rfl rfl (tabV h a m o) (fun w hw => row_loadC hw rowT_tab _ rfl rfl) ?_
      simp only [Act.put, List.setIfInBounds_toArray, List.set_cons_zero, List.set_cons_succ]
      refine sl_call (d := some 30) rfl rfl rfl ⟨_, Tryz.func91, by kernel_rfl, by kernel_rfl⟩ _ _ _ rfl rfl [] rfl (scores_any wr.drew) ?_
      rintro e wf ⟨rfl, hwf⟩
      have HF : Hid (RowAt wf wr.drew.heap.size fnCells) := by unfold Hid; rw [hwf]; exact RowAt.new _ fnCells (by simp [fnCells]) _ rfl
      have HN : Hid (OfS w g h a m o wf) := HD.out.new (by rw [hwf]; exact (Below.refl _ _).alloc (Nat.le_refl _) _)
      generalize wr.drew.heap.size = gf at *
      clear hwf
      refine ⟨_, rfl, fun _ => HN.out.c, ?_⟩
      simp only [Act.put, List.setIfInBounds_toArray, List.set_cons_zero, List.set_cons_succ]
      refine sl_q (d := some 32) rfl rfl rfl (.pointer (some ⟨gf, 2, none⟩)) (fun w => by simp [execOp, Act.eval, go_sem]) ?_
      simp only [Act.put, List.setIfInBounds_toArray, List.set_cons_zero, List.set_cons_succ]
      have hc3 := HF.out.at 2 rfl
      refine sl_run (d := some 33) rfl rfl rfl (fnV 109) wf (by simp [execOp, Act.eval, go_sem, hc3]) (fun _ => HN.out.c) ?_
      simp only [Act.put, List.setIfInBounds_toArray, List.set_cons_zero, List.set_cons_succ]
      refine sl_call (d := some 35) rfl rfl rfl ⟨_, Tryz.func109, by kernel_rfl, by kernel_rfl⟩ _ _ _ rfl rfl [tabV h a m o] rfl (sc3_any h a m o HG.out.1 wf) ?_
      rintro e w1 ⟨rfl, hb⟩
      refine ⟨_, rfl, (fun h => by cases h), ?_⟩
      simp only [Act.put, List.setIfInBounds_toArray, List.set_cons_zero, List.set_cons_succ]
      refine sl_q (d := some 29) rfl rfl rfl (.tuple #[.int .i64 (h), .int .i64 (h + a + m)]) (fun w => rfl) ?_
      simp only [Act.put, List.setIfInBounds_toArray, List.set_cons_zero, List.set_cons_succ]
      refine sl_q (d := some 36) rfl rfl rfl (.int .i64 (h)) (fun w => by simp [execOp, Act.eval, go_sem]) ?_
      simp only [Act.put, List.setIfInBounds_toArray, List.set_cons_zero, List.set_cons_succ]
      refine sl_q (d := some 37) rfl rfl rfl (.int .i64 (h + a + m)) (fun w => by simp [execOp, Act.eval, go_sem]) ?_
      simp only [Act.put, List.setIfInBounds_toArray, List.set_cons_zero, List.set_cons_succ]
      refine sl_q (d := some 8) rfl rfl rfl (.int .i64 (h)) (fun w => rfl) ?_
      simp only [Act.put, List.setIfInBounds_toArray, List.set_cons_zero, List.set_cons_succ]
      refine sl_q (d := some 9) rfl rfl rfl (.int .i64 (h + a + m)) (fun w => rfl) ?_
      simp only [Act.put, List.setIfInBounds_toArray, List.set_cons_zero, List.set_cons_succ]
      refine sl_end ?_
      have HW := Lib.hid (HN.out.new hb)
      clear hb HN
      generalize hden : h + a + m = den at *
      generalize hnum : h = num at *
      clear hnum
      by_cases hd : den = 0
      · subst hd
        have HE : Hid (x = (0, 0, 9)) := HG.out.2
        go_wp2_with (first
          | ((first | with_reducible refine gate_st ?_ | with_reducible refine gate_stw ?_)
             refine row_store rfl _ _ rfl (w.heap.size + 1) rfl [.int .i64 0, .int .i64 0] [.int .i64 0, .int .i64 0] rfl HW.out.r rfl rowT_fr (List.all_eq_true.1 rfl) ?_
             intro wz HRow Hap)
          | fail)
        exact ret_row2 rfl _ _ (.int .i64 9) HRow rowT_fr rfl rfl rfl ⟨by rw [HE.out]; rfl, HW.out.b.trans (Hap.below (by omega))⟩
      · have hd0 : (den == 0) = false := by simpa using hd
        have HR := Lib.hid (fun w => red_any num den w)
        have HE : Hid (x = redOf num den) := by unfold Hid; rw [HG.out.2, if_neg hd]
        rw [← HE.out] at HR
        clear HG HE hd hden
        go_wp2_with fail
        refine (HR.out _).mono ?_
        rintro e w1 ⟨rfl, hb⟩
        have HZ := Lib.hid (HW.out.new hb)
        clear hb HW
        obtain ⟨x1, x2, x3⟩ := x
        simp only [frV]
        go_wp2_with (first
          | ((first | with_reducible refine gate_st ?_ | with_reducible refine gate_stw ?_)
             refine row_store rfl _ _ rfl (w.heap.size + 1) rfl [.int .i64 0, .int .i64 0] [.int .i64 x1, .int .i64 x2] rfl HZ.out.r rfl rowT_fr (List.all_eq_true.1 rfl) ?_
             intro wz HRow Hap)
          | fail)
        exact ret_row2 rfl _ _ (.int .i64 x3) HRow rowT_fr rfl rfl rfl ⟨rfl, HZ.out.b.trans (Hap.below (by omega))⟩
set_option maxHeartbeats 4000000 in
set_option maxRecDepth 100000 in
theorem of4_any (h a m o : Int) (w : World) : Calls Tryz.prog 77 #[.int .i64 3, tabV h a m o] w (RedIs (ofT h a m o (2 * (h * o - a * m)) ((h + m) * (m + o) + (h + a) * (a + o))) w) := by
  have HBad : Hid (∀ i : Nat, i < 4 → ¬ (0 ≤ [h, a, m, o].getD i 0 ∧ [h, a, m, o].getD i 0 ≤ 10000) → ofT h a m o (2 * (h * o - a * m)) ((h + m) * (m + o) + (h + a) * (a + o)) = (0, 0, 1)) := fun i hi hx => bad_tab hi hx _ _
  have HGood : Hid ((∀ i, i < 4 → 0 ≤ [h, a, m, o].getD i 0 ∧ [h, a, m, o].getD i 0 ≤ 10000) → fineT h a m o ∧ ofT h a m o (2 * (h * o - a * m)) ((h + m) * (m + o) + (h + a) * (a + o)) = if (h + m) * (m + o) + (h + a) * (a + o) = 0 then (0, 0, 9) else redOf (2 * (h * o - a * m)) ((h + m) * (m + o) + (h + a) * (a + o))) := fun hp => ⟨good_tab hp, if_pos (good_tab hp)⟩
  generalize ofT h a m o (2 * (h * o - a * m)) ((h + m) * (m + o) + (h + a) * (a + o)) = x at *
  have HS : Hid (OfS w (w.heap.size + 2) h a m o (((w.alloc (.cells #[.int .i64 h, .int .i64 a, .int .i64 m, .int .i64 o] 33)).alloc (.cells #[.int .i64 0, .int .i64 0] 24)).alloc (.cells #[.int .i64 h, .int .i64 a, .int .i64 m, .int .i64 o] 3))) :=
    ⟨((RowAt.new w [.int .i64 h, .int .i64 a, .int .i64 m, .int .i64 o] (by simp) _ rfl).alloc _).alloc _, (RowAt.new _ [.int .i64 0, .int .i64 0] (by simp) _ (by simp)).alloc _, RowAt.new _ [.int .i64 h, .int .i64 a, .int .i64 m, .int .i64 o] (by simp) _ (by simp), (((Below.refl _ _).alloc (Nat.le_refl _) _).alloc (by simp) _).alloc (by simp; omega) _⟩
  unfold tabV
  go_enter Tryz.func77, Tryz.ntmps77
  go_wp2_with fail
  generalize hg : w.heap.size + 2 = g at *
  clear hg
  generalize ((w.alloc _).alloc _).alloc _ = w2 at HS ⊢
  go_loopw [7, 20] (fun _ kv wr => ∃ k : Nat, k ≤ 4 ∧ kv = .int .i64 k ∧ Hid (∀ i, i < k → 0 ≤ [h, a, m, o].getD i 0 ∧ [h, a, m, o].getD i 0 ≤ 10000) ∧ Hid (OfS w g h a m o wr)) (fun _ kv _ => 4 - (intOf kv).toNat)
  case atStart => exact ⟨0, by omega, rfl, fun i hi => by omega, HS⟩
  case round =>
    clear HS
    obtain ⟨k, hk, rfl, HP, HS⟩ := hrel
    by_cases hlt : k < 4
    · have hki : (k : Int) < 4 := by omega
      have hcell : wr.cell? ⟨g, k, none⟩ = some (.int .i64 ([h, a, m, o].getD k 0)) := by
        refine HS.out.g.at k ?_
        have : k = 0 ∨ k = 1 ∨ k = 2 ∨ k = 3 := by omega
        rcases this with rfl | rfl | rfl | rfl <;> rfl
      have HB1 := Lib.hid (HBad.out k hlt)
      have HP1 : Hid (0 ≤ [h, a, m, o].getD k 0 ∧ [h, a, m, o].getD k 0 ≤ 10000 → ∀ i, i < k + 1 → 0 ≤ [h, a, m, o].getD i 0 ∧ [h, a, m, o].getD i 0 ≤ 10000) := fun hx i hi => by
        rcases Nat.lt_or_ge i k with h' | h'
        · exact HP.out i h'
        · obtain rfl : i = k := by omega
          exact hx
      generalize [h, a, m, o].getD k 0 = y at *
      by_cases hy : 0 ≤ y ∧ y ≤ 10000
      · have HE := Lib.hid (HP1.out hy)
        have hy1 : (decide ((0 : Int) ≤ y) && decide (y ≤ 10000)) = true := by simpa using hy
        clear HB1 HP1 HP
        go_wp2_with fail
        refine (within_any y 0 10000 _).mono ?_
        rintro e w1 ⟨rfl, rfl⟩
        rw [hy1]
        go_wp2_with fail
        go_roundw
        case rel => exact ⟨k + 1, by omega, by go_num, HE.out, HS⟩
        case measure => simp [intOf]; omega
      · have HE : Hid (x = (0, 0, 1)) := HB1.out hy
        have hy1 : (decide ((0 : Int) ≤ y) && decide (y ≤ 10000)) = false := by simp; omega
        clear HB1 HP1 hy
        go_wp2_with fail
        refine (within_any y 0 10000 _).mono ?_
        rintro e w1 ⟨rfl, rfl⟩
        rw [hy1]
        go_wp2_with (first
          | ((first | with_reducible refine gate_st ?_ | with_reducible refine gate_stw ?_)
             refine row_store rfl _ _ rfl (w.heap.size + 1) rfl [.int .i64 0, .int .i64 0] [.int .i64 0, .int .i64 0] rfl HS.out.r rfl rowT_fr (List.all_eq_true.1 rfl) ?_
             intro wz HRow Hap)
          | fail)
        exact ret_row2 rfl _ _ (.int .i64 1) HRow rowT_fr rfl rfl rfl ⟨by rw [HE.out]; rfl, HS.out.b.trans (Hap.below (by omega))⟩
    · obtain rfl : k = 4 := by omega
      have HG := Lib.hid (HGood.out HP.out)
      clear hlt HP
      have HD := Lib.hid (HS.out.new (Below.refl wr.heap.size wr).drew)
      go_wp2_with fail
      refine wp_region_seqL (by kernel_rfl) (fun w' => RowAt w' w.heap.size [.int .i64 h, .int .i64 a, .int .i64 m, .int .i64 o]) 5 [(1, 0), (4, 1), (0, 2), (2, 0), (3, 2), (5, 2), (6, 0), (7, 0), (8, 0), (9, 0), (10, 0)] (by kernel_rfl) (HD.out.c) ?_
      refine sl_q (d := some 31) rfl rfl rfl (.int .i64 3) (fun w => rfl) ?_
      simp only [Act.put, List.setIfInBounds_toArray, List.set_cons_zero, List.set_cons_succ]
      refine sl_s (d := some 34) rfl rfl rfl (tabV h a m o) (fun w hw => row_loadC hw rowT_tab _ rfl rfl) ?_
      simp only [Act.put, List.setIfInBounds_toArray, List.set_cons_zero, List.set_cons_succ]
      refine sl_call (d := some 30) rfl rfl rfl ⟨_, Tryz.func91, by kernel_rfl, by kernel_rfl⟩ _ _ _ rfl rfl [] rfl (scores_any wr.drew) ?_
      rintro e wf ⟨rfl, hwf⟩
      have HF : Hid (RowAt wf wr.drew.heap.size fnCells) := by unfold Hid; rw [hwf]; exact RowAt.new _ fnCells (by simp [fnCells]) _ rfl
      have HN : Hid (OfS w g h a m o wf) := HD.out.new (by rw [hwf]; exact (Below.refl _ _).alloc (Nat.le_refl _) _)
      generalize wr.drew.heap.size = gf at *
      clear hwf
      refine ⟨_, rfl, fun _ => HN.out.c, ?_⟩
      simp only [Act.put, List.setIfInBounds_toArray, List.set_cons_zero, List.set_cons_succ]
      refine sl_q (d := some 32) rfl rfl rfl (.pointer (some ⟨gf, 3, none⟩)) (fun w => by simp [execOp, Act.eval, go_sem]) ?_
      simp only [Act.put, List.setIfInBounds_toArray, List.set_cons_zero, List.set_cons_succ]
      have hc3 := HF.out.at 3 rfl
      refine sl_run (d := some 33) rfl rfl rfl (fnV 110) wf (by simp [execOp, Act.eval, go_sem, hc3]) (fun _ => HN.out.c) ?_
      simp only [Act.put, List.setIfInBounds_toArray, List.set_cons_zero, List.set_cons_succ]
      refine sl_call (d := some 35) rfl rfl rfl ⟨_, Tryz.func110, by kernel_rfl, by kernel_rfl⟩ _ _ _ rfl rfl [tabV h a m o] rfl (sc4_any h a m o HG.out.1 wf) ?_
      rintro e w1 ⟨rfl, hb⟩
      refine ⟨_, rfl, (fun h => by cases h), ?_⟩
      simp only [Act.put, List.setIfInBounds_toArray, List.set_cons_zero, List.set_cons_succ]
      refine sl_q (d := some 29) rfl rfl rfl (.tuple #[.int .i64 (2 * (h * o - a * m)), .int .i64 ((h + m) * (m + o) + (h + a) * (a + o))]) (fun w => rfl) ?_
      simp only [Act.put, List.setIfInBounds_toArray, List.set_cons_zero, List.set_cons_succ]
      refine sl_q (d := some 36) rfl rfl rfl (.int .i64 (2 * (h * o - a * m))) (fun w => by simp [execOp, Act.eval, go_sem]) ?_
      simp only [Act.put, List.setIfInBounds_toArray, List.set_cons_zero, List.set_cons_succ]
      refine sl_q (d := some 37) rfl rfl rfl (.int .i64 ((h + m) * (m + o) + (h + a) * (a + o))) (fun w => by simp [execOp, Act.eval, go_sem]) ?_
      simp only [Act.put, List.setIfInBounds_toArray, List.set_cons_zero, List.set_cons_succ]
      refine sl_q (d := some 8) rfl rfl rfl (.int .i64 (2 * (h * o - a * m))) (fun w => rfl) ?_
      simp only [Act.put, List.setIfInBounds_toArray, List.set_cons_zero, List.set_cons_succ]
      refine sl_q (d := some 9) rfl rfl rfl (.int .i64 ((h + m) * (m + o) + (h + a) * (a + o))) (fun w => rfl) ?_
      simp only [Act.put, List.setIfInBounds_toArray, List.set_cons_zero, List.set_cons_succ]
      refine sl_end ?_
      have HW := Lib.hid (HN.out.new hb)
      clear hb HN
      generalize hden : (h + m) * (m + o) + (h + a) * (a + o) = den at *
      generalize hnum : 2 * (h * o - a * m) = num at *
      clear hnum
      by_cases hd : den = 0
      · subst hd
        have HE : Hid (x = (0, 0, 9)) := HG.out.2
        go_wp2_with (first
          | ((first | with_reducible refine gate_st ?_ | with_reducible refine gate_stw ?_)
             refine row_store rfl _ _ rfl (w.heap.size + 1) rfl [.int .i64 0, .int .i64 0] [.int .i64 0, .int .i64 0] rfl HW.out.r rfl rowT_fr (List.all_eq_true.1 rfl) ?_
             intro wz HRow Hap)
          | fail)
        exact ret_row2 rfl _ _ (.int .i64 9) HRow rowT_fr rfl rfl rfl ⟨by rw [HE.out]; rfl, HW.out.b.trans (Hap.below (by omega))⟩
      · have hd0 : (den == 0) = false := by simpa using hd
        have HR := Lib.hid (fun w => red_any num den w)
        have HE : Hid (x = redOf num den) := by unfold Hid; rw [HG.out.2, if_neg hd]
        rw [← HE.out] at HR
        clear HG HE hd hden
        go_wp2_with fail
        refine (HR.out _).mono ?_
        rintro e w1 ⟨rfl, hb⟩
        have HZ := Lib.hid (HW.out.new hb)
        clear hb HW
        obtain ⟨x1, x2, x3⟩ := x
        simp only [frV]
        go_wp2_with (first
          | ((first | with_reducible refine gate_st ?_ | with_reducible refine gate_stw ?_)
             refine row_store rfl _ _ rfl (w.heap.size + 1) rfl [.int .i64 0, .int .i64 0] [.int .i64 x1, .int .i64 x2] rfl HZ.out.r rfl rowT_fr (List.all_eq_true.1 rfl) ?_
             intro wz HRow Hap)
          | fail)
        exact ret_row2 rfl _ _ (.int .i64 x3) HRow rowT_fr rfl rfl rfl ⟨rfl, HZ.out.b.trans (Hap.below (by omega))⟩
theorem Detection_any (h a m o : Int) (w : World) : Calls Tryz.prog 52 #[tabV h a m o] w (RedIs (ofT h a m o (h) (h + m)) w) := by
  have HR := Lib.hid (fun w => of1_any h a m o w)
  generalize ofT h a m o (h) (h + m) = x at *
  have HS : Hid (CivAt w (w.heap.size + 1) [.int .i64 0, .int .i64 0] ((w.alloc (.cells #[.int .i64 h, .int .i64 a, .int .i64 m, .int .i64 o] 33)).alloc (.cells #[.int .i64 0, .int .i64 0] 24))) := ⟨RowAt.new _ [.int .i64 0, .int .i64 0] (by simp) _ (by simp), ((Below.refl _ _).alloc (Nat.le_refl _) _).alloc (by simp) _⟩
  unfold tabV at HR ⊢
  go_enter Tryz.func52, Tryz.ntmps52
  go_wp2_with fail
  refine (HR.out _).mono ?_
  rintro e w1 ⟨rfl, hb⟩
  have HW : Hid (CivAt w (w.heap.size + 1) [.int .i64 0, .int .i64 0] w1) := HS.out.new hb
  clear hb HS
  obtain ⟨x1, x2, x3⟩ := x
  simp only [frV]
  go_wp2_with (first
    | ((first | with_reducible refine gate_st ?_ | with_reducible refine gate_stw ?_)
       refine row_store rfl _ _ rfl (w.heap.size + 1) rfl [.int .i64 0, .int .i64 0] [.int .i64 x1, .int .i64 x2] rfl HW.out.1 rfl rowT_fr (List.all_eq_true.1 rfl) ?_
       intro wz HRow Hap)
    | fail)
  exact ret_row2 rfl _ _ (.int .i64 x3) HRow rowT_fr rfl rfl rfl ⟨rfl, HW.out.2.trans (Hap.below (by omega))⟩
theorem FalseAlarm_any (h a m o : Int) (w : World) : Calls Tryz.prog 53 #[tabV h a m o] w (RedIs (ofT h a m o (a) (h + a)) w) := by
  have HR := Lib.hid (fun w => of2_any h a m o w)
  generalize ofT h a m o (a) (h + a) = x at *
  have HS : Hid (CivAt w (w.heap.size + 1) [.int .i64 0, .int .i64 0] ((w.alloc (.cells #[.int .i64 h, .int .i64 a, .int .i64 m, .int .i64 o] 33)).alloc (.cells #[.int .i64 0, .int .i64 0] 24))) := ⟨RowAt.new _ [.int .i64 0, .int .i64 0] (by simp) _ (by simp), ((Below.refl _ _).alloc (Nat.le_refl _) _).alloc (by simp) _⟩
  unfold tabV at HR ⊢
  go_enter Tryz.func53, Tryz.ntmps53
  go_wp2_with fail
  refine (HR.out _).mono ?_
  rintro e w1 ⟨rfl, hb⟩
  have HW : Hid (CivAt w (w.heap.size + 1) [.int .i64 0, .int .i64 0] w1) := HS.out.new hb
  clear hb HS
  obtain ⟨x1, x2, x3⟩ := x
  simp only [frV]
  go_wp2_with (first
    | ((first | with_reducible refine gate_st ?_ | with_reducible refine gate_stw ?_)
       refine row_store rfl _ _ rfl (w.heap.size + 1) rfl [.int .i64 0, .int .i64 0] [.int .i64 x1, .int .i64 x2] rfl HW.out.1 rfl rowT_fr (List.all_eq_true.1 rfl) ?_
       intro wz HRow Hap)
    | fail)
  exact ret_row2 rfl _ _ (.int .i64 x3) HRow rowT_fr rfl rfl rfl ⟨rfl, HW.out.2.trans (Hap.below (by omega))⟩
theorem Threat_any (h a m o : Int) (w : World) : Calls Tryz.prog 54 #[tabV h a m o] w (RedIs (ofT h a m o (h) (h + a + m)) w) := by
  have HR := Lib.hid (fun w => of3_any h a m o w)
  generalize ofT h a m o (h) (h + a + m) = x at *
  have HS : Hid (CivAt w (w.heap.size + 1) [.int .i64 0, .int .i64 0] ((w.alloc (.cells #[.int .i64 h, .int .i64 a, .int .i64 m, .int .i64 o] 33)).alloc (.cells #[.int .i64 0, .int .i64 0] 24))) := ⟨RowAt.new _ [.int .i64 0, .int .i64 0] (by simp) _ (by simp), ((Below.refl _ _).alloc (Nat.le_refl _) _).alloc (by simp) _⟩
  unfold tabV at HR ⊢
  go_enter Tryz.func54, Tryz.ntmps54
  go_wp2_with fail
  refine (HR.out _).mono ?_
  rintro e w1 ⟨rfl, hb⟩
  have HW : Hid (CivAt w (w.heap.size + 1) [.int .i64 0, .int .i64 0] w1) := HS.out.new hb
  clear hb HS
  obtain ⟨x1, x2, x3⟩ := x
  simp only [frV]
  go_wp2_with (first
    | ((first | with_reducible refine gate_st ?_ | with_reducible refine gate_stw ?_)
       refine row_store rfl _ _ rfl (w.heap.size + 1) rfl [.int .i64 0, .int .i64 0] [.int .i64 x1, .int .i64 x2] rfl HW.out.1 rfl rowT_fr (List.all_eq_true.1 rfl) ?_
       intro wz HRow Hap)
    | fail)
  exact ret_row2 rfl _ _ (.int .i64 x3) HRow rowT_fr rfl rfl rfl ⟨rfl, HW.out.2.trans (Hap.below (by omega))⟩
theorem Heidke_any (h a m o : Int) (w : World) : Calls Tryz.prog 55 #[tabV h a m o] w (RedIs (ofT h a m o (2 * (h * o - a * m)) ((h + m) * (m + o) + (h + a) * (a + o))) w) := by
  have HR := Lib.hid (fun w => of4_any h a m o w)
  generalize ofT h a m o (2 * (h * o - a * m)) ((h + m) * (m + o) + (h + a) * (a + o)) = x at *
  have HS : Hid (CivAt w (w.heap.size + 1) [.int .i64 0, .int .i64 0] ((w.alloc (.cells #[.int .i64 h, .int .i64 a, .int .i64 m, .int .i64 o] 33)).alloc (.cells #[.int .i64 0, .int .i64 0] 24))) := ⟨RowAt.new _ [.int .i64 0, .int .i64 0] (by simp) _ (by simp), ((Below.refl _ _).alloc (Nat.le_refl _) _).alloc (by simp) _⟩
  unfold tabV at HR ⊢
  go_enter Tryz.func55, Tryz.ntmps55
  go_wp2_with fail
  refine (HR.out _).mono ?_
  rintro e w1 ⟨rfl, hb⟩
  have HW : Hid (CivAt w (w.heap.size + 1) [.int .i64 0, .int .i64 0] w1) := HS.out.new hb
  clear hb HS
  obtain ⟨x1, x2, x3⟩ := x
  simp only [frV]
  go_wp2_with (first
    | ((first | with_reducible refine gate_st ?_ | with_reducible refine gate_stw ?_)
       refine row_store rfl _ _ rfl (w.heap.size + 1) rfl [.int .i64 0, .int .i64 0] [.int .i64 x1, .int .i64 x2] rfl HW.out.1 rfl rowT_fr (List.all_eq_true.1 rfl) ?_
       intro wz HRow Hap)
    | fail)
  exact ret_row2 rfl _ _ (.int .i64 x3) HRow rowT_fr rfl rfl rfl ⟨rfl, HW.out.2.trans (Hap.below (by omega))⟩
end Go.Proofs.YtmmmebdgannpgaaGreatDoor
/- Texts of errors, of the monitor and of its reference. Printed by gen_txta.py. -/
namespace Go.Proofs.YtmmmebdgannpgaaGreatDoor
open Go Go.RowKit

/-- The word of a score. -/
def wrtT (x : Int × Int × Int) : List UInt8 := if x.2.2 = 0 then fracT x.1 x.2.1 else [63]
theorem wrtT_len (x : Int × Int × Int) (h : I64x x) : 1 ≤ (wrtT x).length ∧ (wrtT x).length ≤ 43 := by
  unfold wrtT
  split
  · exact fracT_len _ _ h.1 h.2
  · simp
theorem written_any (p q r : Int) (hx : I64x (p, q, r)) (w : World) (hT : Tab w) : Calls Tryz.prog 46 #[.agg #[.int .i64 p, .int .i64 q], .int .i64 r] w fun e w' => e = .returned (strV (wrtT (p, q, r))) ∧ Below w.heap.size w w' := by
  have HB : Hid (Below w.heap.size w (w.alloc (.cells #[.int .i64 p, .int .i64 q] 24))) := (Below.refl _ _).alloc (Nat.le_refl _) _
  by_cases h : r = 0
  · subst h
    rw [show wrtT (p, q, 0) = fracT p q from rfl]
    have HF := Lib.hid (fraction_any p q hx.1 hx.2 (w.alloc (.cells #[.int .i64 p, .int .i64 q] 24)) (hT.alloc _))
    clear hx hT
    generalize fracT p q = s at *
    unfold strV at HF
    go_enter Tryz.func46, Tryz.ntmps46
    go_wp2_with fail
    refine HF.out.mono ?_
    rintro e w1 ⟨rfl, hb⟩
    have HB2 := Lib.hid (below_then HB.out hb)
    clear hb HF
    go_wp2_with fail
    go_ret
    exact ⟨rfl, HB2.out⟩
  · have HK : Hid (wrtT (p, q, r) = [63]) := if_neg h
    have h0 : (r == 0) = false := by simpa using h
    clear h hx hT
    go_enter Tryz.func46, Tryz.ntmps46
    go_wp2_with fail
    go_ret
    exact ⟨by rw [HK.out]; rfl, HB.out⟩
theorem or_any (p q r : Int) (hx : I64x (p, q, r)) (w : World)  : Calls Tryz.prog 49 #[.agg #[.int .i64 p, .int .i64 q], .int .i64 r] w fun e w' => e = .returned (strV (wrtT (p, q, r))) ∧ Below w.heap.size w w' := by
  have HB : Hid (Below w.heap.size w (w.alloc (.cells #[.int .i64 p, .int .i64 q] 24))) := (Below.refl _ _).alloc (Nat.le_refl _) _
  by_cases h : r = 0
  · subst h
    rw [show wrtT (p, q, 0) = fracT p q from rfl]
    have HF := Lib.hid (rfraction_any p q hx.1 hx.2 (w.alloc (.cells #[.int .i64 p, .int .i64 q] 24)) )
    clear hx 
    generalize fracT p q = s at *
    unfold strV at HF
    go_enter Tryz.func49, Tryz.ntmps49
    go_wp2_with fail
    refine HF.out.mono ?_
    rintro e w1 ⟨rfl, hb⟩
    have HB2 := Lib.hid (below_then HB.out hb)
    clear hb HF
    go_wp2_with fail
    go_ret
    exact ⟨rfl, HB2.out⟩
  · have HK : Hid (wrtT (p, q, r) = [63]) := if_neg h
    have h0 : (r == 0) = false := by simpa using h
    clear h hx 
    go_enter Tryz.func49, Tryz.ntmps49
    go_wp2_with fail
    go_ret
    exact ⟨by rw [HK.out]; rfl, HB.out⟩
/-- The text of a summary. -/
def errT (n s q : Int) : List UInt8 := if n = 0 then [110, 32, 48] else wordsOf (wordsOf [] [[110], Lib.itoa n]) [[109, 101, 97, 110], wrtT (meanOf s n), [115, 113, 117, 97, 114, 101], wrtT (meanOf q n)]
theorem WrS.start (w : World) (ds : List Value) (T : TypeId) (hT : T ≠ 5) (hp : 0 < ds.length) {A : Array Value} (hA : A = ds.toArray) : WrS w w.heap.size (w.heap.size + 1) ds [] ((w.alloc (.cells A T)).alloc (.cells #[.pointer none, .slice none 0 0] WT)) := by
  subst hA
  refine ⟨⟨T, hT, ?_⟩, Or.inl ⟨by omega, _, ?_, World.ownsRow_nil _ _ _ _, by simp [Value.ownBlock]⟩, ((Below.refl _ _).alloc (Nat.le_refl _) _).alloc (by simp) _, by omega, hp⟩
  · rw [Lib.alloc_old _ _ _ (by simp)]; exact heap_alloc_new w _
  · have := heap_alloc_new (w.alloc (.cells ds.toArray T)) (.cells #[.pointer none, .slice none 0 0] WT)
    simpa using this
theorem WrS.tab {w wr : World} {c b : Nat} {ds : List Value} {l : List UInt8} (h : WrS w c b ds l wr) (hT : Tab w) : Tab wr := hT.below h.bel
theorem WrS.le {w wr : World} {c b : Nat} {ds : List Value} {l : List UInt8} (h : WrS w c b ds l wr) : w.heap.size ≤ wr.heap.size := h.bel.size
theorem rowT_err : RowT 31 4 := ⟨by kernel_rfl, _, Tryz.underlying31, rfl⟩
set_option maxHeartbeats 4000000 in
set_option maxRecDepth 100000 in
theorem errors_any (n s a q : Int) (hn : I64 n) (w : World) (hT : Tab w) : Calls Tryz.prog 18 #[.agg #[.int .i64 n, .int .i64 s, .int .i64 a, .int .i64 q]] w fun e w' => e = .returned (strV (errT n s q)) ∧ Below w.heap.size w w' := by
  have HS := Lib.hid (WrS.start w [.int .i64 n, .int .i64 s, .int .i64 a, .int .i64 q] 31 (by decide) (by simp) rfl)
  have HT := Lib.hid hT
  have hlen := itoa_len n hn
  have hw1 : (wordsOf [] [[110], Lib.itoa n]).length ≤ 100 := Nat.le_trans (wordsOf_len _ _) (by simp; omega)
  have hne : wordsOf [] [[110], Lib.itoa n] ≠ [] := wordsOf_ne _ _ (Or.inr (by simp)) (fun x hx => by simp at hx; rcases hx with rfl | rfl; simp; exact itoa_ne n)
  have NC := Lib.hid (number_any w.heap.size (w.heap.size + 1) [] [110] n _ HS.out.isb HS.out.le (HS.out.tab hT) hn (by simp) (by simp))
  have HN := Lib.hid hn
  clear hT hlen hn
  unfold strV at NC
  go_enter Tryz.func18, Tryz.ntmps18
  go_wp2_with fail
  refine NC.out.mono ?_
  rintro e w1 ⟨rfl, hw⟩
  have HS1 := Lib.hid (HS.out.wrote hw)
  clear hw NC HS
  have HC1 := Lib.hid HS1.out.civ
  have c0 : w1.cell? ⟨w.heap.size, 0, none⟩ = some (.int .i64 n) := HC1.out.1.at 0 rfl
  by_cases h : n = 0
  · subst h
    have HE : Hid (wordsOf [] [[110], Lib.itoa 0] = errT 0 s q) := by unfold Hid errT; rw [if_pos rfl]; decide +kernel
    rw [HE.out] at HS1 hne
    have SC := Lib.hid (string_any w.heap.size (w.heap.size + 1) _ w1 HS1.out.isb hne)
    generalize hr : errT 0 s q = r at *
    clear hw1 hne
    go_wp2_with fail
    refine SC.out.mono ?_
    rintro e w2 ⟨rfl, hb⟩
    have HB := Lib.hid (HS1.out.bel.trans hb)
    clear hb SC
    go_wp2_with fail
    go_ret
    exact ⟨by rw [hr]; rfl, HB.out⟩
  · have h0 : (n == 0) = false := by simpa using h
    have HE : Hid (errT n s q = wordsOf (wordsOf [] [[110], Lib.itoa n]) [[109, 101, 97, 110], wrtT (meanOf s n), [115, 113, 117, 97, 114, 101], wrtT (meanOf q n)]) := if_neg h
    have HM1 := Lib.hid (fun w => Mean_any n s a q w)
    have HM2 := Lib.hid (fun w => MeanSq_any n s a q w)
    have hi1 := meanOf_I64 s n
    have hi2 := meanOf_I64 q n
    generalize meanOf s n = x at *
    generalize meanOf q n = y at *
    obtain ⟨x1, x2, x3⟩ := x
    obtain ⟨y1, y2, y3⟩ := y
    have hl1 := wrtT_len _ hi1
    have hl2 := wrtT_len _ hi2
    have HI1 := Lib.hid hi1
    have HI2 := Lib.hid hi2
    generalize hz : wordsOf [] [[110], Lib.itoa n] = z at *
    clear hz hi1 hi2 h
    have HD0 := Lib.hid (HS1.out.new (Below.refl w1.heap.size w1).drew)
    generalize hbk : w.heap.size + 1 = b at *
    go_wp2_with fail
    refine wp_region_seqL (by kernel_rfl) (fun w' => CivAt w w.heap.size [.int .i64 n, .int .i64 s, .int .i64 a, .int .i64 q] w') 15 [(0, 0), (1, 1), (6, 1), (2, 2), (3, 0), (4, 0), (5, 2), (7, 2), (8, 0), (9, 0), (10, 2), (11, 2), (12, 2), (13, 0), (14, 0), (15, 2), (16, 0)] (by kernel_rfl) (HD0.out.civ) ?_
    refine sl_q (d := some 16) rfl rfl rfl (.pointer (some ⟨b, 0, none⟩)) (fun w => rfl) ?_
    simp only [Act.put, List.setIfInBounds_toArray, List.set_cons_zero, List.set_cons_succ]
    refine sl_s (d := some 17) rfl rfl rfl (.agg #[.int .i64 n, .int .i64 s, .int .i64 a, .int .i64 q]) (fun w hw => row_loadC hw.1 rowT_err _ rfl rfl) ?_
    simp only [Act.put, List.setIfInBounds_toArray, List.set_cons_zero, List.set_cons_succ]
    refine sl_s (d := some 22) rfl rfl rfl (.agg #[.int .i64 n, .int .i64 s, .int .i64 a, .int .i64 q]) (fun w hw => row_loadC hw.1 rowT_err _ rfl rfl) ?_
    simp only [Act.put, List.setIfInBounds_toArray, List.set_cons_zero, List.set_cons_succ]
    refine sl_call (d := some 18) rfl rfl rfl ⟨_, Tryz.func47, by kernel_rfl, by kernel_rfl⟩ _ _ _ rfl rfl [.agg #[.int .i64 n, .int .i64 s, .int .i64 a, .int .i64 q]] rfl (HM1.out w1.drew) ?_
    rintro e u1 ⟨rfl, hb⟩
    have HD1 := Lib.hid (HD0.out.new hb)
    refine ⟨_, rfl, fun _ => HD1.out.civ, ?_⟩
    clear hb HD0
    simp only [Act.put, List.setIfInBounds_toArray, List.set_cons_zero, List.set_cons_succ]
    refine sl_q (d := some 19) rfl rfl rfl (.agg #[.int .i64 x1, .int .i64 x2]) (fun w => by simp [execOp, Act.eval, go_sem, frV]) ?_
    simp only [Act.put, List.setIfInBounds_toArray, List.set_cons_zero, List.set_cons_succ]
    refine sl_q (d := some 20) rfl rfl rfl (.int .i64 x3) (fun w => by simp [execOp, Act.eval, go_sem, frV]) ?_
    simp only [Act.put, List.setIfInBounds_toArray, List.set_cons_zero, List.set_cons_succ]
    refine sl_call (d := some 21) rfl rfl rfl ⟨_, Tryz.func46, by kernel_rfl, by kernel_rfl⟩ _ _ _ rfl rfl [.agg #[.int .i64 x1, .int .i64 x2], .int .i64 x3] rfl (written_any x1 x2 x3 HI1.out u1 (HD1.out.tab HT.out)) ?_
    rintro e u2 ⟨rfl, hb⟩
    have HD2 := Lib.hid (HD1.out.new hb)
    refine ⟨_, rfl, fun _ => HD2.out.civ, ?_⟩
    clear hb HD1
    simp only [Act.put, List.setIfInBounds_toArray, List.set_cons_zero, List.set_cons_succ]
    refine sl_call (d := some 23) rfl rfl rfl ⟨_, Tryz.func48, by kernel_rfl, by kernel_rfl⟩ _ _ _ rfl rfl [.agg #[.int .i64 n, .int .i64 s, .int .i64 a, .int .i64 q]] rfl (HM2.out u2) ?_
    rintro e u3 ⟨rfl, hb⟩
    have HD3 := Lib.hid (HD2.out.new hb)
    refine ⟨_, rfl, fun _ => HD3.out.civ, ?_⟩
    clear hb HD2
    simp only [Act.put, List.setIfInBounds_toArray, List.set_cons_zero, List.set_cons_succ]
    refine sl_q (d := some 24) rfl rfl rfl (.agg #[.int .i64 y1, .int .i64 y2]) (fun w => by simp [execOp, Act.eval, go_sem, frV]) ?_
    simp only [Act.put, List.setIfInBounds_toArray, List.set_cons_zero, List.set_cons_succ]
    refine sl_q (d := some 25) rfl rfl rfl (.int .i64 y3) (fun w => by simp [execOp, Act.eval, go_sem, frV]) ?_
    simp only [Act.put, List.setIfInBounds_toArray, List.set_cons_zero, List.set_cons_succ]
    refine sl_call (d := some 26) rfl rfl rfl ⟨_, Tryz.func46, by kernel_rfl, by kernel_rfl⟩ _ _ _ rfl rfl [.agg #[.int .i64 y1, .int .i64 y2], .int .i64 y3] rfl (written_any y1 y2 y3 HI2.out u3 (HD3.out.tab HT.out)) ?_
    rintro e u4 ⟨rfl, hb⟩
    have HD4 := Lib.hid (HD3.out.new hb)
    refine ⟨_, rfl, fun _ => HD4.out.civ, ?_⟩
    clear hb HD3
    simp only [Act.put, List.setIfInBounds_toArray, List.set_cons_zero, List.set_cons_succ]
    obtain ⟨u5, hu5⟩ : ∃ x, x = u4.alloc (.cells #[strV ([109, 101, 97, 110]), strV (wrtT (x1, x2, x3)), strV ([115, 113, 117, 97, 114, 101]), strV (wrtT (y1, y2, y3))] 9) := ⟨_, rfl⟩
    obtain ⟨g, hg⟩ : ∃ x, x = u4.heap.size := ⟨_, rfl⟩
    have hb : Below u4.heap.size u4 u5 := by rw [hu5]; exact (Below.refl _ _).alloc (Nat.le_refl _) _
    have HD5 := Lib.hid (HD4.out.new hb)
    have HLg : Hid (StrsAt u5 g [[109, 101, 97, 110], wrtT (x1, x2, x3), [115, 113, 117, 97, 114, 101], wrtT (y1, y2, y3)]) := by unfold Hid; rw [hu5]; exact strs_lit _ [[109, 101, 97, 110], wrtT (x1, x2, x3), [115, 113, 117, 97, 114, 101], wrtT (y1, y2, y3)] rfl hg.symm
    have HNeg : Hid (g ≠ b) := by have := HD4.out.lt; unfold Hid; omega
    refine sl_run (d := some 27) rfl rfl rfl (.slice (some ⟨g, 0, none⟩) 4 4) u5 (by rw [hu5, hg]; simp [execOp, Act.eval, go_sem, strV]) (fun _ => HD5.out.civ) ?_
    simp only [Act.put, List.setIfInBounds_toArray, List.set_cons_zero, List.set_cons_succ]
    clear hb HD4 hu5 hg
    refine sl_call (d := some 28) rfl rfl rfl ⟨_, Tryz.func42, by kernel_rfl, by kernel_rfl⟩ _ _ _ rfl rfl [.pointer (some ⟨b, 0, none⟩), .slice (some ⟨g, 0, none⟩) 4 4] rfl (words_any w.heap.size b g 4 4 (z) [[109, 101, 97, 110], wrtT (x1, x2, x3), [115, 113, 117, 97, 114, 101], wrtT (y1, y2, y3)] u5 HD5.out.isb HLg.out rfl HNeg.out (by simp; omega) HD5.out.le) ?_
    rintro e u6 ⟨rfl, hw⟩
    have HD6 := Lib.hid (HD5.out.wrote hw)
    refine ⟨_, rfl, fun _ => HD6.out.civ, ?_⟩
    clear hw HD5
    simp only [Act.put, List.setIfInBounds_toArray, List.set_cons_zero, List.set_cons_succ]
    refine sl_q (d := some 29) rfl rfl rfl (.pointer (some ⟨b, 0, none⟩)) (fun w => rfl) ?_
    simp only [Act.put, List.setIfInBounds_toArray, List.set_cons_zero, List.set_cons_succ]
    refine sl_q (d := some 30) rfl rfl rfl (.pointer (some ⟨b, 0, none⟩)) (fun w => by simp [execOp, Act.eval, go_sem]) ?_
    simp only [Act.put, List.setIfInBounds_toArray, List.set_cons_zero, List.set_cons_succ]
    refine sl_call (d := some 31) rfl rfl rfl ⟨_, Tryz.func44, by kernel_rfl, by kernel_rfl⟩ _ _ _ rfl rfl [.pointer (some ⟨b, 0, none⟩)] rfl (string_any w.heap.size b (wordsOf (z) [[109, 101, 97, 110], wrtT (x1, x2, x3), [115, 113, 117, 97, 114, 101], wrtT (y1, y2, y3)]) u6 HD6.out.isb (by rw [wordsOf_app _ _ hne]; simp)) ?_
    rintro e u7 ⟨rfl, hb⟩
    have HDz := Lib.hid HD6.out
    refine ⟨_, rfl, (fun h => by cases h), ?_⟩
    simp only [Act.put, List.setIfInBounds_toArray, List.set_cons_zero, List.set_cons_succ]
    refine sl_q (d := some 2) rfl rfl rfl (.string ⟨(wordsOf (z) [[109, 101, 97, 110], wrtT (x1, x2, x3), [115, 113, 117, 97, 114, 101], wrtT (y1, y2, y3)]).toArray⟩) (fun w => rfl) ?_
    simp only [Act.put, List.setIfInBounds_toArray, List.set_cons_zero, List.set_cons_succ]
    refine sl_end ?_
    have HB := Lib.hid (HDz.out.bel.trans hb)
    go_wp2_with fail
    go_ret
    exact ⟨by rw [HE.out]; rfl, HB.out⟩
theorem errT_sum (n s q : Int) (h : n ≠ 0) : [110, 32] ++ Lib.itoa n ++ [32, 109, 101, 97, 110, 32] ++ wrtT (meanOf s n) ++ [32, 115, 113, 117, 97, 114, 101, 32] ++ wrtT (meanOf q n) = errT n s q := by
  unfold errT
  rw [if_neg h, wordsOf_app _ _ (wordsOf_ne _ _ (Or.inr (by simp)) (fun x hx => by simp at hx; rcases hx with rfl | rfl; simp; exact itoa_ne n))]
  simp [wordsOf]
set_option maxHeartbeats 4000000 in
set_option maxRecDepth 100000 in
theorem rerrors_any (n s a q : Int) (hn : I64 n) (w : World) : Calls Tryz.prog 19 #[.agg #[.int .i64 n, .int .i64 s, .int .i64 a, .int .i64 q]] w fun e w' => e = .returned (strV (errT n s q)) ∧ Below w.heap.size w w' := by
  have HS : Hid (CivAt w w.heap.size [.int .i64 n, .int .i64 s, .int .i64 a, .int .i64 q] (w.alloc (.cells #[.int .i64 n, .int .i64 s, .int .i64 a, .int .i64 q] 31))) := ⟨RowAt.new w [.int .i64 n, .int .i64 s, .int .i64 a, .int .i64 q] (by simp) _ rfl, (Below.refl _ _).alloc (Nat.le_refl _) _⟩
  by_cases h : n = 0
  · subst h
    go_enter Tryz.func19, Tryz.ntmps19
    go_wp2_with fail
    go_ret
    exact ⟨rfl, HS.out.2⟩
  · have h0 : (n == 0) = false := by simpa using h
    have HE := Lib.hid (errT_sum n s q h)
    have HM1 := Lib.hid (fun w => rMean_any n s a q w)
    have HM2 := Lib.hid (fun w => rMeanSq_any n s a q w)
    have ID := Lib.hid (fun w => rdecimal_any n hn w)
    have hlen := itoa_len n hn
    have hi1 := meanOf_I64 s n
    have hi2 := meanOf_I64 q n
    generalize meanOf s n = x at *
    generalize meanOf q n = y at *
    obtain ⟨x1, x2, x3⟩ := x
    obtain ⟨y1, y2, y3⟩ := y
    have hl1 := wrtT_len _ hi1
    have hl2 := wrtT_len _ hi2
    have HI1 := Lib.hid hi1
    have HI2 := Lib.hid hi2
    clear hi1 hi2 h hn
    unfold istr at ID
    generalize Lib.itoa n = d at *
    go_enter Tryz.func19, Tryz.ntmps19
    go_wp2_with fail
    generalize w.alloc _ = w2 at HS ⊢
    have HC0 := Lib.hid (HS.out.new (Below.refl w2.heap.size w2).drew)
    refine wp_region_seqL (by kernel_rfl) (fun w' => CivAt w w.heap.size [.int .i64 n, .int .i64 s, .int .i64 a, .int .i64 q] w') 16 [(0, 0), (1, 1), (5, 1), (12, 1), (2, 2), (3, 0), (4, 0), (6, 2), (7, 0), (8, 0), (9, 2), (10, 0), (11, 0), (13, 2), (14, 0), (15, 0), (16, 2), (17, 0), (18, 0)] (by kernel_rfl) (HC0.out) ?_
    refine sl_q (d := some 6) rfl rfl rfl (.pointer (some ⟨w.heap.size, 0, none⟩)) (fun w => by go_simp) ?_
    simp only [Act.put, List.setIfInBounds_toArray, List.set_cons_zero, List.set_cons_succ]
    refine sl_s (d := some 7) rfl rfl rfl (.int .i64 n) (fun w hw => by have h := hw.1.at 0 rfl; simp [execOp, Act.eval, go_sem, h]) ?_
    simp only [Act.put, List.setIfInBounds_toArray, List.set_cons_zero, List.set_cons_succ]
    refine sl_s (d := some 11) rfl rfl rfl (.agg #[.int .i64 n, .int .i64 s, .int .i64 a, .int .i64 q]) (fun w hw => row_loadC hw.1 rowT_err _ rfl rfl) ?_
    simp only [Act.put, List.setIfInBounds_toArray, List.set_cons_zero, List.set_cons_succ]
    refine sl_s (d := some 18) rfl rfl rfl (.agg #[.int .i64 n, .int .i64 s, .int .i64 a, .int .i64 q]) (fun w hw => row_loadC hw.1 rowT_err _ rfl rfl) ?_
    simp only [Act.put, List.setIfInBounds_toArray, List.set_cons_zero, List.set_cons_succ]
    refine sl_call (d := some 8) rfl rfl rfl ⟨_, Tryz.func33, by kernel_rfl, by kernel_rfl⟩ _ _ _ rfl rfl [.int .i64 n] rfl (ID.out w2.drew) ?_
    rintro e u1 ⟨rfl, hb⟩
    have HC1 := Lib.hid (HC0.out.new hb)
    refine ⟨_, rfl, fun _ => HC1.out, ?_⟩
    clear hb HC0
    simp only [Act.put, List.setIfInBounds_toArray, List.set_cons_zero, List.set_cons_succ]
    refine sl_q (d := some 9) rfl rfl rfl (.string ⟨([110, 32] ++ d).toArray⟩) (fun w => add_run _ _ rfl ([110, 32]) (d) rfl rfl (by simp; omega)) ?_
    simp only [Act.put, List.setIfInBounds_toArray, List.set_cons_zero, List.set_cons_succ]
    refine sl_q (d := some 10) rfl rfl rfl (.string ⟨([110, 32] ++ d ++ [32, 109, 101, 97, 110, 32]).toArray⟩) (fun w => add_run _ _ rfl ([110, 32] ++ d) ([32, 109, 101, 97, 110, 32]) rfl rfl (by simp; omega)) ?_
    simp only [Act.put, List.setIfInBounds_toArray, List.set_cons_zero, List.set_cons_succ]
    refine sl_call (d := some 12) rfl rfl rfl ⟨_, Tryz.func50, by kernel_rfl, by kernel_rfl⟩ _ _ _ rfl rfl [.agg #[.int .i64 n, .int .i64 s, .int .i64 a, .int .i64 q]] rfl (HM1.out u1) ?_
    rintro e u2 ⟨rfl, hb⟩
    have HC2 := Lib.hid (HC1.out.new hb)
    refine ⟨_, rfl, fun _ => HC2.out, ?_⟩
    clear hb HC1
    simp only [Act.put, List.setIfInBounds_toArray, List.set_cons_zero, List.set_cons_succ]
    refine sl_q (d := some 13) rfl rfl rfl (.agg #[.int .i64 x1, .int .i64 x2]) (fun w => by simp [execOp, Act.eval, go_sem, frV]) ?_
    simp only [Act.put, List.setIfInBounds_toArray, List.set_cons_zero, List.set_cons_succ]
    refine sl_q (d := some 14) rfl rfl rfl (.int .i64 x3) (fun w => by simp [execOp, Act.eval, go_sem, frV]) ?_
    simp only [Act.put, List.setIfInBounds_toArray, List.set_cons_zero, List.set_cons_succ]
    refine sl_call (d := some 15) rfl rfl rfl ⟨_, Tryz.func49, by kernel_rfl, by kernel_rfl⟩ _ _ _ rfl rfl [.agg #[.int .i64 x1, .int .i64 x2], .int .i64 x3] rfl (or_any x1 x2 x3 HI1.out u2) ?_
    rintro e u3 ⟨rfl, hb⟩
    have HC3 := Lib.hid (HC2.out.new hb)
    refine ⟨_, rfl, fun _ => HC3.out, ?_⟩
    clear hb HC2
    simp only [Act.put, List.setIfInBounds_toArray, List.set_cons_zero, List.set_cons_succ]
    refine sl_q (d := some 16) rfl rfl rfl (.string ⟨([110, 32] ++ d ++ [32, 109, 101, 97, 110, 32] ++ wrtT (x1, x2, x3)).toArray⟩) (fun w => add_run _ _ rfl ([110, 32] ++ d ++ [32, 109, 101, 97, 110, 32]) (wrtT (x1, x2, x3)) rfl rfl (by simp; omega)) ?_
    simp only [Act.put, List.setIfInBounds_toArray, List.set_cons_zero, List.set_cons_succ]
    refine sl_q (d := some 17) rfl rfl rfl (.string ⟨([110, 32] ++ d ++ [32, 109, 101, 97, 110, 32] ++ wrtT (x1, x2, x3) ++ [32, 115, 113, 117, 97, 114, 101, 32]).toArray⟩) (fun w => add_run _ _ rfl ([110, 32] ++ d ++ [32, 109, 101, 97, 110, 32] ++ wrtT (x1, x2, x3)) ([32, 115, 113, 117, 97, 114, 101, 32]) rfl rfl (by simp; omega)) ?_
    simp only [Act.put, List.setIfInBounds_toArray, List.set_cons_zero, List.set_cons_succ]
    refine sl_call (d := some 19) rfl rfl rfl ⟨_, Tryz.func51, by kernel_rfl, by kernel_rfl⟩ _ _ _ rfl rfl [.agg #[.int .i64 n, .int .i64 s, .int .i64 a, .int .i64 q]] rfl (HM2.out u3) ?_
    rintro e u4 ⟨rfl, hb⟩
    have HC4 := Lib.hid (HC3.out.new hb)
    refine ⟨_, rfl, fun _ => HC4.out, ?_⟩
    clear hb HC3
    simp only [Act.put, List.setIfInBounds_toArray, List.set_cons_zero, List.set_cons_succ]
    refine sl_q (d := some 20) rfl rfl rfl (.agg #[.int .i64 y1, .int .i64 y2]) (fun w => by simp [execOp, Act.eval, go_sem, frV]) ?_
    simp only [Act.put, List.setIfInBounds_toArray, List.set_cons_zero, List.set_cons_succ]
    refine sl_q (d := some 21) rfl rfl rfl (.int .i64 y3) (fun w => by simp [execOp, Act.eval, go_sem, frV]) ?_
    simp only [Act.put, List.setIfInBounds_toArray, List.set_cons_zero, List.set_cons_succ]
    refine sl_call (d := some 22) rfl rfl rfl ⟨_, Tryz.func49, by kernel_rfl, by kernel_rfl⟩ _ _ _ rfl rfl [.agg #[.int .i64 y1, .int .i64 y2], .int .i64 y3] rfl (or_any y1 y2 y3 HI2.out u4) ?_
    rintro e u5 ⟨rfl, hb⟩
    have HC5 := Lib.hid (HC4.out.new hb)
    refine ⟨_, rfl, (fun h => by cases h), ?_⟩
    clear hb HC4
    simp only [Act.put, List.setIfInBounds_toArray, List.set_cons_zero, List.set_cons_succ]
    refine sl_q (d := some 23) rfl rfl rfl (.string ⟨([110, 32] ++ d ++ [32, 109, 101, 97, 110, 32] ++ wrtT (x1, x2, x3) ++ [32, 115, 113, 117, 97, 114, 101, 32] ++ wrtT (y1, y2, y3)).toArray⟩) (fun w => add_run _ _ rfl ([110, 32] ++ d ++ [32, 109, 101, 97, 110, 32] ++ wrtT (x1, x2, x3) ++ [32, 115, 113, 117, 97, 114, 101, 32]) (wrtT (y1, y2, y3)) rfl rfl (by simp; omega)) ?_
    simp only [Act.put, List.setIfInBounds_toArray, List.set_cons_zero, List.set_cons_succ]
    refine sl_q (d := some 2) rfl rfl rfl (.string ⟨([110, 32] ++ d ++ [32, 109, 101, 97, 110, 32] ++ wrtT (x1, x2, x3) ++ [32, 115, 113, 117, 97, 114, 101, 32] ++ wrtT (y1, y2, y3)).toArray⟩) (fun w => rfl) ?_
    simp only [Act.put, List.setIfInBounds_toArray, List.set_cons_zero, List.set_cons_succ]
    refine sl_end ?_
    have HB := Lib.hid HC5.out.2
    go_wp2_with fail
    go_ret
    exact ⟨by rw [← HE.out]; rfl, HB.out⟩
end Go.Proofs.YtmmmebdgannpgaaGreatDoor
