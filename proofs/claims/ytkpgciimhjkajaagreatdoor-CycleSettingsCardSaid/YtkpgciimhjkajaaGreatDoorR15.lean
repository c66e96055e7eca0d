/- Part 15 of the proof: laws on memory and what functions of the program return. No conditions but those that each theorem names. -/
import Derived.Test.YtkpgciimhjkajaaGreatDoorR14
import Derived.Laws.StructEq
import Derived.BigQuiet
import Derived.Deep.QuietTactic
set_option linter.unusedVariables false
set_option linter.unusedSimpArgs false
/- The reference's cycle: First, Background. -/
namespace Go.Proofs.YtkpgciimhjkajaaGreatDoor
open Go Go.RowKit
def bgP0 (ok : Bool) (n : Nat) (r : Option (List Int × List Int)) (e : Ending) (w' : World) : Prop :=
  (ok = false → e = .returned (.tuple #[stv 0 (.slice none 0 0) (.slice none 0 0), .int .i64 1])) ∧
  (ok = true → (r = none → e = .returned (.tuple #[stv 0 (.slice none 0 0) (.slice none 0 0), .int .i64 7])) ∧ (∀ D F, r = some (D, F) → ∃ dv fv, e = .returned (.tuple #[stv n dv fv, .int .i64 0]) ∧ OwnI w' 0 dv D ∧ OwnI w' 0 fv F))
set_option maxRecDepth 100000 in
set_option maxHeartbeats 16000000 in
theorem rfirst_any (S : List Value) (f0 st pe wi de sm an we ro wk sp fr sl mv dp : Int) (h : SeOk S f0 st pe wi de sm an we ro wk sp fr sl mv dp) (w : World) :
    Calls Tryz.prog 12 #[.agg S.toArray] w fun e w' => fstPr (okS f0 st pe wi de sm an we ro wk sp fr sl mv dp) f0 dp e w w' ∧ Below w.heap.size w w' := by
  obtain ⟨w1, hw1⟩ : ∃ u, u = (w.alloc (.cells S.toArray 29)).alloc (.cells (cycV 0 (.slice none 0 0) (.slice none 0 0)).toArray 51) := ⟨_, rfl⟩
  have hR : RowAt w1 w.heap.size S := by rw [hw1]; exact (RowAt.new w S (by rw [h.len]; omega) _ rfl).alloc _
  have hC : RowAt w1 (w.heap.size + 1) (cycV 0 (.slice none 0 0) (.slice none 0 0)) := by rw [hw1]; exact RowAt.new _ _ (by simp [cycV]) _ (by simp)
  have hb1 : Below w.heap.size w w1 := by rw [hw1]; exact ((Below.refl _ _).alloc (Nat.le_refl _) _).alloc (by simp) _
  have HCk := Lib.hid (rcycheck_any S f0 st pe wi de sm an we ro wk sp fr sl mv dp h w1)
  have HR := Lib.hid (And.intro hR hC)
  have HS := Lib.hid h
  have HB1 := Lib.hid hb1
  have Hw1 := Lib.hid hw1
  clear hR hb1 hw1 h hC
  obtain ⟨ok, hok⟩ : ∃ b, b = okS f0 st pe wi de sm an we ro wk sp fr sl mv dp := ⟨_, rfl⟩
  rw [← hok] at HCk ⊢
  have HOk := Lib.hid hok
  clear hok
  go_enter Tryz.func12, Tryz.ntmps12
  go_upto_region 1 with fail
  rw [show #[Value.int .i64 0, .int .i64 0, .int .i64 0, .slice none 0 0, .slice none 0 0, .slice none 0 0, .slice none 0 0, .int .i64 0, .int .u64 0, .int .i64 0, .int .i64 0, .int .i64 0, .int .i64 0, .slice none 0 0, .slice none 0 0, .slice none 0 0, .slice none 0 0] = (cycV 0 (.slice none 0 0) (.slice none 0 0)).toArray from rfl, ← Hw1.out]
  go_wp2_with (refine row_load rfl _ rfl _ rfl _ HR.out.1 (by rw [HS.out.len]; exact rowT_se) ?_)
  refine HCk.out.mono ?_
  rintro e w2 ⟨he, hb2⟩
  have HR2 := Lib.hid (And.intro (HR.out.1.below hb2) (HR.out.2.below hb2))
  have HB2 := Lib.hid (below_then HB1.out hb2)
  clear hb2 HCk HR HB1
  cases ok with
  | false =>
    obtain rfl : e = .returned (.int .i64 1) := he
    go_wp2_with (refine row_store rfl _ _ rfl _ rfl _ (cycV 0 (.slice none 0 0) (.slice none 0 0)) rfl HR2.out.2 rfl rowT_cy (by decide) ?_; intro w3 e3 h3)
    exact ret_row2 rfl _ _ _ e3 rowT_cy rfl rfl rfl ⟨⟨fun _ => rfl, fun h => by cases h⟩, HB2.out.trans (h3.below (Nat.le_succ _))⟩
  | true =>
    obtain rfl : e = .returned (.int .i64 0) := he
    obtain ⟨hf, _, _, _, _, hd, _⟩ := okS_bnd HOk.out.symm
    obtain ⟨n, rfl, hn⟩ := fq_of hf
    have k0 := HR2.out.1.at 0 HS.out.c0
    have k12 := HR2.out.1.at 14 HS.out.c14
    have HRe := Lib.hid (rrest_any n hn dp (by omega) w2)
    have HN := Lib.hid hn
    clear hf hd hn
    go_wp2_with fail
    clear k0 k12
    refine HRe.out.mono ?_
    rintro e w3 ⟨dv, fv, rfl, hdv, hfv, hb3⟩
    unfold stv
    obtain ⟨da, dn, dc, rfl⟩ : ∃ a m c, dv = .slice a m c := by obtain ⟨a, c, h⟩ := hdv.slice; exact ⟨a, _, c, h⟩
    obtain ⟨fa, fn, fc, rfl⟩ : ∃ a m c, fv = .slice a m c := by obtain ⟨a, c, h⟩ := hfv.slice; exact ⟨a, _, c, h⟩
    have HD := Lib.hid (And.intro hdv hfv)
    have HR3 := Lib.hid (And.intro (HR2.out.1.below hb3) (HR2.out.2.below hb3))
    have HB3 := Lib.hid (below_then HB2.out hb3)
    have Hs2 : Hid (w.heap.size + 1 + 1 ≤ w2.heap.size) := by have := HR2.out.2.lt; unfold Hid; omega
    clear hdv hfv hb3 HR2 HB2 HRe
    go_upto_region 5 with fail
    obtain ⟨w4, hw4⟩ : ∃ u, u = w3.alloc (.cells #[.int .i64 (n : Int), .slice da dn dc, .slice fa fn fc] 36) := ⟨_, rfl⟩
    have hb4 : Below w3.heap.size w3 w4 := by rw [hw4]; exact (Below.refl _ _).alloc (Nat.le_refl _) _
    have hY4 : RowAt w4 w3.heap.size [.int .i64 (n : Int), .slice da dn dc, .slice fa fn fc] := by rw [hw4]; exact RowAt.new _ [.int .i64 (n : Int), .slice da dn dc, .slice fa fn fc] (by simp) _ rfl
    have HR4 := Lib.hid (HR3.out.2.below hb4)
    have HB4 := Lib.hid (below_then HB3.out hb4)
    have HD4 := Lib.hid (And.intro (HD.out.1.below hb4) (HD.out.2.below hb4))
    have Hw4 := Lib.hid hw4
    have y0 := hY4.at 0 rfl
    have y1 := hY4.at 1 rfl
    have y2 := hY4.at 2 rfl
    clear hw4 hb4 hY4 HR3 HB3 HD
    rw [← Hw4.out]
    go_wp2_with (refine row_store rfl _ _ rfl _ rfl _ (cycV (n : Int) (.slice da dn dc) (.slice fa fn fc)) rfl HR4.out rfl rowT_cy (cycV_one HD4.out.1 HD4.out.2) ?_; intro w5 e5 h5)
    have hz := Hs2.out
    have hx1 : (Value.slice da dn dc).ownBlock ≠ some (w.heap.size + 1) := fun e => by have := (HD4.out.1.lt _ e).1; omega
    have hx2 : (Value.slice fa fn fc).ownBlock ≠ some (w.heap.size + 1) := fun e => by have := (HD4.out.2.lt _ e).1; omega
    exact ret_row2 rfl _ _ _ e5 rowT_cy rfl rfl rfl ⟨⟨fun h => (by cases h), fun _ => ⟨n, _, _, rfl, HN.out, rfl, (HD4.out.1.apart h5 hx1).mono (by omega), (HD4.out.2.apart h5 hx2).mono (by omega)⟩⟩, HB4.out.trans (h5.below (Nat.le_succ _))⟩
set_option maxRecDepth 100000 in
set_option maxHeartbeats 16000000 in
theorem rback_any (S : List Value) (f0 st pe wi de sm an we ro wk sp fr sl mv dp : Int) (h : SeOk S f0 st pe wi de sm an we ro wk sp fr sl mv dp) (C : List Value) (n : Nat) (hn : Fq n) (dv fv : Value) (D F : List Int) (B0 : Nat) (hCl : C.length = 17) (h12 : C[12]? = some (.int .i64 (n : Int))) (h13 : C[13]? = some dv) (h14 : C[14]? = some fv) (w : World) (hok : SOk n D F) (hd : OwnI w B0 dv D) (hf : OwnI w B0 fv F) :
    Calls Tryz.prog 15 #[.agg S.toArray, .agg C.toArray] w fun e w' => bgP0 (okS f0 st pe wi de sm an we ro wk sp fr sl mv dp) n (runN n fr sl mv sp.toNat D F) e w' ∧ Below w.heap.size w w' := by
  obtain ⟨da, dn, dc, rfl⟩ : ∃ a m c, dv = .slice a m c := by obtain ⟨a, c, h⟩ := hd.slice; exact ⟨a, _, c, h⟩
  obtain ⟨fa, fn, fc, rfl⟩ : ∃ a m c, fv = .slice a m c := by obtain ⟨a, c, h⟩ := hf.slice; exact ⟨a, _, c, h⟩
  obtain ⟨w1, hw1⟩ : ∃ u, u = ((w.alloc (.cells S.toArray 29)).alloc (.cells C.toArray 51)).alloc (.cells #[.int .i64 0, .slice none 0 0, .slice none 0 0] 36) := ⟨_, rfl⟩
  have hR : RowAt w1 w.heap.size S := by rw [hw1]; exact ((RowAt.new w S (by rw [h.len]; omega) _ rfl).alloc _).alloc _
  have hC : RowAt w1 (w.heap.size + 1) C := by rw [hw1]; exact (RowAt.new _ C (by rw [hCl]; omega) _ (by simp)).alloc _
  have hY : RowAt w1 (w.heap.size + 1 + 1) [.int .i64 0, .slice none 0 0, .slice none 0 0] := by rw [hw1]; exact RowAt.new _ [.int .i64 0, .slice none 0 0, .slice none 0 0] (by simp) _ (by simp)
  have hb1 : Below w.heap.size w w1 := by rw [hw1]; exact (((Below.refl _ _).alloc (Nat.le_refl _) _).alloc (by simp) _).alloc (by simp; omega) _
  have HCk := Lib.hid (rcycheck_any S f0 st pe wi de sm an we ro wk sp fr sl mv dp h w1)
  have HR := Lib.hid (And.intro hR (And.intro hC hY))
  have HC := Lib.hid (And.intro hCl (And.intro h12 (And.intro h13 h14)))
  have HFix := Lib.hid (And.intro hn hok)
  have HD := Lib.hid (And.intro (hd.below hb1) (hf.below hb1))
  have HS := Lib.hid h
  have HB1 := Lib.hid hb1
  have Hw1 := Lib.hid hw1
  have HNb : Hid ((∀ g, (Value.slice da dn dc).ownBlock = some g → g < w.heap.size) ∧ (∀ g, (Value.slice fa fn fc).ownBlock = some g → g < w.heap.size)) := ⟨fun g h => (hd.lt g h).2, fun g h => (hf.lt g h).2⟩
  clear hR hb1 hw1 h hC hY hn hok hd hf hCl h12 h13 h14
  obtain ⟨ok, hok⟩ : ∃ b, b = okS f0 st pe wi de sm an we ro wk sp fr sl mv dp := ⟨_, rfl⟩
  rw [← hok] at HCk ⊢
  have HOk := Lib.hid hok
  clear hok
  obtain ⟨r, hr⟩ : ∃ r, r = runN n fr sl mv sp.toNat D F := ⟨_, rfl⟩
  rw [← hr]
  have Hr := Lib.hid hr
  clear hr
  go_enter Tryz.func15, Tryz.ntmps15
  go_upto_region 1 with fail
  rw [← Hw1.out]
  go_wp2_with (refine row_load rfl _ rfl _ rfl _ HR.out.1 (by rw [HS.out.len]; exact rowT_se) ?_)
  refine HCk.out.mono ?_
  rintro e w2 ⟨he, hb2⟩
  have HR2 := Lib.hid (And.intro (HR.out.1.below hb2) (And.intro (HR.out.2.1.below hb2) (HR.out.2.2.below hb2)))
  have HB2 := Lib.hid (below_then HB1.out hb2)
  have HD2 := Lib.hid (And.intro (HD.out.1.below hb2) (HD.out.2.below hb2))
  clear hb2 HCk HR HB1 HD
  cases ok with
  | false =>
    obtain rfl : e = .returned (.int .i64 1) := he
    go_wp2_with (refine row_store rfl _ _ rfl _ rfl _ [.int .i64 0, .slice none 0 0, .slice none 0 0] rfl HR2.out.2.2 rfl rowT_st (by decide) ?_; intro w3 e3 h3)
    exact ret_row2 rfl _ _ _ e3 rowT_st rfl rfl rfl ⟨⟨fun _ => rfl, fun h => by cases h⟩, HB2.out.trans (h3.below (by omega))⟩
  | true =>
    obtain rfl : e = .returned (.int .i64 0) := he
    obtain ⟨hf, _, _, _, hsp, hd, hsc⟩ := okS_bnd HOk.out.symm
    have k11 := HR2.out.1.at 11 HS.out.c11
    have k12 := HR2.out.1.at 12 HS.out.c12
    have k13 := HR2.out.1.at 13 HS.out.c13
    have k10 := HR2.out.1.at 10 HS.out.c10
    have m12 := HR2.out.2.1.at 12 HC.out.2.1
    have m13 := HR2.out.2.1.at 13 HC.out.2.2.1
    have m14 := HR2.out.2.1.at 14 HC.out.2.2.2
    obtain ⟨k, rfl⟩ : ∃ k : Nat, sp = (k : Int) := ⟨sp.toNat, by omega⟩
    have HRu := Lib.hid (rrun_any n HFix.out.1 fr sl mv hsc _ _ D F B0 k (by omega) w2 (fun g => g ≠ w.heap.size + 1 + 1) (fun g hg => by have := HR2.out.2.2.lt; omega) (fun g hg => by have := HNb.out.1 g hg; omega) (fun g hg => by have := HNb.out.2 g hg; omega) HFix.out.2 HD2.out.1 HD2.out.2)
    rw [show runN n fr sl mv k D F = r from Hr.out.symm] at HRu
    unfold stv at HRu
    have Hs2 : Hid (w.heap.size + 1 + 1 + 1 ≤ w2.heap.size) := by have := HR2.out.2.2.lt; unfold Hid; omega
    clear hf hd hsc hsp
    go_wp2_with fail
    clear k10 k11 k12 k13 m12 m13 m14
    refine HRu.out.mono ?_
    rintro e w3 ⟨he, hb3⟩
    have HR3 := Lib.hid (HR2.out.2.2.below hb3)
    have HB3 := Lib.hid (below_then HB2.out hb3)
    clear hb3 HR2 HB2 HRu
    cases r with
    | none =>
      obtain rfl := he.1 rfl
      clear he
      unfold stv
      go_wp2_with (refine row_store rfl _ _ rfl _ rfl _ [.int .i64 0, .slice none 0 0, .slice none 0 0] rfl HR3.out rfl rowT_st (by decide) ?_; intro w5 e5 h5)
      exact ret_row2 rfl _ _ _ e5 rowT_st rfl rfl rfl ⟨⟨fun h => (by cases h), fun _ => ⟨fun _ => rfl, fun _ _ h => by cases h⟩⟩, HB3.out.trans (h5.below (by omega))⟩
    | some v =>
      obtain ⟨D2, F2⟩ := v
      obtain ⟨dv, fv, rfl, hdv, hfv, hn1, hn2⟩ := he.2 D2 F2 rfl
      unfold stv
      obtain ⟨da2, dn2, dc2, rfl⟩ : ∃ a m c, dv = .slice a m c := by obtain ⟨a, c, h⟩ := hdv.slice; exact ⟨a, _, c, h⟩
      obtain ⟨fa2, fn2, fc2, rfl⟩ : ∃ a m c, fv = .slice a m c := by obtain ⟨a, c, h⟩ := hfv.slice; exact ⟨a, _, c, h⟩
      have HD4 := Lib.hid (And.intro hdv hfv)
      have HNn := Lib.hid (And.intro hn1 hn2)
      clear he hdv hfv hn1 hn2
      go_wp2_with (refine row_store rfl _ _ rfl _ rfl _ [.int .i64 (n : Int), .slice da2 dn2 dc2, .slice fa2 fn2 fc2] rfl HR3.out rfl rowT_st (by intro v hv; simp only [List.mem_cons, List.mem_nil_iff, or_false] at hv; rcases hv with rfl | rfl | rfl <;> first | rfl | exact HD4.out.1.one | exact HD4.out.2.one) ?_; intro w5 e5 h5)
      have hz := Hs2.out
      have hx1 : (Value.slice da2 dn2 dc2).ownBlock ≠ some (w.heap.size + 1 + 1) := fun e => HNn.out.1 _ e rfl
      have hx2 : (Value.slice fa2 fn2 fc2).ownBlock ≠ some (w.heap.size + 1 + 1) := fun e => HNn.out.2 _ e rfl
      exact ret_row2 rfl _ _ _ e5 rowT_st rfl rfl rfl ⟨⟨fun h => (by cases h), fun _ => ⟨fun h => (by cases h), fun D3 F3 h => by injection h with h; injection h with h1 h2; subst h1 h2; exact ⟨_, _, rfl, HD4.out.1.apart h5 hx1, HD4.out.2.apart h5 hx2⟩⟩⟩, HB3.out.trans (h5.below (by omega))⟩
end Go.Proofs.YtkpgciimhjkajaaGreatDoor
/- The reference's comparisons of states and of cycles that hold no reports. -/
namespace Go.Proofs.YtkpgciimhjkajaaGreatDoor
open Go Go.RowKit
set_option maxRecDepth 100000 in
set_option maxHeartbeats 16000000 in
theorem rsame29_any (n : Nat) (dv fv dv' fv' : Value) (D F : List Int) (w : World) (h1 : OwnI w 0 dv D) (h2 : OwnI w 0 fv F) (h3 : OwnI w 0 dv' D) (h4 : OwnI w 0 fv' F) :
    Calls Tryz.prog 16 #[stv n dv fv, stv n dv' fv'] w fun e w' => e = .returned (.bool true) ∧ Below w.heap.size w w' := by
  obtain ⟨da, dn, dc, rfl⟩ : ∃ a m c, dv = .slice a m c := by obtain ⟨a, c, h⟩ := h1.slice; exact ⟨a, _, c, h⟩
  obtain ⟨fa, fn, fc, rfl⟩ : ∃ a m c, fv = .slice a m c := by obtain ⟨a, c, h⟩ := h2.slice; exact ⟨a, _, c, h⟩
  obtain ⟨ga, gn, gc, rfl⟩ : ∃ a m c, dv' = .slice a m c := by obtain ⟨a, c, h⟩ := h3.slice; exact ⟨a, _, c, h⟩
  obtain ⟨ka, kn, kc, rfl⟩ : ∃ a m c, fv' = .slice a m c := by obtain ⟨a, c, h⟩ := h4.slice; exact ⟨a, _, c, h⟩
  obtain ⟨w1, hw1⟩ : ∃ u, u = (w.alloc (.cells #[.int .i64 (n : Int), .slice da dn dc, .slice fa fn fc] 36)).alloc (.cells #[.int .i64 (n : Int), .slice ga gn gc, .slice ka kn kc] 36) := ⟨_, rfl⟩
  have hb1 : Below w.heap.size w w1 := by rw [hw1]; exact ((Below.refl _ _).alloc (Nat.le_refl _) _).alloc (by simp) _
  have hA : RowAt w1 w.heap.size [.int .i64 (n : Int), .slice da dn dc, .slice fa fn fc] := by rw [hw1]; exact (RowAt.new _ [.int .i64 (n : Int), .slice da dn dc, .slice fa fn fc] (by simp) _ rfl).alloc _
  have hB : RowAt w1 (w.heap.size + 1) [.int .i64 (n : Int), .slice ga gn gc, .slice ka kn kc] := by rw [hw1]; exact RowAt.new _ [.int .i64 (n : Int), .slice ga gn gc, .slice ka kn kc] (by simp) _ (by simp)
  have HI1 := Lib.hid (rints_any _ _ D 0 0 w1 (h1.below hb1) (h3.below hb1))
  have HI2 := Lib.hid (And.intro (h2.below hb1) (h4.below hb1))
  have HR := Lib.hid (And.intro hA hB)
  have HB1 := Lib.hid hb1
  have Hw1 := Lib.hid hw1
  have a0 := hA.at 0 rfl
  have a1 := hA.at 1 rfl
  have b0 := hB.at 0 rfl
  have b1 := hB.at 1 rfl
  clear hw1 hA hB hb1 h1 h2 h3 h4
  unfold stv
  go_enter Tryz.func16, Tryz.ntmps16
  go_upto_region 1 with fail
  rw [← Hw1.out]
  go_wp2_with fail
  clear a0 a1 b0 b1
  refine HI1.out.mono ?_
  rintro e w2 ⟨rfl, hb2⟩
  have HI3 := Lib.hid (rints_any _ _ F 0 0 w2 (HI2.out.1.below hb2) (HI2.out.2.below hb2))
  have HR2 := Lib.hid (And.intro (HR.out.1.below hb2) (HR.out.2.below hb2))
  have HB2 := Lib.hid (below_then HB1.out hb2)
  have a2 := HR2.out.1.at 2 rfl
  have b2 := HR2.out.2.at 2 rfl
  clear hb2 HI1 HI2 HR HB1 HR2
  go_wp2_with fail
  clear a2 b2
  refine HI3.out.mono ?_
  rintro e w3 ⟨rfl, hb3⟩
  have HB3 := Lib.hid (below_then HB2.out hb3)
  clear hb3 HI3 HB2
  go_wp2_with fail
  go_ret
  exact ⟨rfl, HB3.out⟩
theorem rsameall0 (w : World) : Calls Tryz.prog 53 #[.slice none 0 0, .slice none 0 0] w fun e w' => e = .returned (.bool true) ∧ w' = w := by
  go_enter Tryz.func53, Tryz.ntmps53
  go_wp2_with fail
  go_loopw [5] (fun kv wr => kv = .int .i64 0 ∧ wr = w) (fun _ _ => 0)
  case atStart => exact ⟨rfl, rfl⟩
  case round =>
    obtain ⟨rfl, rfl⟩ := hrel
    go_wp2_with fail
    go_ret
    exact ⟨rfl, rfl⟩
theorem rsame19_0 (w : World) : Calls Tryz.prog 55 #[.agg #[.slice none 0 0, .slice none 0 0], .agg #[.slice none 0 0, .slice none 0 0]] w fun e w' => e = .returned (.bool true) ∧ Below w.heap.size w w' := by
  obtain ⟨w1, hw1⟩ : ∃ u, u = (w.alloc (.cells #[.slice none 0 0, .slice none 0 0] 49)).alloc (.cells #[.slice none 0 0, .slice none 0 0] 49) := ⟨_, rfl⟩
  have hb1 : Below w.heap.size w w1 := by rw [hw1]; exact ((Below.refl _ _).alloc (Nat.le_refl _) _).alloc (by simp) _
  have hA : RowAt w1 w.heap.size [.slice none 0 0, .slice none 0 0] := by rw [hw1]; exact (RowAt.new _ [.slice none 0 0, .slice none 0 0] (by simp) _ rfl).alloc _
  have hB : RowAt w1 (w.heap.size + 1) [.slice none 0 0, .slice none 0 0] := by rw [hw1]; exact RowAt.new _ [.slice none 0 0, .slice none 0 0] (by simp) _ (by simp)
  have HB1 := Lib.hid hb1
  have Hw1 := Lib.hid hw1
  have a0 := hA.at 0 rfl
  have a1 := hA.at 1 rfl
  have b0 := hB.at 0 rfl
  have b1 := hB.at 1 rfl
  clear hw1 hA hB hb1
  go_enter Tryz.func55, Tryz.ntmps55
  go_upto_region 1 with fail
  rw [← Hw1.out]
  go_wp2_with fail
  go_loopw [5] (fun kv wr => kv = .int .i64 0 ∧ wr = w1) (fun _ _ => 0)
  case atStart => exact ⟨rfl, rfl⟩
  case round =>
    obtain ⟨rfl, rfl⟩ := hrel
    go_wp2_with fail
    obtain ⟨wout, rfl⟩ : ∃ wout : World, wout = wr := ⟨_, rfl⟩
    go_loopw [6] (fun kv wr => kv = .int .i64 0 ∧ wr = wout) (fun _ _ => 0)
    case atStart => exact ⟨rfl, rfl⟩
    case round =>
      obtain ⟨rfl, rfl⟩ := hrel
      go_wp2_with fail
      go_ret
      exact ⟨rfl, HB1.out⟩
set_option maxRecDepth 100000 in
set_option maxHeartbeats 16000000 in
theorem rsame28_0 (w : World) : Calls Tryz.prog 54 #[.agg #[.slice none 0 0, .slice none 0 0, .slice none 0 0, .int .i64 0, .int .u64 0, .int .i64 0, .int .i64 0, .int .i64 0], .agg #[.slice none 0 0, .slice none 0 0, .slice none 0 0, .int .i64 0, .int .u64 0, .int .i64 0, .int .i64 0, .int .i64 0]] w fun e w' => e = .returned (.bool true) ∧ Below w.heap.size w w' := by
  obtain ⟨w1, hw1⟩ : ∃ u, u = (w.alloc (.cells #[.slice none 0 0, .slice none 0 0, .slice none 0 0, .int .i64 0, .int .u64 0, .int .i64 0, .int .i64 0, .int .i64 0] 45)).alloc (.cells #[.slice none 0 0, .slice none 0 0, .slice none 0 0, .int .i64 0, .int .u64 0, .int .i64 0, .int .i64 0, .int .i64 0] 45) := ⟨_, rfl⟩
  have hb1 : Below w.heap.size w w1 := by rw [hw1]; exact ((Below.refl _ _).alloc (Nat.le_refl _) _).alloc (by simp) _
  have hA : RowAt w1 w.heap.size [.slice none 0 0, .slice none 0 0, .slice none 0 0, .int .i64 0, .int .u64 0, .int .i64 0, .int .i64 0, .int .i64 0] := by rw [hw1]; exact (RowAt.new _ [.slice none 0 0, .slice none 0 0, .slice none 0 0, .int .i64 0, .int .u64 0, .int .i64 0, .int .i64 0, .int .i64 0] (by simp) _ rfl).alloc _
  have hB : RowAt w1 (w.heap.size + 1) [.slice none 0 0, .slice none 0 0, .slice none 0 0, .int .i64 0, .int .u64 0, .int .i64 0, .int .i64 0, .int .i64 0] := by rw [hw1]; exact RowAt.new _ [.slice none 0 0, .slice none 0 0, .slice none 0 0, .int .i64 0, .int .u64 0, .int .i64 0, .int .i64 0, .int .i64 0] (by simp) _ (by simp)
  have HR := Lib.hid (And.intro hA hB)
  have HB1 := Lib.hid hb1
  have Hw1 := Lib.hid hw1
  have a0 := hA.at 0 rfl
  have b0 := hB.at 0 rfl
  have a3 := hA.at 3 rfl
  have b3 := hB.at 3 rfl
  have a4 := hA.at 4 rfl
  have b4 := hB.at 4 rfl
  have a5 := hA.at 5 rfl
  have b5 := hB.at 5 rfl
  have a6 := hA.at 6 rfl
  have b6 := hB.at 6 rfl
  have a7 := hA.at 7 rfl
  have b7 := hB.at 7 rfl
  clear hw1 hA hB hb1
  go_enter Tryz.func54, Tryz.ntmps54
  go_upto_region 1 with fail
  rw [← Hw1.out]
  go_wp2_with fail
  clear a0 b0
  clear a3 b3
  clear a4 b4
  clear a5 b5
  clear a6 b6
  clear a7 b7
  refine (rints_any _ _ [] 0 0 w1 (OwnI.nil _ _) (OwnI.nil _ _)).mono ?_
  rintro e w2 ⟨rfl, hb2⟩
  have HR2 := Lib.hid (And.intro (HR.out.1.below hb2) (HR.out.2.below hb2))
  have HB2 := Lib.hid (below_then HB1.out hb2)
  have a1 := HR2.out.1.at 1 rfl
  have b1 := HR2.out.2.at 1 rfl
  clear hb2 HR HB1
  go_wp2_with fail
  clear a1 b1
  refine (rints_any _ _ [] 0 0 w2 (OwnI.nil _ _) (OwnI.nil _ _)).mono ?_
  rintro e w3 ⟨rfl, hb3⟩
  have HR3 := Lib.hid (And.intro (HR2.out.1.below hb3) (HR2.out.2.below hb3))
  have HB3 := Lib.hid (below_then HB2.out hb3)
  have a2 := HR3.out.1.at 2 rfl
  have b2 := HR3.out.2.at 2 rfl
  clear hb3 HR2 HB2
  go_wp2_with fail
  clear a2 b2
  refine (rints_any _ _ [] 0 0 w3 (OwnI.nil _ _) (OwnI.nil _ _)).mono ?_
  rintro e w4 ⟨rfl, hb4⟩
  have HB4 := Lib.hid (below_then HB3.out hb4)
  clear hb4 HR3 HB3
  go_wp2_with fail
  go_ret
  exact ⟨rfl, HB4.out⟩
set_option maxRecDepth 100000 in
set_option maxHeartbeats 16000000 in
theorem ralike_0 (n : Nat) (dv fv dv' fv' : Value) (D F : List Int) (w : World) (h1 : OwnI w 0 dv D) (h2 : OwnI w 0 fv F) (h3 : OwnI w 0 dv' D) (h4 : OwnI w 0 fv' F) :
    Calls Tryz.prog 38 #[.agg (cycV n dv fv).toArray, .agg (cycV n dv' fv').toArray] w fun e w' => e = .returned (.bool true) ∧ Below w.heap.size w w' := by
  obtain ⟨da, dn, dc, rfl⟩ : ∃ a m c, dv = .slice a m c := by obtain ⟨a, c, h⟩ := h1.slice; exact ⟨a, _, c, h⟩
  obtain ⟨fa, fn, fc, rfl⟩ : ∃ a m c, fv = .slice a m c := by obtain ⟨a, c, h⟩ := h2.slice; exact ⟨a, _, c, h⟩
  obtain ⟨ga, gn, gc, rfl⟩ : ∃ a m c, dv' = .slice a m c := by obtain ⟨a, c, h⟩ := h3.slice; exact ⟨a, _, c, h⟩
  obtain ⟨ka, kn, kc, rfl⟩ : ∃ a m c, fv' = .slice a m c := by obtain ⟨a, c, h⟩ := h4.slice; exact ⟨a, _, c, h⟩
  obtain ⟨w1, hw1⟩ : ∃ u, u = (w.alloc (.cells #[.int .i64 0, .int .i64 0, .int .i64 0, .slice none 0 0, .slice none 0 0, .slice none 0 0, .slice none 0 0, .int .i64 0, .int .u64 0, .int .i64 0, .int .i64 0, .int .i64 0, .int .i64 (n : Int), .slice da dn dc, .slice fa fn fc, .slice none 0 0, .slice none 0 0] 51)).alloc (.cells #[.int .i64 0, .int .i64 0, .int .i64 0, .slice none 0 0, .slice none 0 0, .slice none 0 0, .slice none 0 0, .int .i64 0, .int .u64 0, .int .i64 0, .int .i64 0, .int .i64 0, .int .i64 (n : Int), .slice ga gn gc, .slice ka kn kc, .slice none 0 0, .slice none 0 0] 51) := ⟨_, rfl⟩
  have hb1 : Below w.heap.size w w1 := by rw [hw1]; exact ((Below.refl _ _).alloc (Nat.le_refl _) _).alloc (by simp) _
  have hA : RowAt w1 w.heap.size [.int .i64 0, .int .i64 0, .int .i64 0, .slice none 0 0, .slice none 0 0, .slice none 0 0, .slice none 0 0, .int .i64 0, .int .u64 0, .int .i64 0, .int .i64 0, .int .i64 0, .int .i64 (n : Int), .slice da dn dc, .slice fa fn fc, .slice none 0 0, .slice none 0 0] := by rw [hw1]; exact (RowAt.new _ [.int .i64 0, .int .i64 0, .int .i64 0, .slice none 0 0, .slice none 0 0, .slice none 0 0, .slice none 0 0, .int .i64 0, .int .u64 0, .int .i64 0, .int .i64 0, .int .i64 0, .int .i64 (n : Int), .slice da dn dc, .slice fa fn fc, .slice none 0 0, .slice none 0 0] (by simp) _ rfl).alloc _
  have hB : RowAt w1 (w.heap.size + 1) [.int .i64 0, .int .i64 0, .int .i64 0, .slice none 0 0, .slice none 0 0, .slice none 0 0, .slice none 0 0, .int .i64 0, .int .u64 0, .int .i64 0, .int .i64 0, .int .i64 0, .int .i64 (n : Int), .slice ga gn gc, .slice ka kn kc, .slice none 0 0, .slice none 0 0] := by rw [hw1]; exact RowAt.new _ [.int .i64 0, .int .i64 0, .int .i64 0, .slice none 0 0, .slice none 0 0, .slice none 0 0, .slice none 0 0, .int .i64 0, .int .u64 0, .int .i64 0, .int .i64 0, .int .i64 0, .int .i64 (n : Int), .slice ga gn gc, .slice ka kn kc, .slice none 0 0, .slice none 0 0] (by simp) _ (by simp)
  have HO := Lib.hid (And.intro (And.intro (h1.below hb1) (h2.below hb1)) (And.intro (h3.below hb1) (h4.below hb1)))
  have HR := Lib.hid (And.intro hA hB)
  have HB1 := Lib.hid hb1
  have Hw1 := Lib.hid hw1
  have a0 := hA.at 0 rfl
  have b0 := hB.at 0 rfl
  have a1 := hA.at 1 rfl
  have b1 := hB.at 1 rfl
  have a2 := hA.at 2 rfl
  have b2 := hB.at 2 rfl
  have a3 := hA.at 3 rfl
  have b3 := hB.at 3 rfl
  have a4 := hA.at 4 rfl
  have b4 := hB.at 4 rfl
  have a5 := hA.at 5 rfl
  have b5 := hB.at 5 rfl
  have a6 := hA.at 6 rfl
  have b6 := hB.at 6 rfl
  have a7 := hA.at 7 rfl
  have b7 := hB.at 7 rfl
  have a8 := hA.at 8 rfl
  have b8 := hB.at 8 rfl
  have a9 := hA.at 9 rfl
  have b9 := hB.at 9 rfl
  have a10 := hA.at 10 rfl
  have b10 := hB.at 10 rfl
  have a11 := hA.at 11 rfl
  have b11 := hB.at 11 rfl
  have a12 := hA.at 12 rfl
  have b12 := hB.at 12 rfl
  have a13 := hA.at 13 rfl
  have b13 := hB.at 13 rfl
  have a14 := hA.at 14 rfl
  have b14 := hB.at 14 rfl
  have a15 := hA.at 15 rfl
  have b15 := hB.at 15 rfl
  have a16 := hA.at 16 rfl
  have b16 := hB.at 16 rfl
  clear hw1 hA hB hb1 h1 h2 h3 h4
  unfold cycV
  go_enter Tryz.func38, Tryz.ntmps38
  go_upto_region 1 with fail
  rw [← Hw1.out]
  go_wp2_with fail
  refine (rsameall0 w1).mono ?_
  rintro e u ⟨rfl, hu⟩
  obtain rfl := hu.symm
  go_wp2_with fail
  clear a0 b0
  clear a1 b1
  clear a2 b2
  clear a3 b3
  clear a4 b4
  clear a5 b5
  clear a6 b6
  clear a7 b7
  clear a8 b8
  clear a9 b9
  clear a10 b10
  clear a11 b11
  clear a12 b12
  clear a13 b13
  clear a14 b14
  clear a15 b15
  clear a16 b16
  refine (rsame28_0 w1).mono ?_
  rintro e w2 ⟨rfl, hb2⟩
  have HR2 := Lib.hid (And.intro (HR.out.1.below hb2) (HR.out.2.below hb2))
  have HB2 := Lib.hid (below_then HB1.out hb2)
  have HO2 := Lib.hid (And.intro (And.intro (HO.out.1.1.below hb2) (HO.out.1.2.below hb2)) (And.intro (HO.out.2.1.below hb2) (HO.out.2.2.below hb2)))
  have a12 := HR2.out.1.at 12 rfl
  have b12 := HR2.out.2.at 12 rfl
  have a13 := HR2.out.1.at 13 rfl
  have b13 := HR2.out.2.at 13 rfl
  have a14 := HR2.out.1.at 14 rfl
  have b14 := HR2.out.2.at 14 rfl
  have HSt := Lib.hid (rsame29_any n _ _ _ _ D F w2 HO2.out.1.1 HO2.out.1.2 HO2.out.2.1 HO2.out.2.2)
  clear hb2 HR HB1 HO HO2
  unfold stv at HSt
  go_wp2_with fail
  clear a12 b12 a13 b13 a14 b14
  refine HSt.out.mono ?_
  rintro e w3 ⟨rfl, hb3⟩
  have HR3 := Lib.hid (And.intro (HR2.out.1.below hb3) (HR2.out.2.below hb3))
  have HB3 := Lib.hid (below_then HB2.out hb3)
  have a15 := HR3.out.1.at 15 rfl
  have b15 := HR3.out.2.at 15 rfl
  have a16 := HR3.out.1.at 16 rfl
  have b16 := HR3.out.2.at 16 rfl
  clear hb3 HR2 HB2 HSt
  go_wp2_with fail
  clear a15 b15 a16 b16
  refine (rsame19_0 w3).mono ?_
  rintro e w4 ⟨rfl, hb4⟩
  have HB4 := Lib.hid (below_then HB3.out hb4)
  clear hb4 HR3 HB3
  go_wp2_with fail
  go_ret
  exact ⟨rfl, HB4.out⟩
set_option maxRecDepth 100000 in
set_option maxHeartbeats 16000000 in
theorem rsame34_0 (n : Nat) (dv fv dv' fv' : Value) (D F : List Int) (w : World) (h1 : OwnI w 0 dv D) (h2 : OwnI w 0 fv F) (h3 : OwnI w 0 dv' D) (h4 : OwnI w 0 fv' F) :
    Calls Tryz.prog 13 #[.agg (cycV n dv fv).toArray, .agg (cycV n dv' fv').toArray] w fun e w' => e = .returned (.bool true) ∧ Below w.heap.size w w' := by
  obtain ⟨w1, hw1⟩ : ∃ u, u = (w.alloc (.cells (cycV n dv fv).toArray 51)).alloc (.cells (cycV n dv' fv').toArray 51) := ⟨_, rfl⟩
  have hb1 : Below w.heap.size w w1 := by rw [hw1]; exact ((Below.refl _ _).alloc (Nat.le_refl _) _).alloc (by simp) _
  have hA : RowAt w1 w.heap.size (cycV n dv fv) := by rw [hw1]; exact (RowAt.new _ (cycV n dv fv) (by simp [cycV]) _ rfl).alloc _
  have hB : RowAt w1 (w.heap.size + 1) (cycV n dv' fv') := by rw [hw1]; exact RowAt.new _ (cycV n dv' fv') (by simp [cycV]) _ (by simp)
  have HAl := Lib.hid (ralike_0 n dv fv dv' fv' D F w1 (h1.below hb1) (h2.below hb1) (h3.below hb1) (h4.below hb1))
  have HR := Lib.hid (And.intro hA hB)
  have HB1 := Lib.hid hb1
  have Hw1 := Lib.hid hw1
  clear hw1 hA hB hb1 h1 h2 h3 h4
  go_enter Tryz.func13, Tryz.ntmps13
  go_upto_region 1 with fail
  rw [← Hw1.out]
  go_wp2_with (first | refine row_load rfl _ rfl _ rfl _ HR.out.1 rowT_cy ?_ | refine row_load rfl _ rfl _ rfl _ HR.out.2 rowT_cy ?_)
  refine HAl.out.mono ?_
  rintro e w2 ⟨rfl, hb2⟩
  have a2 := (HR.out.1.below hb2).at 2 rfl
  have b2 := (HR.out.2.below hb2).at 2 rfl
  have HB2 := Lib.hid (below_then HB1.out hb2)
  clear hb2 HR HB1 HAl
  go_wp2_with fail
  go_ret
  exact ⟨rfl, HB2.out⟩
end Go.Proofs.YtkpgciimhjkajaaGreatDoor

/- The reference's grid of frequency one: how many edges. -/
namespace Go.Proofs.YtkpgciimhjkajaaGreatDoor
open Go Go.RowKit
def OwnEd (w : World) (base : Nat) (v : Value) (n : Nat) : Prop := ∃ cs : List Value, w.ownsRow base 95 2 v n cs
theorem OwnEd.below {w w' : World} {base : Nat} {v : Value} {n : Nat} (h : OwnEd w base v n) (hb : Below w.heap.size w w') : OwnEd w' base v n := by
  obtain ⟨cs, h⟩ := h
  exact ⟨cs, ownsRow_below h hb⟩
theorem OwnEd.slice {w : World} {base : Nat} {v : Value} {n : Nat} (h : OwnEd w base v n) : ∃ a c, v = .slice a n c := by
  obtain ⟨cs, _, h⟩ := h
  rcases h with ⟨e, h0⟩ | ⟨g, cap, cur, e, _⟩
  · exact ⟨none, 0, by rw [e, h0]⟩
  · exact ⟨_, _, e⟩
end Go.Proofs.YtkpgciimhjkajaaGreatDoor
/- The choices of synopticfield: State, at frequency one. -/
namespace Go.Proofs.YtkpgciimhjkajaaGreatDoor
open Go Go.RowKit
theorem KeptBut.st {w w' : World} {B b : Nat} (h : St w B b w') : KeptBut b w w' := ⟨h.2.size, fun k hk hn => h.2.block k hk hn⟩
def InR (w : World) (g n : Nat) (lo hi : Int) : Prop := ∀ i, i < n → ∃ z : Int, lo ≤ z ∧ z ≤ hi ∧ w.cell? ⟨g, i, none⟩ = some (.int .i64 z)
theorem InR.kept {w w' : World} {g n b : Nat} {lo hi : Int} (h : InR w g n lo hi) (hk : KeptBut b w w') (hg : g ≠ b) : InR w' g n lo hi := fun i hi => by
  obtain ⟨z, z0, z1, hz⟩ := h i hi
  exact ⟨z, z0, z1, hk.cell hz hg⟩
theorem in4 (w : World) (p q r s hi : Int) (hp : 0 ≤ p ∧ p ≤ hi) (hq : 0 ≤ q ∧ q ≤ hi) (hr : 0 ≤ r ∧ r ≤ hi) (hs : 0 ≤ s ∧ s ≤ hi) : InR (w.alloc (.cells #[.int .i64 p, .int .i64 q, .int .i64 r, .int .i64 s] 3)) w.heap.size 4 0 hi := by
  intro i hi
  have hh : ∀ A, (w.alloc (.cells A 3)).heap[w.heap.size]? = some (.cells A 3 (0, 0)) := fun A => heap_alloc_new w _
  simp only [World.cell?, hh]
  have : i = 0 ∨ i = 1 ∨ i = 2 ∨ i = 3 := by omega
  rcases this with rfl | rfl | rfl | rfl
  · exact ⟨p, hp.1, hp.2, rfl⟩
  · exact ⟨q, hq.1, hq.2, rfl⟩
  · exact ⟨r, hr.1, hr.2, rfl⟩
  · exact ⟨s, hs.1, hs.2, rfl⟩
theorem in3 (w : World) (p q r hi : Int) (hp : 0 ≤ p ∧ p ≤ hi) (hq : 0 ≤ q ∧ q ≤ hi) (hr : 0 ≤ r ∧ r ≤ hi) : InR (w.alloc (.cells #[.int .i64 p, .int .i64 q, .int .i64 r] 3)) w.heap.size 3 0 hi := by
  intro i hi
  have hh : ∀ A, (w.alloc (.cells A 3)).heap[w.heap.size]? = some (.cells A 3 (0, 0)) := fun A => heap_alloc_new w _
  simp only [World.cell?, hh]
  have : i = 0 ∨ i = 1 ∨ i = 2 := by omega
  rcases this with rfl | rfl | rfl
  · exact ⟨p, hp.1, hp.2, rfl⟩
  · exact ⟨q, hq.1, hq.2, rfl⟩
  · exact ⟨r, hr.1, hr.2, rfl⟩
theorem clip_any (x lo hi : Int) (h : lo ≤ hi) (w : World) : Calls Tryz.prog 27 #[.int .i64 x, .int .i64 lo, .int .i64 hi] w fun e w' => ∃ y : Int, lo ≤ y ∧ y ≤ hi ∧ e = .returned (.int .i64 y) ∧ w = w' := by
  go_enter Tryz.func27, Tryz.ntmps27
  go_wp2_with fail
  all_goals go_ret
  all_goals refine ⟨_, ?_, ?_, rfl, rfl⟩
  all_goals first | omega | (rename_i h1 h2; rw [if_neg (by omega)] at h1; omega)
def FS3 (b : Nat) (ix : Nat) (v : Value) (w : World) : Prop := match ix with
  | 0 => ∃ LB : Nat, v = .slice (some ⟨LB, 0, none⟩) 4 4 ∧ LB ≠ b ∧ InR w LB 4 0 2500000
  | 1 => v = .pointer (some ⟨b, 0, none⟩)
  | 2 => ∃ j : Nat, j < 4 ∧ v = .int .i64 j
  | 3 => ∃ (LB o : Nat) (z : Int), v = .pointer (some ⟨LB, o, none⟩) ∧ LB ≠ b ∧ 0 ≤ z ∧ z ≤ 2500000 ∧ w.cell? ⟨LB, o, none⟩ = some (.int .i64 z)
  | 4 => ∃ z : Int, v = .int .i64 z ∧ 0 ≤ z ∧ z ≤ 2500000
  | 5 => ∃ LB : Nat, v = .slice (some ⟨LB, 0, none⟩) 3 3 ∧ LB ≠ b ∧ InR w LB 3 0 90000
  | 6 => v = .pointer (some ⟨b, 0, none⟩)
  | 7 => ∃ j : Nat, j < 3 ∧ v = .int .i64 j
  | 8 => ∃ (LB o : Nat) (z : Int), v = .pointer (some ⟨LB, o, none⟩) ∧ LB ≠ b ∧ 0 ≤ z ∧ z ≤ 90000 ∧ w.cell? ⟨LB, o, none⟩ = some (.int .i64 z)
  | 9 => ∃ z : Int, v = .int .i64 z ∧ 0 ≤ z ∧ z ≤ 90000
  | 10 => ∃ z : Int, v = .int .i64 z ∧ 0 ≤ z ∧ z ≤ 2500000
  | 11 => ∃ z : Int, v = .int .i64 z ∧ 0 ≤ z ∧ z ≤ 90000
  | _ => True
theorem FS3.kept {b : Nat} {w w' : World} (h : KeptBut b w w') (ix : Nat) (v : Value) (hF : FS3 b ix v w) : FS3 b ix v w' := by
  unfold FS3 at hF ⊢
  split at hF
  all_goals first
    | exact hF
    | (obtain ⟨LB, e, hn, hi⟩ := hF; exact ⟨LB, e, hn, hi.kept h hn⟩)
    | (obtain ⟨LB, o, z, e, hn, h0, h1, hc⟩ := hF; exact ⟨LB, o, z, e, hn, h0, h1, h.cell hc hn⟩)
theorem run_lit4 {w : World} (p q r s : Int) : (Instr.buildSlice 34 4 #[(0, .int .i64 p), (1, .int .i64 q), (2, .int .i64 r), (3, .int .i64 s)]).run Tryz.prog w = .ok (.slice (some ⟨w.heap.size, 0, none⟩) 4 4) (w.alloc (.cells #[.int .i64 p, .int .i64 q, .int .i64 r, .int .i64 s] 3)) := by
  simp [Instr.buildSlice, go_sem]
theorem run_lit3 {w : World} (p q r : Int) : (Instr.buildSlice 34 3 #[(0, .int .i64 p), (1, .int .i64 q), (2, .int .i64 r)]).run Tryz.prog w = .ok (.slice (some ⟨w.heap.size, 0, none⟩) 3 3) (w.alloc (.cells #[.int .i64 p, .int .i64 q, .int .i64 r] 3)) := by
  simp [Instr.buildSlice, go_sem]
theorem OwnI.lt {w : World} {base : Nat} {v : Value} {l : List Int} (h : OwnI w base v l) : ∀ g, v.ownBlock = some g → base ≤ g ∧ g < w.heap.size := fun g hg => World.ownsRow.lt h g hg
theorem OwnI.keptBut {w w' : World} {base r : Nat} {v : Value} {l : List Int} (h : OwnI w base v l) (hk : KeptBut r w w') (hr : r < base) : OwnI w' base v l := ownsRow_of_same h (fun k h1 hk' => hk.2 k hk' (by omega))
theorem OwnI.inr {w : World} {base : Nat} {v : Value} {l : List Int} {lo hi : Int} (h : OwnI w base v l) (h0 : 0 < l.length) (hb : ∀ x ∈ l, lo ≤ x ∧ x ≤ hi) : ∃ g cap, v = .slice (some ⟨g, 0, none⟩) l.length cap ∧ base ≤ g ∧ InR w g l.length lo hi := by
  have h' := h
  obtain ⟨h1, h2⟩ := h
  rcases h2 with ⟨e, h0'⟩ | ⟨g, cap, cur, e, hg, hh, hc, _⟩
  · omega
  · refine ⟨g, cap, e, hg, fun i hi => ?_⟩
    have hm := hb _ (List.getElem_mem hi)
    have hj : (ics l)[i]? = some (.int .i64 l[i]) := by simp [ics, hi]
    have := World.ownsRow.cells h' (g := g) (by rw [e]; rfl) _ _ hj
    rw [Go.WideShapes.add_plain, Nat.zero_add] at this
    exact ⟨_, hm.1, hm.2, this⟩
theorem RowAt.kept {w w' : World} {g r : Nat} {cs : List Value} (h : RowAt w g cs) (hk : KeptBut r w w') (hg : g ≠ r) : RowAt w' g cs := h.of_block (hk.2 g h.lt hg)
def FS7 (r7 base L : Nat) (dv : Value) (dl : List Int) (p z : Int) (ix : Nat) (v : Value) (w : World) : Prop := match ix with
  | 0 => v = .pointer (some ⟨r7, 1, none⟩)
  | 1 => v = dv
  | 2 => v = .int .i64 p
  | 3 => v = .int .i64 z
  | 4 => v = .int .i64 (p + z)
  | 5 => ∃ y : Int, v = .int .i64 y ∧ 0 ≤ y ∧ y ≤ 16777216
  | 6 => v = .slice (some ⟨L, 0, none⟩) 1 1
  | 7 => ∃ y : Int, OwnI w base v (dl ++ [y]) ∧ 0 ≤ y ∧ y ≤ 16777216
  | 8 => v = .pointer (some ⟨r7, 1, none⟩)
  | _ => True
theorem FS7.kept {r7 base L : Nat} {dv : Value} {dl : List Int} {p z : Int} {w w' : World} (hr : r7 < base) (h : KeptBut r7 w w') (ix : Nat) (v : Value) (hF : FS7 r7 base L dv dl p z ix v w) : FS7 r7 base L dv dl p z ix v w' := by
  unfold FS7 at hF ⊢
  split at hF
  all_goals first
    | exact hF
    | (obtain ⟨y, ho, h0, h1⟩ := hF; exact ⟨y, ho.keptBut h hr, h0, h1⟩)
theorem KeptBut.grown {r base : Nat} {w6 wx w' : World} (h : KeptBut r w6 wx) (hb : Below base wx w') (hw : w6.heap.size ≤ base) : KeptBut r w6 w' := ⟨Nat.le_trans h.1 hb.size, fun k hk hn => (hb.block k (Nat.lt_of_lt_of_le hk hw)).trans (h.2 k hk hn)⟩
theorem FS7.any {r7 base L : Nat} {dv : Value} {dl : List Int} {p z : Int} {w w' : World} (ix : Nat) (hx : ix ≠ 7) (v : Value) (hF : FS7 r7 base L dv dl p z ix v w) : FS7 r7 base L dv dl p z ix v w' := by
  unfold FS7 at hF ⊢
  split at hF
  all_goals first
    | exact hF
    | exact absurd rfl hx
theorem OwnI.keptNe {w w' : World} {B r : Nat} {v : Value} {l : List Int} (h : OwnI w B v l) (hk : KeptBut r w w') (hv : ∀ g, v.ownBlock = some g → g ≠ r) : OwnI w' B v l := by
  obtain ⟨h1, h2⟩ := h
  refine ⟨h1, ?_⟩
  rcases h2 with h2 | ⟨g, cap, cur, e, hg, hh, r⟩
  · exact Or.inl h2
  · refine Or.inr ⟨g, cap, cur, e, hg, ?_, r⟩
    rw [hk.2 g (Array.getElem?_eq_some_iff.1 hh).1 (hv g (by rw [e]; rfl))]
    exact hh
theorem rowT_s : RowT 36 3 := ⟨by kernel_rfl, _, Tryz.underlying36, rfl⟩
end Go.Proofs.YtkpgciimhjkajaaGreatDoor
/- The choices of synopticfield: State, at the frequencies one and two. -/
namespace Go.Proofs.YtkpgciimhjkajaaGreatDoor
open Go Go.RowKit
theorem rawN_len2 : (rawN 1).length ≤ 400 ∧ (rawN 2).length ≤ 400 := by decide +kernel
theorem edgesN_le2 {n : Nat} (h : Fq n) (h2 : n ≤ 2) : (edgesN n).length ≤ 5000 := by
  rw [edgesN_eq h]
  unfold edP
  refine Nat.le_trans (cpt_le _) ?_
  rw [List.length_mergeSort, edL_len, (cellsN_perm n).length_eq]
  have h1 : n = 1 ∨ n = 2 := by have := h.1; omega
  have := rawN_len2
  rcases h1 with rfl | rfl <;> omega
def StateN (n B b : Nat) (w : World) (e : Ending) (w' : World) : Prop := ∃ (dv fv : Value) (dl fl : List Int), e = .returned (stv n dv fv) ∧ SOk n dl fl ∧
  OwnI w' w.heap.size dv dl ∧ OwnI w' w.heap.size fv fl ∧ St w B b w'
def SN7 (n : Nat) (w w6 : World) (r7 base L : Nat) (dv fv : Value) (dl : List Int) (d : Nat → Bool) (w' : World) : Prop :=
  KeptBut r7 w6 w' ∧ Below w.heap.size w6 w' ∧ base ≤ w'.heap.size ∧ (d 7 = false → OwnI w' base dv dl) ∧
  (∃ x, RowAt w' r7 [.int .i64 (n : Int), x, fv] ∧ (d 1 = false → x = dv) ∧ (d 9 = true → ∃ y : Int, OwnI w' base x (dl ++ [y]) ∧ 0 ≤ y ∧ y ≤ 16777216)) ∧
  (d 6 = false → w'.heap.size = L) ∧ (d 6 = true → d 7 = false → ∃ y : Int, w'.cell? ⟨L, 0, none⟩ = some (.int .i64 y) ∧ 0 ≤ y ∧ y ≤ 16777216)
structure LpN (n : Nat) (w w6 : World) (r7 base : Nat) (dv fv : Value) (dl : List Int) (wr : World) : Prop where
  kept : KeptBut r7 w6 wr
  below : Below w.heap.size w6 wr
  size : base ≤ wr.heap.size
  own : OwnI wr base dv dl
  row : RowAt wr r7 [.int .i64 (n : Int), dv, fv]
  bnd : ∀ x ∈ dl, 0 ≤ x ∧ x ≤ 16777216
set_option maxHeartbeats 16000000 in
set_option maxRecDepth 100000 in
theorem state_n (n : Nat) (hn : Fq n) (h2 : n ≤ 2) (B b : Nat) (w : World) (h : CodesIs w B b) :
    Calls Tryz.prog 7 #[.pointer (some ⟨b, 0, none⟩), .int .i64 (n : Int)] w (StateN n B b w) := by
  obtain ⟨N, hN⟩ : ∃ N, N = 10 * n * n + 2 := ⟨_, rfl⟩
  have hNb : 2 ≤ N ∧ N ≤ 1000 := by
    have := Nat.mul_le_mul (Nat.mul_le_mul_left 10 hn.2) hn.2
    omega
  have HEd := Lib.hid (fun w' => edges_n n hn w')
  have HCo := Lib.hid (fun w' => rnodes_any n hn w')
  rw [← hN] at HCo
  have hel := edgesN_le2 hn h2
  obtain ⟨M, hM⟩ : ∃ M, M = (edgesN n).length := ⟨_, rfl⟩
  rw [← hM] at hel
  have HM := Lib.hid (And.intro hM (And.intro hN (And.intro hel hNb)))
  have hN1 : (N : Int) ≤ 1000 := by omega
  clear hM hN hel hNb hn h2
  go_enter Tryz.func7, Tryz.ntmps7
  have hbw : Hid (b < w.heap.size) := h.lt
  have HSt0 : Hid (St w B b (w.alloc (.cells #[.int .i64 0, .slice none 0 0, .slice none 0 0] 36))) := (St.start h).alloc _
  have HR4 : Hid (RowAt (w.alloc (.cells #[.int .i64 0, .slice none 0 0, .slice none 0 0] 36)) w.heap.size [.int .i64 0, .slice none 0 0, .slice none 0 0]) := RowAt.new w [.int .i64 0, .slice none 0 0, .slice none 0 0] (by simp) _ rfl
  clear h
  go_wp2_with fail
  refine (HEd.out _).mono ?_
  rintro e w1 ⟨ev, rfl, hE, hb1⟩
  obtain ⟨ea, ec, rfl⟩ := hE.slice
  rw [← HM.out.1]
  clear hE
  have HSt1 := Lib.hid (HSt0.out.below hb1)
  have HR41 := Lib.hid (HR4.out.below hb1)
  have HL : Hid (InR _ w1.heap.size 4 0 1000000) := in4 w1 0 30 5000 1000000 1000000 (by omega) (by omega) (by omega) (by omega)
  have HStL := Lib.hid (HSt1.out.alloc (.cells #[.int .i64 0, .int .i64 30, .int .i64 5000, .int .i64 1000000] 3))
  have HR4L := Lib.hid (HR41.out.alloc (.cells #[.int .i64 0, .int .i64 30, .int .i64 5000, .int .i64 1000000] 3))
  have HLb : Hid (w1.heap.size ≠ b) := by have := HSt1.out.lt; unfold Hid; omega
  clear HSt0 HR4 hb1 HSt1 HR41
  go_wp2_with fail
  refine (next_ok B b 4 _ HStL.out.1 (by omega) (by omega)).mono ?_
  rintro e w2 ⟨j, j0, j1, rfl, hs2⟩
  obtain ⟨j, rfl⟩ := Int.eq_ofNat_of_zero_le j0
  obtain ⟨z, z0, z1, hz⟩ := HL.out.kept (KeptBut.st hs2) HLb.out j (by omega)
  have HSt2 := Lib.hid (HStL.out.then hs2)
  have HR42 := Lib.hid (HR4L.out.but hs2.2 (by have := hbw.out; omega))
  clear hs2 HL HStL HR4L HLb
  go_wp2_with fail
  refine (vector_ok B b M z 1000000 w2 HSt2.out.1 HM.out.2.2.1 ⟨z0, z1⟩ (by omega) (by omega)).mono ?_
  rintro e w3 ⟨fv, fl, rfl, hfl, hfb, hfo, hs3⟩
  obtain ⟨fa, fc, rfl⟩ := hfo.slice
  have HSt3 := Lib.hid (HSt2.out.then hs3)
  have HR43 := Lib.hid (HR42.out.but hs3.2 (by have := hbw.out; omega))
  have HF := Lib.hid (And.intro hfl (And.intro hfb (And.intro (hfo.mono HSt2.out.size) hs3)))
  have HFg : Hid (∀ g, (Value.slice fa fl.length fc).ownBlock = some g → w.heap.size < g ∧ g < w3.heap.size) := fun g hg => by
    have h1 := hfo.lt g hg
    have h2 := HR42.out.lt
    omega
  clear hfl hfb hfo hs3 HSt2 HR42 hz z0 z1
  go_wp2_with fail
  have HSq : Hid (St w B b _) := HSt3.out.alloc (.cells #[.int .i64 (n : Int), .slice none 0 0, .slice fa fl.length fc] 36)
  have HR4q := Lib.hid (HR43.out.alloc (.cells #[.int .i64 (n : Int), .slice none 0 0, .slice fa fl.length fc] 36))
  have HR7q : Hid (RowAt (w3.alloc (.cells #[.int .i64 (n : Int), .slice none 0 0, .slice fa fl.length fc] 36)) w3.heap.size [.int .i64 (n : Int), .slice none 0 0, .slice fa fl.length fc]) := RowAt.new w3 [.int .i64 (n : Int), .slice none 0 0, .slice fa fl.length fc] (by simp) 36 rfl
  have HFq : Hid (OwnI _ w.heap.size (.slice fa fl.length fc) fl) := HF.out.2.2.1.below ((Below.refl _ _).alloc (Nat.le_refl _) (.cells #[.int .i64 (n : Int), .slice none 0 0, .slice fa fl.length fc] 36))
  have HFb : Hid (fl.length = M ∧ ∀ x ∈ fl, -1000000 ≤ x ∧ x ≤ 1000000) := ⟨HF.out.1, HF.out.2.1⟩
  have H7 : Hid (w3.heap.size ≠ b ∧ w.heap.size < w3.heap.size) := ⟨by have := HSt3.out.lt; omega, HR43.out.lt⟩
  obtain ⟨r7, hr7⟩ : ∃ r, r = w3.heap.size := ⟨_, rfl⟩
  rw [← hr7] at HR7q H7 HFg ⊢
  generalize w3.alloc (.cells #[.int .i64 (n : Int), .slice none 0 0, .slice fa fl.length fc] 36) = wq at HSq HR4q HR7q HFq ⊢
  clear HSt3 HR43 HF hr7
  refine wp_region_slots2 (by kernel_rfl) 59 rfl (by kernel_rfl) (by kernel_rfl) 28 10 8 2 (by kernel_rfl) (fun d w' => St wq B b w') (FS3 b) ?hS0 ?hop ?hend
  case hS0 => exact (St.start HSq.out.1).drew
  case hop =>
    refine ⟨?_, ?_, ?_, ?_, ?_, ?_, ?_, ?_, ?_, ?_, ?_, ?_, trivial⟩
    all_goals intro d ac wx hd hcl hS hA haft K hK
    · have hlt := hS.1.lt
      refine hop_val rfl (.slice (some ⟨wx.heap.size, 0, none⟩) 4 4) (w' := wx.alloc (.cells #[.int .i64 0, .int .i64 40, .int .i64 100000, .int .i64 2500000] 3)) ?_ (hK _ _ ⟨wx.heap.size, rfl, by omega, in4 wx 0 40 100000 2500000 2500000 (by omega) (by omega) (by omega) (by omega)⟩ (fun k' u _ h => FS3.kept (KeptBut.of ((Below.refl _ _).alloc (Nat.le_refl _) _)) k' u h) (hS.alloc _))
      simp [execOp, Act.eval, run_lit4, -Array.getD_eq_getD_getElem?]
    · have f0 : ac.tmps.getD 0 undef = .pointer (some ⟨b, 0, none⟩) := same_slot hA 0 (by kernel_rfl)
      refine hop_val rfl (.pointer (some ⟨b, 0, none⟩)) (w' := wx) ?_ (hK _ _ rfl (fun _ _ _ h => h) hS)
      simp [execOp, Act.eval, f0, go_sem, -Array.getD_eq_getD_getElem?]
    · have f29 : ac.tmps.getD 29 undef = .pointer (some ⟨b, 0, none⟩) := (haft ⟨1, .data⟩ (by simp) rfl).2 _ rfl
      refine hop_call rfl Tryz.func22 (by kernel_rfl) (by kernel_rfl) _ _ rfl #[.pointer (some ⟨b, 0, none⟩), .int .i64 4] (by simp only [List.map_toArray, List.map_cons, List.map_nil, Act.eval, f29]) _ (next_ok B b 4 wx hS.1 (by omega) (by omega)) ?_
      rintro e w' ⟨x, x0, x1, rfl, hs'⟩
      obtain ⟨j, rfl⟩ := Int.eq_ofNat_of_zero_le x0
      exact ⟨_, rfl, hK _ _ ⟨j, by omega, rfl⟩ (fun k' u _ h => FS3.kept (KeptBut.st hs') k' u h) (hS.then hs')⟩
    · obtain ⟨LB, e0, hn, hi⟩ := (haft ⟨0, .data⟩ (by simp) rfl).2 _ rfl
      obtain ⟨j, hj, e2⟩ := (haft ⟨2, .data⟩ (by simp) rfl).2 _ rfl
      have f28 : ac.tmps.getD 28 undef = .slice (some ⟨LB, 0, none⟩) 4 4 := e0
      have f30 : ac.tmps.getD 30 undef = .int .i64 j := e2
      obtain ⟨z, z0, z1, hz⟩ := hi j hj
      have j0 : (j : Int) < 4 := by omega
      refine hop_val rfl (.pointer (some ⟨LB, j, none⟩)) (w' := wx) ?_ (hK _ _ ⟨LB, j, z, rfl, hn, z0, z1, hz⟩ (fun _ _ _ h => h) hS)
      simp [execOp, Act.eval, f28, f30, j0, go_sem, -Array.getD_eq_getD_getElem?]
    · obtain ⟨LB, o, z, e3, hn, z0, z1, hz⟩ := (haft ⟨3, .data⟩ (by simp) rfl).2 _ rfl
      have f31 : ac.tmps.getD 31 undef = .pointer (some ⟨LB, o, none⟩) := e3
      refine hop_val rfl (.int .i64 z) (w' := wx) ?_ (hK _ _ ⟨z, rfl, z0, z1⟩ (fun _ _ _ h => h) hS)
      simp [execOp, Act.eval, f31, hz, go_sem, -Array.getD_eq_getD_getElem?]
    · have hlt := hS.1.lt
      refine hop_val rfl (.slice (some ⟨wx.heap.size, 0, none⟩) 3 3) (w' := wx.alloc (.cells #[.int .i64 0, .int .i64 30, .int .i64 90000] 3)) ?_ (hK _ _ ⟨wx.heap.size, rfl, by omega, in3 wx 0 30 90000 90000 (by omega) (by omega) (by omega)⟩ (fun k' u _ h => FS3.kept (KeptBut.of ((Below.refl _ _).alloc (Nat.le_refl _) _)) k' u h) (hS.alloc _))
      simp [execOp, Act.eval, run_lit3, -Array.getD_eq_getD_getElem?]
    · have f0 : ac.tmps.getD 0 undef = .pointer (some ⟨b, 0, none⟩) := same_slot hA 0 (by kernel_rfl)
      refine hop_val rfl (.pointer (some ⟨b, 0, none⟩)) (w' := wx) ?_ (hK _ _ rfl (fun _ _ _ h => h) hS)
      simp [execOp, Act.eval, f0, go_sem, -Array.getD_eq_getD_getElem?]
    · have f34 : ac.tmps.getD 34 undef = .pointer (some ⟨b, 0, none⟩) := (haft ⟨6, .data⟩ (by simp) rfl).2 _ rfl
      refine hop_call rfl Tryz.func22 (by kernel_rfl) (by kernel_rfl) _ _ rfl #[.pointer (some ⟨b, 0, none⟩), .int .i64 3] (by simp only [List.map_toArray, List.map_cons, List.map_nil, Act.eval, f34]) _ (next_ok B b 3 wx hS.1 (by omega) (by omega)) ?_
      rintro e w' ⟨x, x0, x1, rfl, hs'⟩
      obtain ⟨j, rfl⟩ := Int.eq_ofNat_of_zero_le x0
      exact ⟨_, rfl, hK _ _ ⟨j, by omega, rfl⟩ (fun k' u _ h => FS3.kept (KeptBut.st hs') k' u h) (hS.then hs')⟩
    · obtain ⟨LB, e0, hn, hi⟩ := (haft ⟨5, .data⟩ (by simp) rfl).2 _ rfl
      obtain ⟨j, hj, e2⟩ := (haft ⟨7, .data⟩ (by simp) rfl).2 _ rfl
      have f33 : ac.tmps.getD 33 undef = .slice (some ⟨LB, 0, none⟩) 3 3 := e0
      have f35 : ac.tmps.getD 35 undef = .int .i64 j := e2
      obtain ⟨z, z0, z1, hz⟩ := hi j hj
      have j0 : (j : Int) < 3 := by omega
      refine hop_val rfl (.pointer (some ⟨LB, j, none⟩)) (w' := wx) ?_ (hK _ _ ⟨LB, j, z, rfl, hn, z0, z1, hz⟩ (fun _ _ _ h => h) hS)
      simp [execOp, Act.eval, f33, f35, j0, go_sem, -Array.getD_eq_getD_getElem?]
    · obtain ⟨LB, o, z, e3, hn, z0, z1, hz⟩ := (haft ⟨8, .data⟩ (by simp) rfl).2 _ rfl
      have f36 : ac.tmps.getD 36 undef = .pointer (some ⟨LB, o, none⟩) := e3
      refine hop_val rfl (.int .i64 z) (w' := wx) ?_ (hK _ _ ⟨z, rfl, z0, z1⟩ (fun _ _ _ h => h) hS)
      simp [execOp, Act.eval, f36, hz, go_sem, -Array.getD_eq_getD_getElem?]
    · obtain ⟨z, e4, z0, z1⟩ := (haft ⟨4, .data⟩ (by simp) rfl).2 _ rfl
      have f32 : ac.tmps.getD 32 undef = .int .i64 z := e4
      refine hop_val rfl (.int .i64 z) (w' := wx) ?_ (hK _ _ ⟨z, rfl, z0, z1⟩ (fun _ _ _ h => h) hS)
      simp [execOp, Act.eval, f32, go_sem, -Array.getD_eq_getD_getElem?]
    · obtain ⟨z, e4, z0, z1⟩ := (haft ⟨9, .data⟩ (by simp) rfl).2 _ rfl
      have f37 : ac.tmps.getD 37 undef = .int .i64 z := e4
      refine hop_val rfl (.int .i64 z) (w' := wx) ?_ (hK _ _ ⟨z, rfl, z0, z1⟩ (fun _ _ _ h => h) hS)
      simp [execOp, Act.eval, f37, go_sem, -Array.getD_eq_getD_getElem?]
  case hend =>
    intro u wd d hd hS hF
    obtain ⟨p, hp, p0, p1⟩ : ∃ z : Int, u 8 = .int .i64 z ∧ 0 ≤ z ∧ z ≤ 2500000 := hF 10 _ rfl
    obtain ⟨q, hq, q0, q1⟩ : ∃ z : Int, u 9 = .int .i64 z ∧ 0 ≤ z ∧ z ≤ 90000 := hF 11 _ rfl
    have HSd := Lib.hid (HSq.out.then hS)
    have HR4d := Lib.hid (HR4q.out.but hS.2 (by have := hbw.out; omega))
    have HR7d := Lib.hid (HR7q.out.but hS.2 H7.out.1)
    have HFd := Lib.hid (HFq.out.st hS hbw.out)
    clear hF hd hS d HSq HR4q HR7q HFq
    simp only [mixL]
    rw [hp, hq]
    go_wp2_with fail
    refine (HCo.out wd).mono ?_
    rintro e w5 ⟨rfl, hw5⟩
    obtain rfl := hw5.symm
    go_wp2_with fail
    refine (vector_ok B b N q 90000 wd HSd.out.1 (by have := HM.out.2.2.2; omega) ⟨q0, q1⟩ (by omega) (by omega)).mono ?_
    rintro e w6 ⟨vv, vl, rfl, hvl, hvb, hvo, hs6⟩
    obtain ⟨g, gc, rfl, hg, hin⟩ := hvo.inr (by have := HM.out.2.2.2; omega) hvb
    have HIn : Hid (InR w6 g N (-90000) 90000) := by rw [hvl] at hin; exact hin
    have HS6 := Lib.hid (HSd.out.then hs6)
    have HR46 := Lib.hid (HR4d.out.but hs6.2 (by have := hbw.out; omega))
    have HR76 := Lib.hid (HR7d.out.but hs6.2 H7.out.1)
    have HF6 := Lib.hid (HFd.out.st hs6 hbw.out)
    have Hg7 : Hid (g ≠ r7) := by have := HR7d.out.lt; unfold Hid; omega
    rw [hvl]
    clear hvb hvo hs6 hin hg HSd HR4d HR7d HFd hvl
    obtain ⟨base, hbase⟩ : ∃ base, base = w6.heap.size := ⟨_, rfl⟩
    have HW6 : Hid (w6.heap.size ≤ base) := Nat.le_of_eq hbase.symm
    have HRB : Hid (r7 < base) := by unfold Hid; rw [hbase]; exact HR76.out.lt
    have HWB : Hid (w.heap.size ≤ base) := by have := H7.out.2; have := HRB.out; unfold Hid; omega
    have HLp : Hid (LpN n w w6 r7 base (.slice none 0 0) (.slice fa fl.length fc) [] w6) := ⟨⟨Nat.le_refl _, fun _ _ _ => rfl⟩, Below.refl _ _, Nat.le_of_eq hbase, OwnI.nil _ _, HR76.out, by simp⟩
    clear hbase HR76
    go_wp2_with fail
    go_loopw [44, 11] (fun kv _ wr => ∃ (i : Nat) (dv : Value) (dl : List Int), kv = .int .i64 i ∧ i ≤ N ∧ dl.length = i ∧ Hid (LpN n w w6 r7 base dv (.slice fa fl.length fc) dl wr)) (fun kv _ _ => (10000 - intOf kv).toNat)
    case atStart => exact ⟨0, _, [], rfl, by omega, rfl, HLp⟩
    case round =>
      clear HLp
      obtain ⟨i, dv, dl, rfl, hi, hl, hs⟩ := hrel
      by_cases hil : i < N
      · have i0 : (i : Int) < (N : Int) := by omega
        obtain ⟨z, z0, z1, hz⟩ := HIn.out.kept hs.out.kept Hg7.out i hil
        have HZ : Hid (0 ≤ p ∧ p ≤ 2500000 ∧ -90000 ≤ z ∧ z ≤ 90000) := ⟨p0, p1, z0, z1⟩
        have HDl : Hid (dl.length ≤ 1000) := by unfold Hid; have := HM.out.2.2.2; omega
        have Hdo := Lib.hid hs.out.own
        go_upto_region 7 with fail
        clear hz
        obtain ⟨L, hL⟩ : ∃ L, L = wr.heap.size := ⟨_, rfl⟩
        refine wp_region_slots (by kernel_rfl) 59 rfl (by kernel_rfl) (by kernel_rfl) 48 9 (by kernel_rfl) (SN7 n w w6 r7 base L dv (.slice fa fl.length fc) dl) (FS7 r7 base L dv dl p z) ?hS1 ?hop1 ?hend1
        case hS1 => exact ⟨hs.out.kept, hs.out.below.drew, hs.out.size, fun _ => hs.out.own.below (Below.refl _ _).drew, ⟨dv, hs.out.row.drew, fun _ => rfl, fun h => by simp at h⟩, fun _ => hL.symm, fun h => by simp at h⟩
        case hop1 =>
          refine ⟨?_, ?_, ?_, ?_, ?_, ?_, ?_, ?_, ?_, ?_, trivial⟩
          all_goals intro d ac wx hd hcl hS hA haft K hK
          · have f7 : ac.tmps.getD 7 undef = .pointer (some ⟨r7, 0, none⟩) := same_slot hA 7 (by kernel_rfl)
            refine hop_val rfl (.pointer (some ⟨r7, 1, none⟩)) (w' := wx) ?_ (hK _ _ rfl (fun _ _ _ h => h) hS)
            simp [execOp, Act.eval, f7, go_sem, -Array.getD_eq_getD_getElem?]
          · have f48 : ac.tmps.getD 48 undef = .pointer (some ⟨r7, 1, none⟩) := (haft ⟨0, .data⟩ (by simp) rfl).2 _ rfl
            obtain ⟨s1, s2, s3, s4, ⟨x, hx, hx1, hx2⟩, s6, s7⟩ := hS
            obtain rfl := hx1 hd
            have c1 := hx.at 1 rfl
            refine hop_val rfl x (w' := wx) ?_ (hK _ _ rfl (fun _ _ _ h => h) ⟨s1, s2, s3, s4, ⟨x, hx, fun h => by simp at h, hx2⟩, s6, s7⟩)
            obtain ⟨xa, xc, rfl⟩ := Hdo.out.slice
            simp [execOp, Act.eval, f48, c1, go_sem, -Array.getD_eq_getD_getElem?]
          · have f8 : ac.tmps.getD 8 undef = .int .i64 p := same_slot hA 8 (by kernel_rfl)
            refine hop_val rfl (.int .i64 p) (w' := wx) ?_ (hK _ _ rfl (fun _ _ _ h => h) hS)
            simp [execOp, Act.eval, f8, go_sem, -Array.getD_eq_getD_getElem?]
          · have f11 : ac.tmps.getD 11 undef = .int .i64 z := same_slot hA 11 (by kernel_rfl)
            refine hop_val rfl (.int .i64 z) (w' := wx) ?_ (hK _ _ rfl (fun _ _ _ h => h) hS)
            simp [execOp, Act.eval, f11, go_sem, -Array.getD_eq_getD_getElem?]
          · have f50 : ac.tmps.getD 50 undef = .int .i64 p := (haft ⟨2, .data⟩ (by simp) rfl).2 _ rfl
            have f51 : ac.tmps.getD 51 undef = .int .i64 z := (haft ⟨3, .data⟩ (by simp) rfl).2 _ rfl
            refine hop_val rfl (.int .i64 (p + z)) (w' := wx) ?_ (hK _ _ rfl (fun _ _ _ h => h) hS)
            simp [execOp, Act.eval, f50, f51, go_sem, -Array.getD_eq_getD_getElem?]
            exact IntWalk.i64_in _ (by have := HZ.out; omega)
          · have f52 : ac.tmps.getD 52 undef = .int .i64 (p + z) := (haft ⟨4, .data⟩ (by simp) rfl).2 _ rfl
            refine hop_call rfl Tryz.func27 (by kernel_rfl) (by kernel_rfl) _ _ rfl #[.int .i64 (p + z), .int .i64 0, .int .i64 16777216] (by simp only [List.map_toArray, List.map_cons, List.map_nil, Act.eval, f52]) _ (clip_any (p + z) 0 16777216 (by omega) wx) ?_
            rintro e w' ⟨y, y0, y1, rfl, rfl⟩
            exact ⟨_, rfl, hK _ _ ⟨y, rfl, y0, y1⟩ (fun _ _ _ h => h) hS⟩
          · obtain ⟨y, e5, y0, y1⟩ := (haft ⟨5, .data⟩ (by simp) rfl).2 _ rfl
            have f53 : ac.tmps.getD 53 undef = .int .i64 y := e5
            obtain ⟨s1, s2, s3, s4, ⟨x, hx, hx1, hx2⟩, s6, s7⟩ := hS
            have hL := s6 hd
            have hB : Below wx.heap.size wx (wx.alloc (.cells #[.int .i64 y] 3)) := (Below.refl _ _).alloc (Nat.le_refl _) _
            refine hop_val rfl (.slice (some ⟨wx.heap.size, 0, none⟩) 1 1) (w' := wx.alloc (.cells #[.int .i64 y] 3)) ?_ (hK _ _ (by rw [hL]; rfl) (fun k' u _ h => FS7.kept HRB.out (KeptBut.of hB) k' u h) ⟨s1.trans (KeptBut.of hB), s2.trans (hB.mono (Nat.le_trans HWB.out s3)), Nat.le_trans s3 hB.size, fun h => (s4 h).below hB, ⟨x, hx.below hB, hx1, fun h => ?_⟩, fun h => by simp at h, fun _ _ => ⟨y, ?_, y0, y1⟩⟩)
            · simp [execOp, Act.eval, f53, run_lit, -Array.getD_eq_getD_getElem?]
            · obtain ⟨y', o1, o2⟩ := hx2 h
              exact ⟨y', o1.below hB, o2⟩
            · rw [← hL]
              have hh : (wx.alloc (.cells #[.int .i64 y] 3)).heap[wx.heap.size]? = some (.cells #[.int .i64 y] 3 (0, 0)) := heap_alloc_new wx _
              simp only [World.cell?, hh]
              rfl
          · have f49 : ac.tmps.getD 49 undef = dv := (haft ⟨1, .data⟩ (by simp) rfl).2 _ rfl
            have f54 : ac.tmps.getD 54 undef = .slice (some ⟨L, 0, none⟩) 1 1 := (haft ⟨6, .data⟩ (by simp) rfl).2 _ rfl
            obtain ⟨s1, s2, s3, s4, ⟨x, hx, hx1, hx2⟩, s6, s7⟩ := hS
            have d6 := (haft ⟨6, .data⟩ (by simp) rfl).1
            obtain ⟨y, hy, y0, y1⟩ := s7 d6 hd
            have hnews : ∀ j u, [Value.int .i64 y][j]? = some u → wx.cell? ((⟨L, 0, none⟩ : Addr).add j) = some u := by
              intro j u hj
              match j, hj with
              | 0, hj => rw [Go.WideShapes.add_plain]; simp at hj; subst hj; exact hy
              | j + 1, hj => simp at hj
            obtain ⟨v', w', hrun, hown, hbl, hgr⟩ := append_at 34 3 Tryz.underlying34 iinfo rfl (by decide) (s4 hd) ⟨L, 0, none⟩ 1 1 [.int .i64 y] rfl hnews (by intro u hu; simp at hu; subst hu; rfl) (by have := HDl.out; omega) (by omega) (by decide) s3 34
            have hown' : OwnI w' base v' (dl ++ [y]) := by
              unfold OwnI
              rw [List.length_append]
              have e : ics (dl ++ [y]) = ics dl ++ [.int .i64 y] := by simp [ics]
              rw [e]; exact hown
            refine hop_val rfl v' (w' := w') ?_ (hK _ _ ⟨y, hown', y0, y1⟩ (fun k' u hk' h => FS7.any k' (by rintro rfl; rw [hk'] at hd; cases hd) u h) ⟨s1.grown hbl HW6.out, s2.trans (hbl.mono HWB.out), Nat.le_trans s3 hbl.size, fun h => by simp at h, ⟨x, hx.of_block (hbl.block _ HRB.out), hx1, fun h => ?_⟩, fun h => ?_, fun _ h => by simp at h⟩)
            · unfold execOp
              simp only [resolve, invoke, builtin, Sem.run_bind, Sem.run_pure, Result.andThen_ok, List.map_toArray, List.map_cons, List.map_nil, Act.eval, f49, f54, hrun]
            · have h : d 9 = true := h
              have := hcl 9 _ rfl h ⟨7, .data⟩ (by simp) rfl
              rw [this] at hd; cases hd
            · have h : d 6 = false := h
              rw [d6] at h; cases h
          · have f7 : ac.tmps.getD 7 undef = .pointer (some ⟨r7, 0, none⟩) := same_slot hA 7 (by kernel_rfl)
            refine hop_val rfl (.pointer (some ⟨r7, 1, none⟩)) (w' := wx) ?_ (hK _ _ rfl (fun _ _ _ h => h) hS)
            simp [execOp, Act.eval, f7, go_sem, -Array.getD_eq_getD_getElem?]
          · obtain ⟨y, ho, y0, y1⟩ := (haft ⟨7, .data⟩ (by simp) rfl).2 _ rfl
            obtain ⟨va, vc, e7⟩ := ho.slice
            have ho : OwnI wx base (ac.tmps.getD 55 undef) (dl ++ [y]) := ho
            have f55 : ac.tmps.getD 55 undef = .slice va (dl ++ [y]).length vc := e7
            rw [f55] at ho
            have f56 : ac.tmps.getD 56 undef = .pointer (some ⟨r7, 1, none⟩) := (haft ⟨8, .data⟩ (by simp) rfl).2 _ rfl
            obtain ⟨s1, s2, s3, s4, ⟨x, hx, hx1, hx2⟩, s6, s7⟩ := hS
            have d7 := (haft ⟨7, .data⟩ (by simp) rfl).1
            have d6 := (haft ⟨6, .phase⟩ (by simp) rfl).1
            have d1 := (haft ⟨1, .phase⟩ (by simp) rfl).1
            have q0 := hx.at 1 rfl
            have q1 := hx.2.2 1 (by simp)
            refine hop_none rfl (w' := wx.setCell ⟨r7, 1, none⟩ (.slice va (dl ++ [y]).length vc)) ?_ (hK undef _ trivial (fun k' u _ h => FS7.kept HRB.out (KeptBut.set r7 wx 1 _) k' u h) ⟨s1.trans (KeptBut.set r7 wx 1 _), s2.setCell (Nat.le_of_lt H7.out.2) _, by simpa [World.setCell] using s3, fun h => ?_, ⟨_, hx.set 1 (by simp) _, fun h => ?_, fun _ => ⟨y, ho.keptBut (KeptBut.set r7 wx 1 _) HRB.out, y0, y1⟩⟩, fun h => ?_, fun _ h => ?_⟩)
            · simp [execOp, Act.eval, f55, f56, q0, q1, go_sem, -Array.getD_eq_getD_getElem?]
            · have h : d 7 = false := h
              rw [d7] at h; cases h
            · have h : d 1 = false := h
              rw [d1] at h; cases h
            · have h : d 6 = false := h
              rw [d6] at h; cases h
            · have h : d 7 = false := h
              rw [d7] at h; cases h
        case hend1 =>
          intro u2 we d hd hS hF
          obtain ⟨s1, s2, s3, s4, ⟨x, hx, hx1, hx2⟩, s6, s7⟩ := hS
          obtain ⟨y, ho, y0, y1⟩ := hx2 (hd 9 (by simp))
          have HLe : Hid (LpN n w w6 r7 base x (.slice fa fl.length fc) (dl ++ [y]) we) := ⟨s1, s2, s3, ho, hx, fun v hv => by
            rcases List.mem_append.1 hv with hv | hv
            · exact hs.out.bnd v hv
            · simp at hv; subst hv; exact ⟨y0, y1⟩⟩
          clear hF hd hx2 s1 s2 s3 s4 s6 s7 hx1 hx ho d hs
          simp only [mixL]
          go_wp2_with fail
          go_roundw
          case rel => exact ⟨i + 1, x, dl ++ [y], by go_num, by omega, by rw [List.length_append, hl]; rfl, HLe⟩
          case measure => simp [intOf]; omega
      · obtain rfl : i = N := by omega
        obtain ⟨da, dc, rfl⟩ := hs.out.own.slice
        have HR4e : Hid (RowAt wr w.heap.size [.int .i64 0, .slice none 0 0, .slice none 0 0]) := HR46.out.kept hs.out.kept (by have := H7.out.2; omega)
        have HR7e := Lib.hid hs.out.row
        go_wp2_with (first
          | (refine row_load rfl _ rfl _ rfl _ HR7e.out rowT_s ?_)
          | (refine row_store rfl _ _ rfl _ rfl _ [.int .i64 (n : Int), .slice da dl.length dc, .slice fa fl.length fc] rfl HR4e.out rfl rowT_s (by intro v hv; simp at hv; rcases hv with rfl | rfl | rfl <;> rfl) ?_; intro w8 e8 h8))
        refine ret_row rfl _ _ e8 rowT_s rfl rfl ?_
        have hk8 : KeptBut w.heap.size wr w8 := ⟨Nat.le_of_eq h8.2.2.2.1.symm, fun k _ hn => h8.2.2.2.2 k hn⟩
        refine ⟨_, _, dl, fl, rfl, ⟨by rw [hl]; exact HM.out.2.1, by rw [HFb.out.1]; exact HM.out.1, hs.out.bnd, fun x hx => by have := HFb.out.2 x hx; omega⟩, ?_, ?_, ?_⟩
        · exact (hs.out.own.keptBut hk8 (by have := H7.out.2; have := HRB.out; omega)).mono HWB.out
        · exact (HF6.out.keptNe hs.out.kept (fun g hg => by have := HFg.out g hg; omega)).keptNe hk8 (fun g hg => by have := HFg.out g hg; omega)
        · exact (HS6.out.grown hs.out.below hbw.out (Nat.le_refl _)).grown (h8.below (Nat.le_refl _)) hbw.out (Nat.le_refl _)
end Go.Proofs.YtkpgciimhjkajaaGreatDoor
/- As RegJ, with a ghost: what an operation has made (a block's number) may be named by the invariant. No program. -/
namespace Go.Proofs.YtkpgciimhjkajaaGreatDoor
open Go Go.RowKit
section
variable {P : Program} {ops : Array Oper} {Q : Exit → Act → World → Prop}
def HopAtG {Γ : Type} (P : Program) (ops : Array Oper) (Q : Exit → Act → World → Prop) (a0 : Act) (S : Γ → (Nat → Bool) → World → Prop) (F : Γ → Nat → Value → World → Prop) (i : Nat) (o : Oper) : Prop :=
  ∀ (γ : Γ) (d : Nat → Bool) (a : Act) (w : World), d i = false → ClosedD ops d → S γ d w → SameAct ops a0 a →
    (∀ e ∈ o.after, Region.binds .any e = true → d e.on = true ∧ ∀ (p : Oper), ops[e.on]? = some p → F γ e.on (slotOf p a) w) →
    ∀ K : Act → World → Prop, (∀ γ' v w', F γ' i (match o.dst with | some _ => v | none => undef) w' → (∀ k u, d k = true → F γ k u w → F γ' k u w') → S γ' (fun k => k == i || d k) w' → K (a.put o.dst v) w') → if Region.wanted o (yielded ops a.tmps) = true then Oper.wp P o a w K Q else K (a.put o.dst undef) w
theorem wp_region_phaseG {Γ : Type} (γ0 : Γ) {id : Nat} {a0 : Act} {w0 : World} (hm : P.follows .mixedOrders = true) (N : Nat) (hN : a0.tmps.size = N) (hd : distB ops N = true) (hb : backC ops = true)
    (S : Γ → (Nat → Bool) → World → Prop) (F : Γ → Nat → Value → World → Prop) (hS0 : S γ0 (fun _ => false) w0.drew)
    (hop : AllHops (HopAtG P ops Q a0 S F) 0 ops.toList)
    (hend : ∀ (γ : Γ) (a : Act) (w : World) (d : Nat → Bool), (∀ k, k < ops.size → d k = true) → S γ d w → SameAct ops a0 a → (∀ (k : Nat) (o : Oper), ops[k]? = some o → F γ k (slotOf o a) w) → Q .normal a w) : (Code.region id ops true).wp P Q a0 w0 := by
  refine wp_region_any hm ?_
  refine wpAny_inv (fun listed a w => ∃ γ, (∃ d, (∀ k, k < ops.size → d k = listed.getD k false) ∧ ClosedD ops d ∧ S γ d w) ∧ SameAct ops a0 a ∧ ∀ k o, ops[k]? = some o → listed.getD k false = true → F γ k (slotOf o a) w) ?_ ?_ _ _ _ _ (by simp) ?_ ?_
  · rintro listed a w i hsz ⟨γ, ⟨d, hdl, hcl, hS⟩, hA, hF⟩ hi
    obtain ⟨h0, o, ho, hall⟩ := mem_ready.1 hi
    have hio : i < ops.size := (Array.getElem?_eq_some_iff.1 ho).1
    have hil : i < listed.size := by omega
    have hdi : d i = false := by
      rw [hdl i hio]
      have : listed.getD i true = false := h0
      simp [hil] at this ⊢; exact this
    have hop' := allHops_at _ 0 i o hop (by rw [Array.getElem?_toList]; exact ho)
    rw [Nat.zero_add] at hop'
    refine wpOp_step ho fun K' hK => hop' γ d a w hdi hcl hS hA (fun e he hbd => ?_) K' (fun γ' v w' hv hr hs => hK _ _ ⟨γ', ⟨fun k => k == i || d k, ?_, ?_, hs⟩, hA.put ho v, fun k p hp hl => ?_⟩)
    · have h1 := hall e he hbd
      have hle : e.on < ops.size := by
        rcases Nat.lt_or_ge e.on ops.size with h | h
        · exact h
        · simp [Array.getElem?_eq_none (show listed.size ≤ e.on by omega)] at h1
      exact ⟨by rw [hdl _ hle]; exact h1, fun p hp => hF e.on p hp h1⟩
    · intro k hk
      by_cases hki : k = i
      · subst hki
        simp [hil]
      · rw [getD_set_ne false (Ne.symm hki), ← hdl k hk]
        simp [hki]
    · intro k p hp hk e he hbd
      by_cases hki : k = i
      · subst hki
        obtain rfl := Option.some.inj (ho.symm.trans hp)
        have h1 := hall e he hbd
        have hle : e.on < ops.size := by
          rcases Nat.lt_or_ge e.on ops.size with h | h
          · exact h
          · simp [Array.getElem?_eq_none (show listed.size ≤ e.on by omega)] at h1
        have h2 : d e.on = true := by rw [hdl _ hle]; exact h1
        simp [h2]
      · have hk' : d k = true := by simpa [hki] using hk
        have h2 := hcl k p hp hk' e he hbd
        simp [h2]
    · by_cases hki : k = i
      · subst hki
        rw [ho] at hp
        injection hp with hp
        subst hp
        unfold slotOf
        cases hq : o.dst with
        | none => rw [hq] at hv; exact hv
        | some t =>
          rw [hq] at hv
          have hlt := (dist_spec hd ho hq).1
          simp only
          have hlt2 : t < a.tmps.size := by rw [hA.2.1, hN]; exact hlt
          rw [put_same hlt2]
          exact hv
      · have hl' : listed.getD k false = true := by rw [getD_set_ne false (Ne.symm hki)] at hl; exact hl
        have hko : k < ops.size := (Array.getElem?_eq_some_iff.1 hp).1
        have h1 := hr k _ (by rw [hdl k hko]; exact hl') (hF k p hp hl')
        have e : slotOf p (a.put o.dst v) = slotOf p a := by
          unfold slotOf
          cases hq : p.dst with
          | none => rfl
          | some t => simp only; exact put_other ((dist_spec hd hp hq).2 i o ho (Ne.symm hki))
        rw [e]; exact h1
  · rintro listed a w hsz ⟨γ, ⟨d, hdl, hcl, hS⟩, hA, hF⟩ hr
    have hal := all_listedC hb hr hsz
    exact hend γ a w d (fun k hk => by rw [hdl k hk]; exact hal k hk) hS hA fun k o ho => hF k o ho (hal k (Array.getElem?_eq_some_iff.1 ho).1)
  · rw [Array.toList_replicate]; exact Nat.le_trans (List.count_le_length) (by simp)
  · refine ⟨γ0, ⟨fun _ => false, fun k hk => by simp [hk], (fun k p _ hk => by cases hk), hS0⟩, ⟨rfl, rfl, fun _ _ => rfl⟩, fun k o ho hl => ?_⟩
    exfalso
    have hk := (Array.getElem?_eq_some_iff.1 ho).1
    simp [hk] at hl
theorem wp_region_slotsG {Γ : Type} (γ0 : Γ) {id : Nat} {a0 : Act} {w0 : World} (hm : P.follows .mixedOrders = true) (N : Nat) (hN : a0.tmps.size = N) (hd : distB ops N = true) (hb : backC ops = true) (lo n : Nat) (hs : slotsB ops lo n = true)
    (S : Γ → (Nat → Bool) → World → Prop) (F : Γ → Nat → Value → World → Prop) (hS0 : S γ0 (fun _ => false) w0.drew)
    (hop : AllHops (HopAtG P ops Q a0 S F) 0 ops.toList)
    (hend : ∀ (γ : Γ) (u : Nat → Value) (w : World) (d : Nat → Bool), (∀ k, k < ops.size → d k = true) → S γ d w → (∀ (k : Nat) (o : Oper), ops[k]? = some o → F γ k (match o.dst with | some t => u t | none => undef) w) →
      Q .normal ⟨(mixL u lo n 0 a0.tmps.toList).toArray, a0.defers⟩ w) : (Code.region id ops true).wp P Q a0 w0 := by
  refine wp_region_phaseG γ0 hm N hN hd hb S F hS0 hop fun γ a w d h1 h2 h3 h4 => ?_
  rw [sameAct_mix h3 hs]
  refine hend γ _ w d h1 h2 fun k o ho => ?_
  exact h4 k o ho
end
end Go.Proofs.YtkpgciimhjkajaaGreatDoor
/- Settings: what a change of a row leaves; schemes. -/
namespace Go.Proofs.YtkpgciimhjkajaaGreatDoor
open Go Go.RowKit
def setL : List Value → Nat → List Value → List Value
  | cs, _, [] => cs
  | cs, o, v :: r => setL (cs.set o v) (o + 1) r
theorem setL_length : ∀ (vs cs : List Value) (o : Nat), (setL cs o vs).length = cs.length
  | [], _, _ => rfl
  | v :: r, cs, o => by rw [setL, setL_length r, List.length_set]
theorem setL_low : ∀ (vs cs : List Value) (o i : Nat), i < o → (setL cs o vs)[i]? = cs[i]?
  | [], _, _, _, _ => rfl
  | v :: r, cs, o, i, h => by rw [setL, setL_low r _ _ _ (by omega), List.getElem?_set_ne (by omega)]
theorem setL_mem : ∀ (vs cs : List Value) (o : Nat) (v : Value), v ∈ setL cs o vs → v ∈ cs ∨ v ∈ vs
  | [], _, _, _, h => Or.inl h
  | u :: r, cs, o, v, h => by
    rcases setL_mem r _ _ _ h with h | h
    · rcases List.mem_or_eq_of_mem_set h with h | h
      · exact Or.inl h
      · exact Or.inr (by rw [h]; exact List.mem_cons_self ..)
    · exact Or.inr (List.mem_cons_of_mem _ h)
theorem RowAt.setCells {b : Nat} : ∀ (vs cs : List Value) (o : Nat) (w : World), RowAt w b cs → o + vs.length ≤ cs.length → RowAt (w.setCells b o vs) b (setL cs o vs)
  | [], _, _, _, h, _ => h
  | v :: r, cs, o, w, h, hl => by
    rw [World.setCells, setL]
    simp only [List.length_cons] at hl
    exact RowAt.setCells r _ _ _ (h.set o (by omega) v) (by rw [List.length_set]; omega)
theorem hop_row_storeM {ops : Array Oper} {Q : Exit → Act → World → Prop} {o : Oper} {a : Act} {w : World} {K : Act → World → Prop} (hg : o.guard = none) {t : TypeId} (x y : Operand) (ho : o.op = .store t x y)
    (b k : Nat) (hx : a.eval x = .pointer (some ⟨b, k, none⟩)) (cs cs' : List Value) (hy : a.eval y = .agg cs'.toArray) (h : RowAt w b cs) (hl : k + cs'.length ≤ cs.length) (ht : RowT t cs'.length) (h1 : ∀ v ∈ cs', v.oneCell' = true)
    (hk : ∀ w', RowAt w' b (setL cs k cs') → ApartR b w w' → K (a.put o.dst undef) w') :
    if Region.wanted o (yielded ops a.tmps) = true then Oper.wp Tryz.prog o a w K Q else K (a.put o.dst undef) w := by
  have hth : w.there b k cs'.length := fun j hj => by
    have hlt : k + j < cs.length := by omega
    refine ⟨?_, h.2.2 _ hlt⟩
    rw [h.2.1 _ hlt, List.getElem?_eq_getElem hlt]; rfl
  have hrun := run_storeAt_mid (P := Tryz.prog) w b k t cs'.toArray (by rw [List.size_toArray]; exact hth) (by rw [ht.1, List.size_toArray]) (all_oneCell_toArray h1)
  refine hop_none hg (w' := w.setCells b k cs') ?_ (hk _ (RowAt.setCells cs' cs k w h hl) (apartR_setCells _ _ _ _))
  unfold execOp
  simp only [ho, hx, hy, Sem.run_bind, hrun, Result.andThen_ok, Sem.run_pure]
def SeA (S : List Value) : Prop := ∃ f0 st pe wi de sm an we ro wk sp fr sl mv dp, SeOk S f0 st pe wi de sm an we ro wk sp fr sl mv dp
def SeG (S : List Value) : Prop := SeA S ∧ ∃ n : Nat, (n = 1 ∨ n = 2) ∧ S[0]? = some (.int .i64 (n : Int))
theorem SeOk.setL {S cs : List Value} {f0 st pe wi de sm an we ro wk sp fr sl mv dp : Int} (h : SeOk S f0 st pe wi de sm an we ro wk sp fr sl mv dp) (k : Nat) (hk : 15 ≤ k) (h1 : ∀ v ∈ cs, v.oneCell' = true) : SeOk (setL S k cs) f0 st pe wi de sm an we ro wk sp fr sl mv dp := by
  have g : ∀ i, i < 15 → (Go.Proofs.YtkpgciimhjkajaaGreatDoor.setL S k cs)[i]? = S[i]? := fun i hi => setL_low _ _ _ _ (by omega)
  refine ⟨(setL_length _ _ _).trans h.len, fun v hv => ?_, ?_, ?_, ?_, ?_, ?_, ?_, ?_, ?_, ?_, ?_, ?_, ?_, ?_, ?_, ?_⟩
  · rcases setL_mem _ _ _ _ hv with hv | hv
    · exact h.one v hv
    · exact h1 v hv
  all_goals rw [g _ (by decide)]
  · exact h.c0
  · exact h.c1
  · exact h.c2
  · exact h.c3
  · exact h.c4
  · exact h.c5
  · exact h.c6
  · exact h.c7
  · exact h.c8
  · exact h.c9
  · exact h.c10
  · exact h.c11
  · exact h.c12
  · exact h.c13
  · exact h.c14
theorem SeA.setL {S cs : List Value} (h : SeA S) (k : Nat) (hk : 15 ≤ k) (h1 : ∀ v ∈ cs, v.oneCell' = true) : SeA (setL S k cs) := by
  obtain ⟨f0, st, pe, wi, de, sm, an, we, ro, wk, sp, fr, sl, mv, dp, h⟩ := h
  exact ⟨_, _, _, _, _, _, _, _, _, _, _, _, _, _, _, h.setL k hk h1⟩
theorem SeG.setL {S cs : List Value} (h : SeG S) (k : Nat) (hk : 15 ≤ k) (h1 : ∀ v ∈ cs, v.oneCell' = true) : SeG (setL S k cs) := by
  obtain ⟨h, n, hn, h0⟩ := h
  exact ⟨h.setL k hk h1, n, hn, by rw [setL_low _ _ _ _ (by omega)]; exact h0⟩
theorem SeA.len {S : List Value} (h : SeA S) : S.length = 56 := by obtain ⟨_, _, _, _, _, _, _, _, _, _, _, _, _, _, _, h⟩ := h; exact h.len
theorem SeA.one {S : List Value} (h : SeA S) : ∀ v ∈ S, v.oneCell' = true := by obtain ⟨_, _, _, _, _, _, _, _, _, _, _, _, _, _, _, h⟩ := h; exact h.one
theorem SeA.of {S : List Value} (hl : S.length = 56) (h1 : ∀ v ∈ S, v.oneCell' = true) (h : ∀ i, i < 15 → ∃ x : Int, S[i]? = some (.int .i64 x)) : SeA S := by
  obtain ⟨x0, e0⟩ := h 0 (by omega)
  obtain ⟨x1, e1⟩ := h 1 (by omega)
  obtain ⟨x2, e2⟩ := h 2 (by omega)
  obtain ⟨x3, e3⟩ := h 3 (by omega)
  obtain ⟨x4, e4⟩ := h 4 (by omega)
  obtain ⟨x5, e5⟩ := h 5 (by omega)
  obtain ⟨x6, e6⟩ := h 6 (by omega)
  obtain ⟨x7, e7⟩ := h 7 (by omega)
  obtain ⟨x8, e8⟩ := h 8 (by omega)
  obtain ⟨x9, e9⟩ := h 9 (by omega)
  obtain ⟨x10, e10⟩ := h 10 (by omega)
  obtain ⟨x11, e11⟩ := h 11 (by omega)
  obtain ⟨x12, e12⟩ := h 12 (by omega)
  obtain ⟨x13, e13⟩ := h 13 (by omega)
  obtain ⟨x14, e14⟩ := h 14 (by omega)
  exact ⟨_, _, _, _, _, _, _, _, _, _, _, _, _, _, _, ⟨hl, h1, e0, e1, e2, e3, e4, e5, e6, e7, e8, e9, e10, e11, e12, e13, e14⟩⟩
theorem SeA.int {S : List Value} (h : SeA S) (i : Nat) (hi : i < 15) : ∃ x : Int, S[i]? = some (.int .i64 x) := by
  obtain ⟨_, _, _, _, _, _, _, _, _, _, _, _, _, _, _, h⟩ := h
  have : i = 0 ∨ i = 1 ∨ i = 2 ∨ i = 3 ∨ i = 4 ∨ i = 5 ∨ i = 6 ∨ i = 7 ∨ i = 8 ∨ i = 9 ∨ i = 10 ∨ i = 11 ∨ i = 12 ∨ i = 13 ∨ i = 14 := by omega
  rcases this with rfl | rfl | rfl | rfl | rfl | rfl | rfl | rfl | rfl | rfl | rfl | rfl | rfl | rfl | rfl
  · exact ⟨_, h.c0⟩
  · exact ⟨_, h.c1⟩
  · exact ⟨_, h.c2⟩
  · exact ⟨_, h.c3⟩
  · exact ⟨_, h.c4⟩
  · exact ⟨_, h.c5⟩
  · exact ⟨_, h.c6⟩
  · exact ⟨_, h.c7⟩
  · exact ⟨_, h.c8⟩
  · exact ⟨_, h.c9⟩
  · exact ⟨_, h.c10⟩
  · exact ⟨_, h.c11⟩
  · exact ⟨_, h.c12⟩
  · exact ⟨_, h.c13⟩
  · exact ⟨_, h.c14⟩
theorem SeA.set {S : List Value} (h : SeA S) (k : Nat) (z : Int) : SeA (S.set k (.int .i64 z)) := by
  refine SeA.of (by rw [List.length_set]; exact h.len) (fun v hv => ?_) (fun i hi => ?_)
  · rcases List.mem_or_eq_of_mem_set hv with hv | hv
    · exact h.one v hv
    · rw [hv]; rfl
  · by_cases e : k = i
    · subst e
      exact ⟨z, by rw [List.getElem?_set_self (by rw [h.len]; omega)]⟩
    · rw [List.getElem?_set_ne e]; exact h.int i hi
theorem rowT_sc : RowT 24 3 := ⟨by kernel_rfl, _, Tryz.underlying24, rfl⟩
def SchIs (B b : Nat) (w : World) (e : Ending) (w' : World) : Prop := ∃ p q r : Int, e = .returned (.agg #[.int .i64 p, .int .i64 q, .int .i64 r]) ∧ St w B b w'
set_option maxHeartbeats 4000000 in
theorem scheme_ok (B b : Nat) (w : World) (h : CodesIs w B b) : Calls Tryz.prog 23 #[.pointer (some ⟨b, 0, none⟩)] w (SchIs B b w) := by
  have hbw : Hid (b < w.heap.size) := h.lt
  have HS0 : Hid (St w B b (w.alloc (.cells #[.int .i64 0, .int .i64 0, .int .i64 0] 24))) := (St.start h).alloc _
  have HR0 : Hid (RowAt (w.alloc (.cells #[.int .i64 0, .int .i64 0, .int .i64 0] 24)) w.heap.size [.int .i64 0, .int .i64 0, .int .i64 0]) := RowAt.new w [.int .i64 0, .int .i64 0, .int .i64 0] (by simp) _ rfl
  clear h
  go_enter Tryz.func23, Tryz.ntmps23
  go_wp2_with fail
  refine (next_ok B b 4 _ HS0.out.1 (by omega) (by omega)).mono ?_
  rintro e w1 ⟨x, x0, x1, rfl, hs1⟩
  have HS1 := Lib.hid (HS0.out.then hs1)
  have HR1 := Lib.hid (HR0.out.but hs1.2 (by have := hbw.out; omega))
  clear hs1 HS0 HR0
  go_wp2_with fail
  refine (next_ok B b 4 _ HS1.out.1 (by omega) (by omega)).mono ?_
  rintro e w2 ⟨y, y0, y1, rfl, hs2⟩
  have HS2 := Lib.hid (HS1.out.then hs2)
  have HR2 := Lib.hid (HR1.out.but hs2.2 (by have := hbw.out; omega))
  clear hs2 HS1 HR1
  go_wp2_with fail
  refine (next_ok B b 4 _ HS2.out.1 (by omega) (by omega)).mono ?_
  rintro e w3 ⟨z, z0, z1, rfl, hs3⟩
  have HS3 := Lib.hid (HS2.out.then hs3)
  have HR3 := Lib.hid (HR2.out.but hs3.2 (by have := hbw.out; omega))
  clear hs3 HS2 HR2
  go_wp2_with (refine row_store rfl _ _ rfl _ rfl _ [.int .i64 (1 + x), .int .i64 (1 + y), .int .i64 (1 + z)] rfl HR3.out rfl rowT_sc (by intro v hv; simp at hv; rcases hv with rfl | rfl | rfl <;> rfl) ?_; intro w4 e4 h4)
  exact ret_row rfl _ _ e4 rowT_sc rfl rfl ⟨_, _, _, rfl, HS3.out.grown (h4.below (Nat.le_refl _)) hbw.out (Nat.le_refl _)⟩
end Go.Proofs.YtkpgciimhjkajaaGreatDoor
