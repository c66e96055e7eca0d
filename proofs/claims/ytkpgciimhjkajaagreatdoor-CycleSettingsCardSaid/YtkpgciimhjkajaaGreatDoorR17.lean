/- Part 17 of the proof: laws on memory and what functions of the program return. No conditions but those that each theorem names. -/
import Derived.Test.YtkpgciimhjkajaaGreatDoorR16
import Derived.Test.YtkpgciimhjkajaaGreatDoorRows
import Derived.WalkKit
import Derived.ProofKit
import Derived.OpenShut
import Derived.Deep.DeepHandedRow
import Derived.Lib.LaidTab
import Derived.Lib.SmallJoins
import Derived.Deep.SlicePairs
set_option linter.unusedVariables false
set_option linter.unusedSimpArgs false
/- The law: CycleSettings. -/
namespace Go.Proofs.YtkpgciimhjkajaaGreatDoor
open Go Go.RowKit
theorem Crn.of_block {w w' : World} (h : Crn w) (hb : w'.heap[0]? = w.heap[0]?) (hs : w.heap.size ≤ w'.heap.size) : Crn w' :=
  ⟨Nat.lt_of_lt_of_le h.1 hs, fun f hf j u hj => by rw [World.cell?_of_block (w := w) hb]; exact h.2 f hf j u hj⟩
theorem all4 {P : List Value → Prop} {a b c d : List Value} (h1 : P a) (h2 : P b) (h3 : P c) (h4 : P d) : ∀ S ∈ [a, b, c, d], P S := by
  intro S hS
  simp only [List.mem_cons, List.mem_nil_iff, or_false] at hS
  rcases hS with rfl | rfl | rfl | rfl <;> assumption
theorem SeG.get {S : List Value} (h : SeG S) : ∃ n : Nat, (n = 1 ∨ n = 2) ∧ S[0]? = some (.int .i64 (n : Int)) := h.2
set_option maxRecDepth 100000 in
set_option maxHeartbeats 32000000 in
theorem law_any (v0 : Value) (S0 : List Value) (num cut : Int) (w : World) (hcr : Crn w) (hg : 0 < w.heap.size) (hU : U8At w w.heap.size v0) (hS0 : SeA S0) (hn : -9223372036854775808 ≤ num ∧ num ≤ 9223372036854775807) (hc : -9223372036854775808 ≤ cut ∧ cut ≤ 9223372036854775807) :
    Calls Tryz.prog 3 #[v0, .agg S0.toArray, .int .i64 num, .int .i64 cut] w fun e w' => e = .returned (.bool true) ∧ Below w.heap.size w w' := by
  obtain ⟨w1, hw1⟩ : ∃ u, u = w.alloc (.cells S0.toArray 29) := ⟨_, rfl⟩
  have hb1 : Below w.heap.size w w1 := by rw [hw1]; exact (Below.refl _ _).alloc (Nat.le_refl _) _
  have h51 : RowAt w1 w.heap.size S0 := by rw [hw1]; exact RowAt.new w S0 (by rw [hS0.len]; decide) _ rfl
  obtain ⟨x5, hx5⟩ : ∃ x, x = w.heap.size := ⟨_, rfl⟩
  rw [← hx5] at h51
  have Hx5 := Lib.hid hx5
  have H1 := Lib.hid (And.intro (hcr.below hb1 hg) (And.intro (Nat.lt_of_lt_of_le hg hb1.size) (And.intro (hU.below hb1) (And.intro h51 hb1))))
  have HSe0 := Lib.hid hS0
  have HNum := Lib.hid (And.intro hn hc)
  have Hw1 := Lib.hid hw1
  clear hcr hg hU hS0 hn hc hw1 hb1 h51 hx5
  obtain ⟨va, vn, vc, rfl⟩ : ∃ a m c, v0 = .slice a m c := by obtain ⟨a, n, c, e, _⟩ := H1.out.2.2.1; exact ⟨a, n, c, e⟩
  go_enter Tryz.func3, Tryz.ntmps3
  go_upto_region 1 with fail
  rw [← Hw1.out, ← Hx5.out]
  clear Hw1
  go_wp2_with fail
  refine (awake_any w1).mono ?_
  rintro e w2 ⟨rfl, hb2⟩
  have H2 := Lib.hid (And.intro (H1.out.1.below hb2 H1.out.2.1) (And.intro (Nat.lt_of_lt_of_le H1.out.2.1 hb2.size) (And.intro (H1.out.2.2.1.below hb2) (And.intro (H1.out.2.2.2.1.below hb2) (below_then H1.out.2.2.2.2 hb2)))))
  clear hb2 H1
  go_wp2_with fail
  refine (cnew_ok _ 200 w.heap.size w2 H2.out.2.2.2.2.size (by omega) H2.out.2.2.1).mono ?_
  rintro e w3 ⟨rfl, hcd, hb3, hs3⟩
  obtain ⟨b, hb⟩ : ∃ x, x = w2.heap.size := ⟨_, rfl⟩
  rw [← hb] at hcd ⊢
  obtain ⟨B, hB⟩ : ∃ x, x = w.heap.size := ⟨_, rfl⟩
  rw [← hB] at hcd
  have H3 := Lib.hid (And.intro (H2.out.1.below hb3 H2.out.2.1) (And.intro (Nat.lt_of_lt_of_le H2.out.2.1 hb3.size) (And.intro hcd (And.intro (H2.out.2.2.2.1.below hb3) (below_then H2.out.2.2.2.2 hb3)))))
  have HNe : Hid (x5 ≠ b ∧ w.heap.size ≤ b ∧ 0 ≠ b) := ⟨by have := H2.out.2.2.2.1.lt; omega, by have := H2.out.2.2.2.2.size; omega, by have := H2.out.2.1; omega⟩
  clear hB hb hb3 hs3 hcd H2
  have HC3 := Lib.hid H3.out.2.2.1
  go_wp2_with fail
  refine (settings_a B b w3 HC3.out).mono ?_
  rintro e w4 ⟨S1, rfl, hS1, hs4⟩
  have hbe := HNe.out
  have h4b : But w3.heap.size b w3 w4 := hs4.2
  have H4 := Lib.hid (And.intro (Crn.of_block H3.out.1 (h4b.block _ H3.out.2.1 hbe.2.2) hs4.size) (And.intro (Nat.lt_of_lt_of_le H3.out.2.1 hs4.size) (And.intro (H3.out.2.2.2.1.but h4b hbe.1) (H3.out.2.2.2.2.trans ((h4b.mono H3.out.2.2.2.2.size).below (by omega))))))
  have HC4 := Lib.hid hs4.1
  have HSe := Lib.hid (And.intro HSe0.out hS1)
  clear hbe h4b hs4 hS1 H3 HC3 HSe0
  go_upto_region 5 with ((first | with_reducible refine gate_st ?_ | with_reducible refine gate_stw ?_); refine row_store rfl _ _ rfl _ rfl [.int .i64 0, .int .i64 0, .int .i64 0, .int .i64 0, .int .i64 0, .int .i64 0, .int .i64 0, .int .i64 0, .int .i64 0, .int .i64 0, .int .i64 0, .int .i64 0, .int .i64 0, .int .i64 0, .int .i64 0, .int .i64 0, .int .i64 0, .int .i64 0, .int .i64 0, .int .i64 0, .int .i64 0, .int .i64 0, .int .i64 0, .int .i64 0, .int .i64 0, .int .i64 0, .int .i64 0, .int .i64 0, .int .i64 0, .int .i64 0, .int .i64 0, .int .i64 0, .int .i64 0, .int .i64 0, .int .i64 0, .int .i64 0, .int .i64 0, .int .i64 0, .int .i64 0, .int .i64 0, .int .i64 0, .int .i64 0, .int .i64 0, .int .i64 0, .int .i64 0, .int .i64 0, .int .i64 0, .int .i64 0, .int .i64 0, .int .i64 0, .int .i64 0, .int .i64 0, .int .i64 0, .int .i64 0, .int .i64 0, .int .i64 0] S1 rfl (RowAt.new w4 [.int .i64 0, .int .i64 0, .int .i64 0, .int .i64 0, .int .i64 0, .int .i64 0, .int .i64 0, .int .i64 0, .int .i64 0, .int .i64 0, .int .i64 0, .int .i64 0, .int .i64 0, .int .i64 0, .int .i64 0, .int .i64 0, .int .i64 0, .int .i64 0, .int .i64 0, .int .i64 0, .int .i64 0, .int .i64 0, .int .i64 0, .int .i64 0, .int .i64 0, .int .i64 0, .int .i64 0, .int .i64 0, .int .i64 0, .int .i64 0, .int .i64 0, .int .i64 0, .int .i64 0, .int .i64 0, .int .i64 0, .int .i64 0, .int .i64 0, .int .i64 0, .int .i64 0, .int .i64 0, .int .i64 0, .int .i64 0, .int .i64 0, .int .i64 0, .int .i64 0, .int .i64 0, .int .i64 0, .int .i64 0, .int .i64 0, .int .i64 0, .int .i64 0, .int .i64 0, .int .i64 0, .int .i64 0, .int .i64 0, .int .i64 0] (by decide) 29 rfl) (by rw [HSe.out.2.1.len]; rfl) rowT_se HSe.out.2.1.one ?_; intro w5 e5 h5)
  obtain ⟨x10, hx10⟩ : ∃ x, x = w4.heap.size := ⟨_, rfl⟩
  rw [← hx10] at e5 h5 ⊢
  have hb5 : Below w4.heap.size w4 w5 := ((Below.refl _ w4).alloc (Nat.le_refl _) _).trans (h5.below (Nat.le_of_eq hx10.symm))
  obtain ⟨n, hn12, hn0⟩ := HSe.out.2.2
  have hfq : Fq n := by unfold Fq; omega
  have hn2 : n ≤ 2 := by omega
  have HN := Lib.hid (And.intro hfq hn2)
  have hC5 : CodesIs w5 B b := HC4.out.below hb5 HC4.out.lt
  have H5 := Lib.hid (And.intro (H4.out.1.below hb5 H4.out.2.1) (And.intro (Nat.lt_of_lt_of_le H4.out.2.1 hb5.size) (And.intro (H4.out.2.2.1.below hb5) (And.intro e5 (below_then H4.out.2.2.2 hb5)))))
  have HSt := Lib.hid (state_n n hfq hn2 B b w5 hC5)
  have HNe2 : Hid (x5 ≠ b ∧ x10 ≠ b ∧ x5 < w5.heap.size ∧ x10 < w5.heap.size ∧ w.heap.size ≤ b ∧ 0 ≠ b ∧ b < w5.heap.size) := ⟨HNe.out.1, by have := HC4.out.lt; omega, H5.out.2.2.1.lt, e5.lt, HNe.out.2.1, HNe.out.2.2, hC5.lt⟩
  have c0 := e5.at 0 hn0
  clear hb5 e5 h5 hx10 hn12 hn0 hfq hn2 hC5 H4 HC4 HNe
  go_wp2_with fail
  refine HSt.out.mono ?_
  rintro e w6 ⟨dv, fv, D, F, rfl, hok, hdv, hfv, hs6⟩
  obtain ⟨da, dn, dc, rfl⟩ : ∃ a m c, dv = .slice a m c := by obtain ⟨a, c, h⟩ := hdv.slice; exact ⟨a, _, c, h⟩
  obtain ⟨fa, fn, fc, rfl⟩ : ∃ a m c, fv = .slice a m c := by obtain ⟨a, c, h⟩ := hfv.slice; exact ⟨a, _, c, h⟩
  have h6b : But w5.heap.size b w5 w6 := hs6.2
  have hne := HNe2.out
  have H6 := Lib.hid (And.intro (Crn.of_block H5.out.1 (h6b.block _ H5.out.2.1 hne.2.2.2.2.2.1) hs6.size) (And.intro (Nat.lt_of_lt_of_le H5.out.2.1 hs6.size) (And.intro (H5.out.2.2.1.but h6b hne.1) (And.intro (H5.out.2.2.2.1.but h6b hne.2.1) (H5.out.2.2.2.2.trans ((h6b.mono H5.out.2.2.2.2.size).below hne.2.2.2.2.1))))))
  have HO6 := Lib.hid (And.intro hok (And.intro hdv hfv))
  have HC6 := Lib.hid hs6.1
  have HDb : Hid ((∀ g, (Value.slice da dn dc).ownBlock = some g → g ≠ b ∧ g < w6.heap.size) ∧ (∀ g, (Value.slice fa fn fc).ownBlock = some g → g ≠ b ∧ g < w6.heap.size)) := by
    have hbl := hne.2.2.2.2.2.2
    exact ⟨fun g hg => ⟨by have := hdv.lt g hg; omega, (hdv.lt g hg).2⟩, fun g hg => ⟨by have := hfv.lt g hg; omega, (hfv.lt g hg).2⟩⟩
  clear h6b hne hs6 hok hdv hfv H5 HSt
  unfold stv
  go_upto_region 6 with fail
  obtain ⟨w7, hw7⟩ : ∃ u, u = w6.alloc (.cells #[.int .i64 0, .int .i64 0, .int .i64 0, .slice none 0 0, .slice none 0 0, .slice none 0 0, .slice none 0 0, .int .i64 0, .int .u64 0, .int .i64 0, .int .i64 0, .int .i64 0, .int .i64 (n : Int), .slice da dn dc, .slice fa fn fc, .slice none 0 0, .slice none 0 0] 51) := ⟨_, rfl⟩
  rw [← hw7]
  have h11 : RowAt w7 w6.heap.size (cycV (n : Int) (.slice da dn dc) (.slice fa fn fc)) := by rw [hw7]; exact RowAt.new w6 (cycV (n : Int) (.slice da dn dc) (.slice fa fn fc)) (by simp [cycV]) _ rfl
  have hb7 : Below w6.heap.size w6 w7 := by rw [hw7]; exact (Below.refl _ _).alloc (Nat.le_refl _) _
  obtain ⟨x11, hx11⟩ : ∃ x, x = w6.heap.size := ⟨_, rfl⟩
  rw [← hx11] at h11 ⊢
  have HR := Lib.hid (And.intro (H6.out.2.2.1.below hb7) (And.intro (H6.out.2.2.2.1.below hb7) (And.intro h11 (And.intro (H6.out.1.below hb7 H6.out.2.1) (And.intro (Nat.lt_of_lt_of_le H6.out.2.1 hb7.size) (below_then H6.out.2.2.2.2 hb7))))))
  have hc7 : CodesIs w7 B b := HC6.out.below hb7 HC6.out.lt
  have HU0 : Hid (St w7 B b w7.drew) := (St.start hc7).drew
  have HR0 : Hid (RowAt w7.drew x5 S0 ∧ RowAt w7.drew x10 S1) := ⟨HR.out.1.drew, HR.out.2.1.drew⟩
  have HO7 := Lib.hid (And.intro HO6.out.1 (And.intro (HO6.out.2.1.below hb7) (HO6.out.2.2.below hb7)))
  have HNe : Hid (x5 ≠ b ∧ x10 ≠ b ∧ x11 ≠ b ∧ w.heap.size ≤ b ∧ 0 ≠ b) := ⟨HNe2.out.1, HNe2.out.2.1, by have := HC6.out.lt; omega, HNe2.out.2.2.2.2.1, HNe2.out.2.2.2.2.2.1⟩
  clear hw7 h11 hb7 hx11 hc7 H6 HC6 HO6 HNe2
  refine wp_region_seqL (by kernel_rfl) (fun w' => RowAt w' x5 S0 ∧ RowAt w' x10 S1) 10 [(0, 1), (1, 1), (2, 0), (3, 1), (5, 0), (6, 0), (7, 1), (12, 0), (4, 2), (8, 2), (9, 2), (10, 2), (11, 0)] (by kernel_rfl) (⟨HR.out.1.drew, HR.out.2.1.drew⟩) ?_
  refine sl_load (d := some 43) rfl rfl rfl _ _ rfl ⟨x5, 0, none⟩ rfl (.agg S0.toArray) (fun w hw => (hw.1).loadVar (by rw [HSe.out.1.len]; exact rowT_se)) ?_
  simp only [ap_s, ap_n, ls_z, ls_s]
  refine sl_load (d := some 44) rfl rfl rfl _ _ rfl ⟨x10, 0, none⟩ rfl (.agg S1.toArray) (fun w hw => (hw.2).loadVar (by rw [HSe.out.2.1.len]; exact rowT_se)) ?_
  simp only [ap_s, ap_n, ls_z, ls_s]
  refine sl_q (d := some 45) rfl rfl rfl (.pointer (some ⟨b, 0, none⟩)) (fun w => rfl) ?_
  simp only [ap_s, ap_n, ls_z, ls_s]
  refine sl_load (d := some 46) rfl rfl rfl _ _ rfl ⟨x10, 0, none⟩ rfl (.agg S1.toArray) (fun w hw => (hw.2).loadVar (by rw [HSe.out.2.1.len]; exact rowT_se)) ?_
  simp only [ap_s, ap_n, ls_z, ls_s]
  refine sl_q (d := some 48) rfl rfl rfl (.pointer (some ⟨b, 0, none⟩)) (fun w => rfl) ?_
  simp only [ap_s, ap_n, ls_z, ls_s]
  refine sl_q (d := some 49) rfl rfl rfl (.pointer (some ⟨b, 0, none⟩)) (fun w => rfl) ?_
  simp only [ap_s, ap_n, ls_z, ls_s]
  refine sl_load (d := some 50) rfl rfl rfl _ _ rfl ⟨x10, 0, none⟩ rfl (.agg S1.toArray) (fun w hw => (hw.2).loadVar (by rw [HSe.out.2.1.len]; exact rowT_se)) ?_
  simp only [ap_s, ap_n, ls_z, ls_s]
  refine sl_q (d := some 55) rfl rfl rfl (.int .i64 0) (fun w => rfl) ?_
  simp only [ap_s, ap_n, ls_z, ls_s]
  refine sl_call (d := some 47) rfl rfl rfl ⟨_, Tryz.func8, by kernel_rfl, by kernel_rfl⟩ _ _ _ rfl rfl [.pointer (some ⟨b, 0, none⟩), .agg S1.toArray] rfl (spoil_ok B b S1 HSe.out.2.1 _ HU0.out.1) ?_
  rintro e u1 ⟨S2, rfl, hS2, hs1⟩
  have HS2 := Lib.hid hS2
  have HU1 := Lib.hid (HU0.out.then hs1)
  have HR1 := Lib.hid (And.intro (HR0.out.1.but hs1.2 HNe.out.1) (HR0.out.2.but hs1.2 HNe.out.2.1))
  clear hs1 hS2
  refine ⟨_, rfl, fun _ => HR1.out, ?_⟩
  simp only [ap_s, ap_n, ls_z, ls_s]
  refine sl_call (d := some 51) rfl rfl rfl ⟨_, Tryz.func8, by kernel_rfl, by kernel_rfl⟩ _ _ _ rfl rfl [.pointer (some ⟨b, 0, none⟩), .agg S1.toArray] rfl (spoil_ok B b S1 HSe.out.2.1 _ HU1.out.1) ?_
  rintro e u2 ⟨S4, rfl, hS4, hs2⟩
  have HS4 := Lib.hid hS4
  have HU2 := Lib.hid (HU1.out.then hs2)
  have HR2 := Lib.hid (And.intro (HR1.out.1.but hs2.2 HNe.out.1) (HR1.out.2.but hs2.2 HNe.out.2.1))
  clear hs2 hS4
  refine ⟨_, rfl, fun _ => HR2.out, ?_⟩
  simp only [ap_s, ap_n, ls_z, ls_s]
  refine sl_call (d := some 52) rfl rfl rfl ⟨_, Tryz.func8, by kernel_rfl, by kernel_rfl⟩ _ _ _ rfl rfl [.pointer (some ⟨b, 0, none⟩), .agg S4.toArray] rfl (spoil_ok B b S4 HS4.out _ HU2.out.1) ?_
  rintro e u3 ⟨S3, rfl, hS3, hs3⟩
  have HS3 := Lib.hid hS3
  have HU3 := Lib.hid (HU2.out.then hs3)
  have HR3 := Lib.hid (And.intro (HR2.out.1.but hs3.2 HNe.out.1) (HR2.out.2.but hs3.2 HNe.out.2.1))
  clear hs3 hS3
  refine ⟨_, rfl, fun _ => HR3.out, ?_⟩
  simp only [ap_s, ap_n, ls_z, ls_s]
  have HLs : Hid (∀ S ∈ [S0, S1, S2, S3], S.length = 56) := all4 HSe.out.1.len HSe.out.2.1.len HS2.out.len HS3.out.len
  obtain ⟨LB, hLB⟩ : ∃ x, x = u3.heap.size := ⟨_, rfl⟩
  obtain ⟨wB, hwB⟩ : ∃ u, u = u3.alloc (.cells [S0, S1, S2, S3].flatten.toArray 29) := ⟨_, rfl⟩
  have hbB : Below u3.heap.size u3 wB := by rw [hwB]; exact (Below.refl _ _).alloc (Nat.le_refl _) _
  refine sl_run (d := some 53) rfl rfl rfl (.slice (some ⟨LB, 0, none⟩) 4 4) wB (by
    have hr := run_build_rows (P := Tryz.prog) u3 53 29 56 [S0, S1, S2, S3] Tryz.underlying53 (by kernel_rfl) (by kernel_rfl) (by decide) HLs.out (show 0 < 4 by decide) (show 4 * 56 ≤ 2 ^ 24 by decide) #[(0, .agg S0.toArray), (1, .agg S1.toArray), (2, .agg S2.toArray), (3, .agg S3.toArray)] rfl
    rw [← hwB, ← hLB, show [S0, S1, S2, S3].length = 4 from rfl] at hr
    simp [execOp, Act.eval]
    rw [hr]
    rfl) (fun h => by cases h) ?_
  simp only [ap_s, ap_n, ls_z, ls_s]
  refine sl_q (d := some 54) rfl rfl rfl (.int .i64 4) (fun w => by simp [execOp, Act.eval, go_sem]) ?_
  simp only [ap_s, ap_n, ls_z, ls_s]
  refine sl_end ?_
  have hu3 : St w7 B b u3 := HU3.out
  have hk3 : KeptBut b w7 u3 := KeptBut.st hu3
  have hLr : RowAt wB LB [S0, S1, S2, S3].flatten := by rw [hwB, hLB]; exact RowAt.new u3 _ (by simp [HSe.out.1.len]; omega) _ rfl
  have hne := HNe.out
  have HL := Lib.hid (And.intro ((Crn.of_block HR.out.2.2.2.1 (hu3.2.block _ HR.out.2.2.2.2.1 hne.2.2.2.2) hu3.size).below hbB (Nat.lt_of_lt_of_le HR.out.2.2.2.2.1 hu3.size)) (And.intro (Nat.lt_of_lt_of_le (Nat.lt_of_lt_of_le HR.out.2.2.2.2.1 hu3.size) hbB.size) (And.intro ((HR.out.2.2.1.but hu3.2 hne.2.2.1).below hbB) (And.intro hLr (below_then (HR.out.2.2.2.2.2.trans ((hu3.2.mono HR.out.2.2.2.2.2.size).below hne.2.2.2.1)) hbB)))))
  have HOB := Lib.hid (And.intro HO7.out.1 (And.intro ((HO7.out.2.1.keptNe hk3 (fun g hg => (HDb.out.1 g hg).1)).below hbB) ((HO7.out.2.2.keptNe hk3 (fun g hg => (HDb.out.2 g hg).1)).below hbB)))
  have HVs : Hid (∀ S ∈ [S0, S1, S2, S3], SeA S) := all4 HSe.out.1 HSe.out.2.1 HS2.out HS3.out
  obtain ⟨vs, hvs⟩ : ∃ x, x = [S0, S1, S2, S3] := ⟨_, rfl⟩
  have hvl : vs.length = 4 := by rw [hvs]; rfl
  rw [← hvs] at HL HVs
  have HVl := Lib.hid hvl
  clear hu3 hk3 hLr hne hwB hLB hbB hvs hvl HR HR0 HR1 HR2 HR3 HU0 HU1 HU2 HU3 HS2 HS3 HS4 HO7 HDb HNe HSe HLs
  obtain ⟨hse0, dse, hse1, hse2⟩ := rowT_se
  have HSeT := Lib.hid (And.intro hse0 (And.intro hse1 hse2))
  clear hse0 hse1 hse2
  go_wp2_with fail
  go_loopw [55] (fun kv wr => ∃ i : Nat, i ≤ 4 ∧ kv = .int .i64 i ∧ Hid (Below wB.heap.size wB wr)) (fun kv _ => (4 - intOf kv).toNat)
  case atStart => exact ⟨0, by omega, rfl, Below.refl _ _⟩
  case round =>
    obtain ⟨i, hi, rfl, hs⟩ := hrel
    by_cases hlt : i < 4
    · have i0 : (i : Int) < 4 := by omega
      obtain ⟨S, hSv⟩ : ∃ S, S = vs[i]'(by rw [HVl.out]; exact hlt) := ⟨_, rfl⟩
      have HSA : Hid (SeA S) := by rw [hSv]; exact HVs.out _ (List.getElem_mem _)
      have HRg : Hid (wr.rangeAt LB (i * 56) S) := by
        have h := RowAt.flat (HL.out.2.2.2.1.below hs.out) (n := 56) (fun S hS => (HVs.out S hS).len) i (by rw [HVl.out]; exact hlt)
        rw [hSv]; exact h
      clear hSv
      go_upto_region 9 with (first
        | ((first | with_reducible refine gate_ld ?_ | with_reducible refine gate_ldw ?_); refine wpList_load_mid rfl _ _ rfl LB (i * 56) rfl S dse HRg.out HSeT.out.2.1 HSeT.out.2.2 (by rw [HSA.out.len]; exact HSeT.out.1) ?_)
        | ((first | with_reducible refine gate_st ?_ | with_reducible refine gate_stw ?_); refine row_store rfl _ _ rfl _ rfl [.int .i64 0, .int .i64 0, .int .i64 0, .int .i64 0, .int .i64 0, .int .i64 0, .int .i64 0, .int .i64 0, .int .i64 0, .int .i64 0, .int .i64 0, .int .i64 0, .int .i64 0, .int .i64 0, .int .i64 0, .int .i64 0, .int .i64 0, .int .i64 0, .int .i64 0, .int .i64 0, .int .i64 0, .int .i64 0, .int .i64 0, .int .i64 0, .int .i64 0, .int .i64 0, .int .i64 0, .int .i64 0, .int .i64 0, .int .i64 0, .int .i64 0, .int .i64 0, .int .i64 0, .int .i64 0, .int .i64 0, .int .i64 0, .int .i64 0, .int .i64 0, .int .i64 0, .int .i64 0, .int .i64 0, .int .i64 0, .int .i64 0, .int .i64 0, .int .i64 0, .int .i64 0, .int .i64 0, .int .i64 0, .int .i64 0, .int .i64 0, .int .i64 0, .int .i64 0, .int .i64 0, .int .i64 0, .int .i64 0, .int .i64 0] S rfl (RowAt.new wr [.int .i64 0, .int .i64 0, .int .i64 0, .int .i64 0, .int .i64 0, .int .i64 0, .int .i64 0, .int .i64 0, .int .i64 0, .int .i64 0, .int .i64 0, .int .i64 0, .int .i64 0, .int .i64 0, .int .i64 0, .int .i64 0, .int .i64 0, .int .i64 0, .int .i64 0, .int .i64 0, .int .i64 0, .int .i64 0, .int .i64 0, .int .i64 0, .int .i64 0, .int .i64 0, .int .i64 0, .int .i64 0, .int .i64 0, .int .i64 0, .int .i64 0, .int .i64 0, .int .i64 0, .int .i64 0, .int .i64 0, .int .i64 0, .int .i64 0, .int .i64 0, .int .i64 0, .int .i64 0, .int .i64 0, .int .i64 0, .int .i64 0, .int .i64 0, .int .i64 0, .int .i64 0, .int .i64 0, .int .i64 0, .int .i64 0, .int .i64 0, .int .i64 0, .int .i64 0, .int .i64 0, .int .i64 0, .int .i64 0, .int .i64 0] (by decide) 29 rfl) (by rw [HSA.out.len]; rfl) rowT_se HSA.out.one ?_; intro wp e1 h1))
      obtain ⟨x13, hx13⟩ : ∃ x, x = wr.heap.size := ⟨_, rfl⟩
      rw [← hx13] at e1 h1 ⊢
      have hbp : Below wr.heap.size wr wp := ((Below.refl _ wr).alloc (Nat.le_refl _) _).trans (h1.below (Nat.le_of_eq hx13.symm))
      have HW1 : Hid (Below wB.heap.size wB wp ∧ RowAt wp x13 S) := ⟨below_then hs.out hbp, e1⟩
      obtain ⟨f0, st, pe, wi, de, sm, an, we, ro, wk, sp, fr, sl, mv, dp, hso⟩ := HSA.out
      have HSO := Lib.hid hso
      obtain ⟨ok, hok⟩ : ∃ x, x = okS f0 st pe wi de sm an we ro wk sp fr sl mv dp := ⟨_, rfl⟩
      have HOk : Hid (okS f0 st pe wi de sm an we ro wk sp fr sl mv dp = ok) := hok.symm
      obtain ⟨ec, hec⟩ : ∃ x : Int, x = eQ ok := ⟨_, rfl⟩
      have HEc : Hid (errN ok = .int .i64 ec) := by rw [hec]; cases ok <;> rfl
      clear hs HRg hbp e1 h1 hso hok hec hx13
      refine wp_region_seqL (by kernel_rfl) (fun w' => RowAt w' x13 S) 3 [(0, 1), (2, 1), (1, 2), (3, 2), (4, 0)] (by kernel_rfl) (HW1.out.2.drew) ?_
      refine sl_load (d := some 59) rfl rfl rfl _ _ rfl ⟨x13, 0, none⟩ rfl (.agg S.toArray) (fun w hw => hw.loadVar (by rw [HSA.out.len]; exact rowT_se)) ?_
      simp only [ap_s, ap_n, ls_z, ls_s]
      refine sl_load (d := some 61) rfl rfl rfl _ _ rfl ⟨x13, 0, none⟩ rfl (.agg S.toArray) (fun w hw => hw.loadVar (by rw [HSA.out.len]; exact rowT_se)) ?_
      simp only [ap_s, ap_n, ls_z, ls_s]
      refine sl_call (d := some 60) rfl rfl rfl ⟨_, Tryz.func9, by kernel_rfl, by kernel_rfl⟩ _ _ _ rfl rfl [.agg S.toArray] rfl (pcycheck_any _ _ _ _ _ _ _ _ _ _ _ _ _ _ _ _ HSO.out _) ?_
      rintro e u1 ⟨he, hb⟩
      rw [HOk.out] at he
      subst he
      have HW2 := Lib.hid (And.intro (below_then HW1.out.1.drew hb) (HW1.out.2.drew.below hb))
      clear hb
      refine ⟨.int .i64 ec, by rw [HEc.out], fun _ => HW2.out.2, ?_⟩
      simp only [ap_s, ap_n, ls_z, ls_s]
      refine sl_call (d := some 62) rfl rfl rfl ⟨_, Tryz.func10, by kernel_rfl, by kernel_rfl⟩ _ _ _ rfl rfl [.agg S.toArray] rfl (rcycheck_any _ _ _ _ _ _ _ _ _ _ _ _ _ _ _ _ HSO.out _) ?_
      rintro e u2 ⟨he, hb⟩
      rw [HOk.out] at he
      subst he
      have HW3 := Lib.hid (And.intro (below_then HW2.out.1 hb) (HW2.out.2.below hb))
      clear hb
      refine ⟨.int .i64 ec, by rw [HEc.out], fun _ => HW3.out.2, ?_⟩
      simp only [ap_s, ap_n, ls_z, ls_s]
      refine sl_q (d := some 63) rfl rfl rfl (.bool false) (fun w => by simp [execOp, Act.eval, go_sem]) ?_
      simp only [ap_s, ap_n, ls_z, ls_s]
      refine sl_end ?_
      obtain ⟨v3, hv3⟩ : ∃ x, x = u2 := ⟨_, rfl⟩
      have HW4 : Hid (Below wB.heap.size wB v3 ∧ RowAt v3 x13 S) := by rw [hv3]; exact HW3.out
      rw [← hv3]
      clear HW1 HW2 HW3 hv3
      go_wp2_with (first
          | ((first | with_reducible refine gate_ld ?_ | with_reducible refine gate_ldw ?_); refine row_load rfl _ rfl _ rfl _ HW4.out.2 (by rw [HSA.out.len]; exact rowT_se) ?_))
      refine (pfirst_any _ _ _ _ _ _ _ _ _ _ _ _ _ _ _ _ HSO.out v3 (HL.out.1.below HW4.out.1 HL.out.2.1) (Nat.lt_of_lt_of_le HL.out.2.1 HW4.out.1.size)).mono ?_
      rintro e v4 ⟨hf, hb⟩
      rw [HOk.out] at hf
      obtain ⟨dvA, fvA, rfl, hdA, hfA⟩ := fst_out hf
      have HFA := Lib.hid (And.intro hdA hfA)
      have HW5 := Lib.hid (And.intro (below_then HW4.out.1 hb) (HW4.out.2.below hb))
      clear hf hb hdA hfA HW4
      go_upto_region 12 with (first
          | ((first | with_reducible refine gate_ld ?_ | with_reducible refine gate_ldw ?_); refine row_load rfl _ rfl _ rfl _ HW4.out.2 (by rw [HSA.out.len]; exact rowT_se) ?_)
          | ((first | with_reducible refine gate_st ?_ | with_reducible refine gate_stw ?_); refine row_store rfl _ _ rfl _ rfl [.int .i64 0, .int .i64 0, .int .i64 0, .slice none 0 0, .slice none 0 0, .slice none 0 0, .slice none 0 0, .int .i64 0, .int .u64 0, .int .i64 0, .int .i64 0, .int .i64 0, .int .i64 0, .slice none 0 0, .slice none 0 0, .slice none 0 0, .slice none 0 0] (cycV (fN ok f0 : Nat) dvA fvA) rfl (RowAt.new v4 [.int .i64 0, .int .i64 0, .int .i64 0, .slice none 0 0, .slice none 0 0, .slice none 0 0, .slice none 0 0, .int .i64 0, .int .u64 0, .int .i64 0, .int .i64 0, .int .i64 0, .int .i64 0, .slice none 0 0, .slice none 0 0, .slice none 0 0, .slice none 0 0] (by decide) 51 rfl) rfl rowT_cy (cycV_one HFA.out.1 HFA.out.2) ?_; intro wpA eA hA))
      obtain ⟨x14, hx14⟩ : ∃ x, x = v4.heap.size := ⟨_, rfl⟩
      rw [← hx14] at eA hA ⊢
      have hbp : Below v4.heap.size v4 wpA := ((Below.refl _ v4).alloc (Nat.le_refl _) _).trans (hA.below (Nat.le_of_eq hx14.symm))
      have HW6 := Lib.hid (And.intro (below_then HW5.out.1 hbp) (And.intro (HW5.out.2.below hbp) eA))
      have HFA6 := Lib.hid (And.intro (HFA.out.1.below hbp) (HFA.out.2.below hbp))
      clear hbp eA hA hx14 HW5 HFA
      go_wp2_with (first
          | ((first | with_reducible refine gate_ld ?_ | with_reducible refine gate_ldw ?_); refine row_load rfl _ rfl _ rfl _ HW6.out.2.1 (by rw [HSA.out.len]; exact rowT_se) ?_))
      refine (rfirst_any _ _ _ _ _ _ _ _ _ _ _ _ _ _ _ _ HSO.out wpA).mono ?_
      rintro e v5 ⟨hf, hb⟩
      rw [HOk.out] at hf
      obtain ⟨dvB, fvB, rfl, hdB, hfB⟩ := fst_out hf
      have HFB := Lib.hid (And.intro hdB hfB)
      have HW7 := Lib.hid (And.intro (below_then HW6.out.1 hb) (And.intro (HW6.out.2.1.below hb) (HW6.out.2.2.below hb)))
      have HFA7 := Lib.hid (And.intro (HFA6.out.1.below hb) (HFA6.out.2.below hb))
      clear hf hb hdB hfB HW6 HFA6
      go_upto_region 13 with (first
          | ((first | with_reducible refine gate_ld ?_ | with_reducible refine gate_ldw ?_); refine row_load rfl _ rfl _ rfl _ HW6.out.2.1 (by rw [HSA.out.len]; exact rowT_se) ?_)
          | ((first | with_reducible refine gate_st ?_ | with_reducible refine gate_stw ?_); refine row_store rfl _ _ rfl _ rfl [.int .i64 0, .int .i64 0, .int .i64 0, .slice none 0 0, .slice none 0 0, .slice none 0 0, .slice none 0 0, .int .i64 0, .int .u64 0, .int .i64 0, .int .i64 0, .int .i64 0, .int .i64 0, .slice none 0 0, .slice none 0 0, .slice none 0 0, .slice none 0 0] (cycV (fN ok f0 : Nat) dvB fvB) rfl (RowAt.new v5 [.int .i64 0, .int .i64 0, .int .i64 0, .slice none 0 0, .slice none 0 0, .slice none 0 0, .slice none 0 0, .int .i64 0, .int .u64 0, .int .i64 0, .int .i64 0, .int .i64 0, .int .i64 0, .slice none 0 0, .slice none 0 0, .slice none 0 0, .slice none 0 0] (by decide) 51 rfl) rfl rowT_cy (cycV_one HFB.out.1 HFB.out.2) ?_; intro wpB eB hB))
      obtain ⟨x16, hx16⟩ : ∃ x, x = v5.heap.size := ⟨_, rfl⟩
      rw [← hx16] at eB hB ⊢
      have hbp : Below v5.heap.size v5 wpB := ((Below.refl _ v5).alloc (Nat.le_refl _) _).trans (hB.below (Nat.le_of_eq hx16.symm))
      have HW8 := Lib.hid (And.intro (below_then HW7.out.1 hbp) (And.intro (HW7.out.2.1.below hbp) (And.intro (HW7.out.2.2.below hbp) eB)))
      have HSm := Lib.hid (rsame34_0 (fN ok f0) dvA fvA dvB fvB (fD ok f0 dp) (fF ok f0) wpB (HFA7.out.1.below hbp) (HFA7.out.2.below hbp) (HFB.out.1.below hbp) (HFB.out.2.below hbp))
      clear hbp eB hB hx16 HW7 HFA7 HFB
      go_wp2_with (first
          | (refine row_load_w rfl _ rfl _ rfl _ HW8.out.2.2.1 rowT_cy ?_)
          | (refine row_load_w rfl _ rfl _ rfl _ HW8.out.2.2.2 rowT_cy ?_))
      refine HSm.out.mono ?_
      rintro e v6 ⟨rfl, hb⟩
      have HW9 := Lib.hid (And.intro (below_then HW8.out.1 hb) (HW8.out.2.1.below hb))
      have c10 := HW9.out.2.at 10 HSO.out.c10
      clear hb HSm HW8
      have h3 : sp < 40 ∨ (¬ sp < 40 ∧ sp > 400) ∨ (¬ sp < 40 ∧ ¬ sp > 400) := by omega
      rcases h3 with p1 | ⟨p1, p2⟩ | ⟨p1, p2⟩
      case inr.inr =>
        go_upto_region 20 with fail
        obtain ⟨vC, hvC⟩ : ∃ x, x = v6 := ⟨_, rfl⟩
        have HC0 : Hid (Below wB.heap.size wB vC ∧ RowAt vC x13 S) := by rw [hvC]; exact HW9.out
        rw [← hvC]
        clear hvC HW9 c10
        go_wp2_with fail
        refine (mod_any num 12 (by omega) (by omega) HNum.out.1 vC).mono ?_
        rintro e q1 ⟨m1, rfl, hq1⟩
        obtain rfl := hq1.symm
        clear hq1
        go_wp2_with fail
        refine (mod_any cut 5000 (by omega) (by omega) HNum.out.2 vC).mono ?_
        rintro e q1 ⟨m2, rfl, hq1⟩
        obtain rfl := hq1.symm
        clear hq1
        go_upto_region 21 with fail
        obtain ⟨vD, hvD⟩ : ∃ u, u = vC.alloc (.cells #[.int .i64 num, .int .i64 cut, .int .i64 m1, .int .i64 m2] 62) := ⟨_, rfl⟩
        rw [← hvD]
        have hbD : Below vC.heap.size vC vD := by rw [hvD]; exact (Below.refl _ _).alloc (Nat.le_refl _) _
        have hRD : RowAt vD vC.heap.size [.int .i64 num, .int .i64 cut, .int .i64 m1, .int .i64 m2] := by rw [hvD]; exact RowAt.new vC [.int .i64 num, .int .i64 cut, .int .i64 m1, .int .i64 m2] (by simp) _ rfl
        obtain ⟨LC, hLC⟩ : ∃ x, x = vC.heap.size := ⟨_, rfl⟩
        rw [← hLC] at hRD ⊢
        have HD0 := Lib.hid (And.intro (below_then HC0.out.1 hbD) (And.intro (HC0.out.2.below hbD) hRD))
        clear hvD hbD hRD hLC HC0
        go_wp2_with fail
        obtain ⟨wout, rfl⟩ : ∃ wout : World, wout = wr := ⟨_, rfl⟩
        go_loopw [122] (fun kv wr => ∃ j : Nat, j ≤ 2 ∧ kv = .int .i64 j ∧ Hid (Below vD.heap.size vD wr)) (fun kv _ => (2 - intOf kv).toNat)
        case atStart => exact ⟨0, by omega, rfl, Below.refl _ _⟩
        case round =>
          obtain ⟨j, hj, rfl, hs⟩ := hrel
          by_cases hjl : j < 2
          · have j0 : (j : Int) < 2 := by omega
            obtain ⟨x, y, hx, hy⟩ : ∃ x y : Int, wr.cell? ⟨LC, j * 2, none⟩ = some (.int .i64 x) ∧ wr.cell? ⟨LC, j * 2 + 1, none⟩ = some (.int .i64 y) := by
              have hr := HD0.out.2.2.below hs.out
              have : j = 0 ∨ j = 1 := by omega
              rcases this with rfl | rfl
              · exact ⟨num, cut, hr.at 0 rfl, hr.at 1 rfl⟩
              · exact ⟨m1, m2, hr.at 2 rfl, hr.at 3 rfl⟩
            go_upto_region 23 with fail
            obtain ⟨wE, hwE⟩ : ∃ u, u = wr.alloc (.cells #[.int .i64 x, .int .i64 y] 62) := ⟨_, rfl⟩
            rw [← hwE]
            have hbE : Below wr.heap.size wr wE := by rw [hwE]; exact (Below.refl _ _).alloc (Nat.le_refl _) _
            have hRE : RowAt wE wr.heap.size [.int .i64 x, .int .i64 y] := by rw [hwE]; exact RowAt.new wr [.int .i64 x, .int .i64 y] (by simp) _ rfl
            obtain ⟨x23, hx23⟩ : ∃ z, z = wr.heap.size := ⟨_, rfl⟩
            rw [← hx23] at hRE ⊢
            have HE1 := Lib.hid (And.intro (below_then hs.out hbE) (And.intro (HD0.out.2.1.below (below_then hs.out hbE)) hRE))
            have c0 := hRE.at 0 rfl
            clear hwE hbE hRE hx hy hx23 hs
            go_wp2_with ((first | with_reducible refine gate_ld ?_ | with_reducible refine gate_ldw ?_); refine row_load rfl _ rfl _ rfl _ HE1.out.2.1 (by rw [HSA.out.len]; exact rowT_se) ?_)
            clear c0
            refine (ptime_any _ _ _ _ _ _ _ _ _ _ _ _ _ _ _ _ HSO.out x wE).mono ?_
            rintro e wF ⟨rfl, hb⟩
            obtain ⟨tv, htv⟩ : ∃ p, p = tmV (okS f0 st pe wi de sm an we ro wk sp fr sl mv dp) st pe x := ⟨_, rfl⟩
            have Htv := Lib.hid htv
            rw [← htv]
            have HE2 := Lib.hid (And.intro (below_then HE1.out.1 hb) (And.intro (HE1.out.2.1.below hb) (HE1.out.2.2.below hb)))
            have c0 := HE2.out.2.2.at 0 rfl
            clear htv hb HE1
            go_wp2_with ((first | with_reducible refine gate_ld ?_ | with_reducible refine gate_ldw ?_); refine row_load rfl _ rfl _ rfl _ HE2.out.2.1 (by rw [HSA.out.len]; exact rowT_se) ?_)
            clear c0
            refine (rtime_any _ _ _ _ _ _ _ _ _ _ _ _ _ _ _ _ HSO.out x wF).mono ?_
            rintro e wG ⟨rfl, hb⟩
            rw [← Htv.out]
            have HE3 := Lib.hid (And.intro (below_then HE2.out.1 hb) (And.intro (HE2.out.2.1.below hb) (HE2.out.2.2.below hb)))
            have c0 := HE3.out.2.2.at 0 rfl
            have c1 := HE3.out.2.2.at 1 rfl
            obtain ⟨t1, t2⟩ := tv
            clear hb HE2
            go_wp2_with ((first | with_reducible refine gate_ld ?_ | with_reducible refine gate_ldw ?_); refine row_load rfl _ rfl _ rfl _ HE3.out.2.1 (by rw [HSA.out.len]; exact rowT_se) ?_)
            clear c0 c1
            refine (pwindow_any _ _ _ _ _ _ _ _ _ _ _ _ _ _ _ _ HSO.out x y wG).mono ?_
            rintro e wH ⟨⟨p, q, r, s, hwn, rfl⟩, hb⟩
            have HE4 := Lib.hid (And.intro (below_then HE3.out.1 hb) (And.intro (HE3.out.2.1.below hb) (HE3.out.2.2.below hb)))
            have Hwn := Lib.hid hwn
            clear hwn hb HE3
            go_upto_region 26 with fail
            obtain ⟨wI, hwI⟩ : ∃ u, u = wH.alloc (.cells #[.int .i64 p, .int .i64 q, .int .i64 r] 68) := ⟨_, rfl⟩
            obtain ⟨hRI, hbI⟩ := new3 _ _ _ _ _ wI hwI
            rw [← hwI]
            obtain ⟨x28, hx28⟩ : ∃ z, z = wH.heap.size := ⟨_, rfl⟩
            rw [← hx28] at hRI ⊢
            have HE5 := Lib.hid (And.intro (below_then HE4.out.1 hbI) (And.intro (HE4.out.2.1.below hbI) (And.intro (HE4.out.2.2.below hbI) hRI)))
            have c0 := HE5.out.2.2.1.at 0 rfl
            have c1 := HE5.out.2.2.1.at 1 rfl
            clear hwI hbI hRI hx28 HE4
            go_wp2_with ((first | with_reducible refine gate_ld ?_ | with_reducible refine gate_ldw ?_); refine row_load rfl _ rfl _ rfl _ HE5.out.2.1 (by rw [HSA.out.len]; exact rowT_se) ?_)
            clear c0 c1
            refine (rwindow_any _ _ _ _ _ _ _ _ _ _ _ _ _ _ _ _ HSO.out x y wI).mono ?_
            rintro e wJ ⟨⟨p', q', r', s', hwn, rfl⟩, hb⟩
            rw [Hwn.out] at hwn
            injection hwn with hp hwn
            injection hwn with hq hwn
            injection hwn with hr hs'
            subst hp hq hr hs'
            have HE6 := Lib.hid (And.intro (below_then HE5.out.1 hb) (HE5.out.2.2.2.below hb))
            clear hb HE5 Hwn
            go_upto_region 27 with fail
            obtain ⟨wK, hwK⟩ : ∃ u, u = wJ.alloc (.cells #[.int .i64 p, .int .i64 q, .int .i64 r] 68) := ⟨_, rfl⟩
            obtain ⟨hRK, hbK⟩ := new3 _ _ _ _ _ wK hwK
            rw [← hwK]
            obtain ⟨x30, hx30⟩ : ∃ z, z = wJ.heap.size := ⟨_, rfl⟩
            rw [← hx30] at hRK ⊢
            have HE7 := Lib.hid (And.intro (below_then HE6.out.1 hbK) (And.intro (HE6.out.2.below hbK) hRK))
            clear hwK hbK hRK hx30 HE6
            go_wp2_with (first | (refine row_load_w rfl _ rfl _ rfl _ HE7.out.2.1 rowT_wn ?_) | (refine row_load_w rfl _ rfl _ rfl _ HE7.out.2.2 rowT_wn ?_))
            refine ⟨⟨j + 1, by omega, by go_num, HE7.out.1⟩, ?_⟩
            simp [intOf]; omega
          · obtain rfl : j = 2 := by omega
            have HEnd := Lib.hid (below_then HD0.out.1 hs.out)
            clear hs
            go_wp2_with fail
            refine ⟨⟨i + 1, by omega, by go_num, HEnd⟩, ?_⟩
            simp [intOf]; omega
      all_goals
        have HX9 := Lib.hid (HL.out.2.2.1.below HW9.out.1)
        go_wp2_with (first
                  | ((first | with_reducible refine gate_ld ?_ | with_reducible refine gate_ldw ?_); refine row_load rfl _ rfl _ rfl _ HW9.out.2 (by rw [HSA.out.len]; exact rowT_se) ?_)
                  | ((first | with_reducible refine gate_ld ?_ | with_reducible refine gate_ldw ?_); refine row_load rfl _ rfl _ rfl _ HX9.out rowT_cy ?_))
        clear c10
        refine (pback_any _ _ _ _ _ _ _ _ _ _ _ _ _ _ _ _ HSO.out (cycV (n : Int) (.slice da dn dc) (.slice fa fn fc)) n HN.out.1 _ _ D F _ rfl rfl rfl rfl v6 (HL.out.1.below HW9.out.1 HL.out.2.1) (Nat.lt_of_lt_of_le HL.out.2.1 HW9.out.1.size) HOB.out.1 (HOB.out.2.1.below HW9.out.1) (HOB.out.2.2.below HW9.out.1)).mono ?_
        rintro e v7 ⟨hf, hb⟩
        rw [HOk.out] at hf
        obtain ⟨rr, hrr⟩ : ∃ x, x = runN n fr sl mv sp.toNat D F := ⟨_, rfl⟩
        rw [← hrr] at hf
        have Hrr := Lib.hid hrr
        obtain ⟨dvA, fvA, rfl, hdA, hfA⟩ := bg_out hf
        obtain ⟨ga, gn, gc, rfl⟩ : ∃ a m c, dvA = .slice a m c := by obtain ⟨a, c, h⟩ := hdA.slice; exact ⟨a, _, c, h⟩
        obtain ⟨ka, kn, kc, rfl⟩ : ∃ a m c, fvA = .slice a m c := by obtain ⟨a, c, h⟩ := hfA.slice; exact ⟨a, _, c, h⟩
        have HFA := Lib.hid (And.intro hdA hfA)
        have HB1 := Lib.hid (And.intro (below_then HW9.out.1 hb) (And.intro (HW9.out.2.below hb) (HX9.out.below hb)))
        clear hf hb hdA hfA hrr HW9 HX9
        unfold stv
        go_upto_region 17 with fail
        obtain ⟨v8, hv8⟩ : ∃ u, u = v7.alloc (.cells #[.int .i64 ((bN ok n rr : Nat) : Int), .slice ga gn gc, .slice ka kn kc] 36) := ⟨_, rfl⟩
        obtain ⟨hR8, hb8⟩ := new3 _ _ _ _ _ v8 hv8
        rw [← hv8]
        obtain ⟨x18, hx18⟩ : ∃ z, z = v7.heap.size := ⟨_, rfl⟩
        rw [← hx18] at hR8 ⊢
        have HB2 := Lib.hid (And.intro (below_then HB1.out.1 hb8) (And.intro (HB1.out.2.1.below hb8) (And.intro (HB1.out.2.2.below hb8) hR8)))
        have HFA2 := Lib.hid (And.intro (HFA.out.1.below hb8) (HFA.out.2.below hb8))
        clear hv8 hb8 hR8 hx18 HB1 HFA
        go_wp2_with (first
                  | ((first | with_reducible refine gate_ld ?_ | with_reducible refine gate_ldw ?_); refine row_load rfl _ rfl _ rfl _ HB2.out.2.1 (by rw [HSA.out.len]; exact rowT_se) ?_)
                  | ((first | with_reducible refine gate_ld ?_ | with_reducible refine gate_ldw ?_); refine row_load rfl _ rfl _ rfl _ HB2.out.2.2.1 rowT_cy ?_))
        refine (rback_any _ _ _ _ _ _ _ _ _ _ _ _ _ _ _ _ HSO.out (cycV (n : Int) (.slice da dn dc) (.slice fa fn fc)) n HN.out.1 _ _ D F _ rfl rfl rfl rfl v8 HOB.out.1 (HOB.out.2.1.below HB2.out.1) (HOB.out.2.2.below HB2.out.1)).mono ?_
        rintro e v9 ⟨hf, hb⟩
        rw [HOk.out, ← Hrr.out] at hf
        obtain ⟨dvB, fvB, rfl, hdB, hfB⟩ := bg_out0 hf
        obtain ⟨ha, hn, hc, rfl⟩ : ∃ a m c, dvB = .slice a m c := by obtain ⟨a, c, h⟩ := hdB.slice; exact ⟨a, _, c, h⟩
        obtain ⟨la, ln, lc, rfl⟩ : ∃ a m c, fvB = .slice a m c := by obtain ⟨a, c, h⟩ := hfB.slice; exact ⟨a, _, c, h⟩
        have HFB := Lib.hid (And.intro hdB hfB)
        have HFA3 := Lib.hid (And.intro (HFA2.out.1.below hb) (HFA2.out.2.below hb))
        have HB3 := Lib.hid (And.intro (below_then HB2.out.1 hb) (And.intro (HB2.out.2.1.below hb) (HB2.out.2.2.2.below hb)))
        clear hf hb hdB hfB HB2 HFA2
        unfold stv
        go_upto_region 18 with fail
        obtain ⟨vA, hvA⟩ : ∃ u, u = v9.alloc (.cells #[.int .i64 ((bN ok n rr : Nat) : Int), .slice ha hn hc, .slice la ln lc] 36) := ⟨_, rfl⟩
        obtain ⟨hRA, hbA⟩ := new3 _ _ _ _ _ vA hvA
        rw [← hvA]
        obtain ⟨x20, hx20⟩ : ∃ z, z = v9.heap.size := ⟨_, rfl⟩
        rw [← hx20] at hRA ⊢
        have HB4 := Lib.hid (And.intro (below_then HB3.out.1 hbA) (And.intro (HB3.out.2.1.below hbA) (And.intro (HB3.out.2.2.below hbA) hRA)))
        have HSm := Lib.hid (rsame29_any (bN ok n rr) _ _ _ _ (bD ok rr) (bF ok rr) vA (HFA3.out.1.below hbA) (HFA3.out.2.below hbA) (HFB.out.1.below hbA) (HFB.out.2.below hbA))
        unfold stv at HSm
        clear hvA hbA hRA hx20 HB3 HFA3 HFB
        go_wp2_with (first | (refine row_load_w rfl _ rfl _ rfl _ HB4.out.2.2.1 rowT_st ?_) | (refine row_load_w rfl _ rfl _ rfl _ HB4.out.2.2.2 rowT_st ?_))
        refine HSm.out.mono ?_
        rintro e vB ⟨rfl, hb⟩
        have HBE := Lib.hid (And.intro (below_then HB4.out.1 hb) (HB4.out.2.1.below hb))
        clear hb HSm HB4
        obtain ⟨vC, hvC⟩ : ∃ x, x = vB := ⟨_, rfl⟩
        have HC0 : Hid (Below wB.heap.size wB vC ∧ RowAt vC x13 S) := by rw [hvC]; exact HBE.out
        rw [← hvC]
        clear hvC HBE
        go_wp2_with fail
        refine (mod_any num 12 (by omega) (by omega) HNum.out.1 vC).mono ?_
        rintro e q1 ⟨m1, rfl, hq1⟩
        obtain rfl := hq1.symm
        clear hq1
        go_wp2_with fail
        refine (mod_any cut 5000 (by omega) (by omega) HNum.out.2 vC).mono ?_
        rintro e q1 ⟨m2, rfl, hq1⟩
        obtain rfl := hq1.symm
        clear hq1
        go_upto_region 21 with fail
        obtain ⟨vD, hvD⟩ : ∃ u, u = vC.alloc (.cells #[.int .i64 num, .int .i64 cut, .int .i64 m1, .int .i64 m2] 62) := ⟨_, rfl⟩
        rw [← hvD]
        have hbD : Below vC.heap.size vC vD := by rw [hvD]; exact (Below.refl _ _).alloc (Nat.le_refl _) _
        have hRD : RowAt vD vC.heap.size [.int .i64 num, .int .i64 cut, .int .i64 m1, .int .i64 m2] := by rw [hvD]; exact RowAt.new vC [.int .i64 num, .int .i64 cut, .int .i64 m1, .int .i64 m2] (by simp) _ rfl
        obtain ⟨LC, hLC⟩ : ∃ x, x = vC.heap.size := ⟨_, rfl⟩
        rw [← hLC] at hRD ⊢
        have HD0 := Lib.hid (And.intro (below_then HC0.out.1 hbD) (And.intro (HC0.out.2.below hbD) hRD))
        clear hvD hbD hRD hLC HC0
        go_wp2_with fail
        obtain ⟨wout, rfl⟩ : ∃ wout : World, wout = wr := ⟨_, rfl⟩
        go_loopw [122] (fun kv wr => ∃ j : Nat, j ≤ 2 ∧ kv = .int .i64 j ∧ Hid (Below vD.heap.size vD wr)) (fun kv _ => (2 - intOf kv).toNat)
        case atStart => exact ⟨0, by omega, rfl, Below.refl _ _⟩
        case round =>
          obtain ⟨j, hj, rfl, hs⟩ := hrel
          by_cases hjl : j < 2
          · have j0 : (j : Int) < 2 := by omega
            obtain ⟨x, y, hx, hy⟩ : ∃ x y : Int, wr.cell? ⟨LC, j * 2, none⟩ = some (.int .i64 x) ∧ wr.cell? ⟨LC, j * 2 + 1, none⟩ = some (.int .i64 y) := by
              have hr := HD0.out.2.2.below hs.out
              have : j = 0 ∨ j = 1 := by omega
              rcases this with rfl | rfl
              · exact ⟨num, cut, hr.at 0 rfl, hr.at 1 rfl⟩
              · exact ⟨m1, m2, hr.at 2 rfl, hr.at 3 rfl⟩
            go_upto_region 23 with fail
            obtain ⟨wE, hwE⟩ : ∃ u, u = wr.alloc (.cells #[.int .i64 x, .int .i64 y] 62) := ⟨_, rfl⟩
            rw [← hwE]
            have hbE : Below wr.heap.size wr wE := by rw [hwE]; exact (Below.refl _ _).alloc (Nat.le_refl _) _
            have hRE : RowAt wE wr.heap.size [.int .i64 x, .int .i64 y] := by rw [hwE]; exact RowAt.new wr [.int .i64 x, .int .i64 y] (by simp) _ rfl
            obtain ⟨x23, hx23⟩ : ∃ z, z = wr.heap.size := ⟨_, rfl⟩
            rw [← hx23] at hRE ⊢
            have HE1 := Lib.hid (And.intro (below_then hs.out hbE) (And.intro (HD0.out.2.1.below (below_then hs.out hbE)) hRE))
            have c0 := hRE.at 0 rfl
            clear hwE hbE hRE hx hy hx23 hs
            go_wp2_with ((first | with_reducible refine gate_ld ?_ | with_reducible refine gate_ldw ?_); refine row_load rfl _ rfl _ rfl _ HE1.out.2.1 (by rw [HSA.out.len]; exact rowT_se) ?_)
            clear c0
            refine (ptime_any _ _ _ _ _ _ _ _ _ _ _ _ _ _ _ _ HSO.out x wE).mono ?_
            rintro e wF ⟨rfl, hb⟩
            obtain ⟨tv, htv⟩ : ∃ p, p = tmV (okS f0 st pe wi de sm an we ro wk sp fr sl mv dp) st pe x := ⟨_, rfl⟩
            have Htv := Lib.hid htv
            rw [← htv]
            have HE2 := Lib.hid (And.intro (below_then HE1.out.1 hb) (And.intro (HE1.out.2.1.below hb) (HE1.out.2.2.below hb)))
            have c0 := HE2.out.2.2.at 0 rfl
            clear htv hb HE1
            go_wp2_with ((first | with_reducible refine gate_ld ?_ | with_reducible refine gate_ldw ?_); refine row_load rfl _ rfl _ rfl _ HE2.out.2.1 (by rw [HSA.out.len]; exact rowT_se) ?_)
            clear c0
            refine (rtime_any _ _ _ _ _ _ _ _ _ _ _ _ _ _ _ _ HSO.out x wF).mono ?_
            rintro e wG ⟨rfl, hb⟩
            rw [← Htv.out]
            have HE3 := Lib.hid (And.intro (below_then HE2.out.1 hb) (And.intro (HE2.out.2.1.below hb) (HE2.out.2.2.below hb)))
            have c0 := HE3.out.2.2.at 0 rfl
            have c1 := HE3.out.2.2.at 1 rfl
            obtain ⟨t1, t2⟩ := tv
            clear hb HE2
            go_wp2_with ((first | with_reducible refine gate_ld ?_ | with_reducible refine gate_ldw ?_); refine row_load rfl _ rfl _ rfl _ HE3.out.2.1 (by rw [HSA.out.len]; exact rowT_se) ?_)
            clear c0 c1
            refine (pwindow_any _ _ _ _ _ _ _ _ _ _ _ _ _ _ _ _ HSO.out x y wG).mono ?_
            rintro e wH ⟨⟨p, q, r, s, hwn, rfl⟩, hb⟩
            have HE4 := Lib.hid (And.intro (below_then HE3.out.1 hb) (And.intro (HE3.out.2.1.below hb) (HE3.out.2.2.below hb)))
            have Hwn := Lib.hid hwn
            clear hwn hb HE3
            go_upto_region 26 with fail
            obtain ⟨wI, hwI⟩ : ∃ u, u = wH.alloc (.cells #[.int .i64 p, .int .i64 q, .int .i64 r] 68) := ⟨_, rfl⟩
            obtain ⟨hRI, hbI⟩ := new3 _ _ _ _ _ wI hwI
            rw [← hwI]
            obtain ⟨x28, hx28⟩ : ∃ z, z = wH.heap.size := ⟨_, rfl⟩
            rw [← hx28] at hRI ⊢
            have HE5 := Lib.hid (And.intro (below_then HE4.out.1 hbI) (And.intro (HE4.out.2.1.below hbI) (And.intro (HE4.out.2.2.below hbI) hRI)))
            have c0 := HE5.out.2.2.1.at 0 rfl
            have c1 := HE5.out.2.2.1.at 1 rfl
            clear hwI hbI hRI hx28 HE4
            go_wp2_with ((first | with_reducible refine gate_ld ?_ | with_reducible refine gate_ldw ?_); refine row_load rfl _ rfl _ rfl _ HE5.out.2.1 (by rw [HSA.out.len]; exact rowT_se) ?_)
            clear c0 c1
            refine (rwindow_any _ _ _ _ _ _ _ _ _ _ _ _ _ _ _ _ HSO.out x y wI).mono ?_
            rintro e wJ ⟨⟨p', q', r', s', hwn, rfl⟩, hb⟩
            rw [Hwn.out] at hwn
            injection hwn with hp hwn
            injection hwn with hq hwn
            injection hwn with hr hs'
            subst hp hq hr hs'
            have HE6 := Lib.hid (And.intro (below_then HE5.out.1 hb) (HE5.out.2.2.2.below hb))
            clear hb HE5 Hwn
            go_upto_region 27 with fail
            obtain ⟨wK, hwK⟩ : ∃ u, u = wJ.alloc (.cells #[.int .i64 p, .int .i64 q, .int .i64 r] 68) := ⟨_, rfl⟩
            obtain ⟨hRK, hbK⟩ := new3 _ _ _ _ _ wK hwK
            rw [← hwK]
            obtain ⟨x30, hx30⟩ : ∃ z, z = wJ.heap.size := ⟨_, rfl⟩
            rw [← hx30] at hRK ⊢
            have HE7 := Lib.hid (And.intro (below_then HE6.out.1 hbK) (And.intro (HE6.out.2.below hbK) hRK))
            clear hwK hbK hRK hx30 HE6
            go_wp2_with (first | (refine row_load_w rfl _ rfl _ rfl _ HE7.out.2.1 rowT_wn ?_) | (refine row_load_w rfl _ rfl _ rfl _ HE7.out.2.2 rowT_wn ?_))
            refine ⟨⟨j + 1, by omega, by go_num, HE7.out.1⟩, ?_⟩
            simp [intOf]; omega
          · obtain rfl : j = 2 := by omega
            have HEnd := Lib.hid (below_then HD0.out.1 hs.out)
            clear hs
            go_wp2_with fail
            refine ⟨⟨i + 1, by omega, by go_num, HEnd⟩, ?_⟩
            simp [intOf]; omega
    · obtain rfl : i = 4 := by omega
      have HEnd := Lib.hid (HL.out.2.2.2.2.trans (hs.out.mono HL.out.2.2.2.2.size))
      clear hs
      go_wp2_with fail
      go_ret
      exact ⟨rfl, HEnd.out⟩
end Go.Proofs.YtkpgciimhjkajaaGreatDoor
/- What the row of CycleSettings gives at its first world, how its arguments open, and the last step of the row. No conditions. -/
namespace Go.Proofs.YtkpgciimhjkajaaGreatDoor
open Go Go.ChangeShapes Go.WideShapes Go.ChangeAt Go.RowKit
open Go.ChangeMaps (open_string shut_string)
theorem own : ownKnob Tryz.prog.godebug = none := by kernel_rfl
theorem laid_out : laidOutB Tryz.prog = true := by kernel_rfl
section
variable {H : Type} {enc : TypeId × Value → H} {P : Program}
theorem trodAll_low (hl : laidOutB P = true) {W W' : World} (hb : Below W.heap.size W W') : ∀ (ts : List TypeId) (vs : List Value) (ds : List (DataW H)) (ps : List MemPlace),
    (ts.all fun t => P.readableRec t && decide (t < P.types.size)) = true → DataW.TrodAll enc P W 0 (fun _ => true) true ts vs ds ps → (∀ p ∈ ps, p.block < W.heap.size) →
    DataW.TrodAll enc P W' 0 (fun b => decide (b < W.heap.size)) true ts vs ds ps
  | [], [], [], _, _, h, _ => h
  | [], [], _ :: _, _, _, h, _ => h.elim
  | [], _ :: _, _, _, _, h, _ => h.elim
  | _ :: _, [], _, _, _, h, _ => h.elim
  | _ :: _, _ :: _, [], _, _, h, _ => h.elim
  | t :: ts, v :: vs, d :: ds, ps, hT, h, hlt => by
    obtain ⟨p, q, hp, hq, e⟩ := h
    simp only [List.all_cons, Bool.and_eq_true, decide_eq_true_eq] at hT
    refine ⟨p, q, Below.trod hl hT.1.1 hT.1.2 hp hb (fun x hx => hlt x (by rw [e]; simp [hx])), trodAll_low hl hb ts vs ds q hT.2 hq (fun x hx => hlt x (by rw [e]; simp [hx])), e⟩
theorem law_post (hl : laidOutB P = true) {f : Func} {s : ChangeSpec} {apart fresh handsOn : Bool} {tb : TypeId} {W W' : World} {args : Array Value} {ds gs : List (DataW H)} {before : List MemPlace}
    (hT : (f.params.toList.all fun t => P.readableRec t && decide (t < P.types.size)) = true) (hr : f.resultTypes = #[tb]) (htb : P.underlying tb = some .bool)
    (hW : DataW.Whole enc P f.params.toList s.vars apart W args.toList ds gs before) (hv : s.vars = []) (hf : s.fn H (ds ++ gs) = { results := [.lit (.bool true)], args := ds }) (hb : Below W.heap.size W W') :
    s.post enc P f apart fresh handsOn false W args (.bool true) W' := by
  have hW' := hW
  obtain ⟨p, q, hA, hV, rfl, _, _⟩ := hW
  have hlt : ∀ x ∈ p ++ q, x.block < W.heap.size := fun x hx => hW'.lt x hx
  rw [hv] at hV
  have hq : gs = [] ∧ q = [] := trodVars_none hV
  obtain ⟨rfl, rfl⟩ := hq
  have hA' := trodAll_low hl hb _ _ _ _ hT hA (fun x hx => hlt x (by simp [hx]))
  refine ⟨ds, [], p ++ [], [], p, [], hW', ?_, ?_, ?_, World.keptBut_mono (fun x hx => ⟨hx, by simp at hx; simp [hx]⟩) (hb.frame (· ∈ p ++ [])), fun h => by cases h⟩
  · rw [hf, hr]
    exact trodAll_cons_mk (shut_bool htb _) trodAll_mk0
  · rw [hf]; exact hA'
  · rw [hf, hv]; exact (rfl : ([] : List MemPlace) = [])
end
section
variable {H : Type} {enc : TypeId × Value → H} {P : Program} {w : World} {base : Nat} {sp : Nat → Bool} {held : Bool}
theorem tab2 {fuel : Nat} {t e f : TypeId} {n m : Nat} {k : IntKind} {cs : List Value} {zss : List (List Int)} {p : List MemPlace}
    (ht : P.underlying t = some (.array n e)) (he : P.underlying e = some (.array m f)) (hf : P.underlying f = some (.int k)) (hcf : P.cellsOf f = 1) (hce : P.cellsOf e = m)
    (h : DataW.trod enc P w base sp held fuel t cs = some (.agg (zss.map (Lib.tabData k)), p)) (i : Nat) (zs : List Int) (hi : zss[i]? = some zs) :
    (cs.drop (i * m)).take m = zs.map (Value.int k) := by
  obtain ⟨xs, q, _, hx, _, hl, hr⟩ := DataW.trod_array ht h
  injection hx with hx _
  injection hx with hx
  have hlz : zss.length = n := by have := congrArg List.length hx; simp at this; omega
  have hin : i < n := by
    have := (List.getElem?_eq_some_iff.1 hi).1; omega
  have h1 := hr i hin
  rw [hce] at h1
  have h2 : (xs.map (·.1))[i]? = some (Lib.tabData k zs) := by rw [← hx]; simp [hi]
  rw [List.getElem?_map, Option.map_eq_some_iff] at h2
  obtain ⟨⟨x, pp⟩, h3, h4⟩ := h2
  rw [h3] at h1
  simp only at h4
  subst h4
  exact Lib.cells_of_tab he hf hcf hce h1
end
def tabs : List (String × DataW Unit) := [("synoptic/place.corners", Rows.laid_synoptic_place_corners)]
theorem gCrn : Tryz.prog.globalNamed "synoptic/place.corners" = some 0 := by kernel_rfl
def crnss : List (List Int) := (List.range 20).map fun f => [((crn f).1 : Int), ((crn f).2.1 : Int), ((crn f).2.2 : Int)]
theorem crnss_at (f : Nat) (hf : f < 20) : crnss[f]? = some [((crn f).1 : Int), ((crn f).2.1 : Int), ((crn f).2.2 : Int)] := by
  unfold crnss
  rw [List.getElem?_map, List.getElem?_range hf]
  rfl
theorem crnss_laid : (Rows.laid_synoptic_place_corners : DataW Unit) = .agg (crnss.map (Lib.tabData .i64)) := by
  kernel_rfl
theorem crn_of {W : World} (hL : laidMetH Tryz.prog tabs W) : Crn W := by
  have h : laidMet Tryz.prog tabs W := hL
  obtain ⟨ps, ⟨g', t', cs, fuel, p, q, hg', ht', hvar, hd, _, _⟩, _⟩ := h
  obtain rfl := Option.some.inj (gCrn.symm.trans hg')
  obtain rfl := Option.some.inj ((show (Tryz.prog.globals[0]?).map (·.type) = some 220 by kernel_rfl).symm.trans ht')
  rw [crnss_laid] at hd
  have key := tab2 (zss := crnss) Tryz.underlying220 Tryz.underlying97 Tryz.underlying3 (by kernel_rfl) (by kernel_rfl) hd
  have hr : ∀ f, f < 20 → W.rangeAt 0 (f * 3) [.int .i64 ((crn f).1 : Int), .int .i64 ((crn f).2.1 : Int), .int .i64 ((crn f).2.2 : Int)] := fun f hf j v hj => by
    have h3 := key f _ (crnss_at f hf)
    have hj3 : j < 3 := (List.getElem?_eq_some_iff.1 hj).1
    have h5 := World.var?_cell gCrn hvar (f * 3 + j)
    rw [h5]
    have h4 : cs.toList[f * 3 + j]? = ((cs.toList.drop (f * 3)).take 3)[j]? := by
      rw [List.getElem?_take_of_lt hj3, List.getElem?_drop]
    have h6 : cs.toList[f * 3 + j]? = some v := by
      rw [h4, h3]
      exact hj
    simpa using h6
  refine ⟨?_, hr⟩
  have h0 := hr 0 (by omega) 0 _ rfl
  exact World.block_lt_of_cell? (a := ⟨0, 0 * 3 + 0, none⟩) _ h0
def layCrn : Obj → Obj
  | .cells _ t frozen => .cells (crnss.flatten.map fun z => Value.int .i64 z).toArray t frozen
  | o => o
noncomputable def laidWorld (os : Os) : World :=
  { World.holding Tryz.prog os ⟨#[], #[], []⟩ with heap := (World.holding Tryz.prog os ⟨#[], #[], []⟩).heap.modify 0 layCrn }
theorem laid_met (os : Os) (args : Array Value) : laidMet Tryz.prog tabs ((laidWorld os).forCall (fun _ _ => 0) ⟨#[], args, []⟩).memory :=
  laidMet_of_run' 8 (by kernel_rfl) (by kernel_rfl)
theorem wf_int {x : Int} (h : (Lit.int .i64 x).wf = true) : -9223372036854775808 ≤ x ∧ x ≤ 9223372036854775807 := by
  simp only [Lit.wf, Bool.and_eq_true, decide_eq_true_eq] at h
  have h1 : IntKind.i64.min = -9223372036854775808 := rfl
  have h2 : IntKind.i64.max = 9223372036854775807 := rfl
  omega
set_option maxRecDepth 100000 in
theorem open_codes {H : Type} {enc : TypeId × Value → H} {W : World} {base : Nat} {v : Value} {d : DataW H} {p : List MemPlace} (hv : Value.okWide Tryz.prog W .any base 22 v) (h : DataW.Trod enc Tryz.prog W 0 (fun _ => true) true 22 v d p) :
    U8At W W.heap.size v := by
  obtain ⟨a0, len, cap, rfl⟩ := okWide_slice Tryz.underlying22 hv
  obtain ⟨fuel, hf⟩ := h
  rcases open_ints Tryz.underlying22 Tryz.underlying5 (by kernel_rfl) hf with ⟨hcs, _⟩ | ⟨a, len', cap', zs, hcs, _, hl, hm, hz, _, hcell, hwz⟩
  · have hcs : a0 = none ∧ len = 0 ∧ cap = 0 := by simpa [Value.cells] using hcs
    obtain ⟨rfl, rfl, rfl⟩ := hcs
    exact ⟨none, 0, 0, rfl, by omega, by omega, fun i hi => by omega⟩
  · have hcs : a0 = some a ∧ len = len' ∧ cap = cap' := by simpa [Value.cells] using hcs
    obtain ⟨rfl, rfl, rfl⟩ := hcs
    simp only [if_true] at hz
    have hm' : cap ≤ 9223372036854775807 := by unfold maxLen at hm; omega
    refine ⟨some a, len, cap, rfl, hl, hm', fun i hi => ?_⟩
    obtain ⟨b, off, rfl, hc⟩ := ints_at hcell (by omega)
    have hci := hc i (by omega)
    refine ⟨b, off, rfl, World.block_lt_of_cell? (a := ⟨b, off + i, none⟩) _ hci, _, ?_, ?_, hci⟩
    all_goals
      have hw := hwz (zs.getD i 0) (by rw [List.getD_eq_getElem?_getD, List.getElem?_eq_getElem (by omega)]; simp)
      simp only [Lit.wf, Bool.and_eq_true, decide_eq_true_eq] at hw
      have h1 : IntKind.u8.min = 0 := rfl
      have h2 : IntKind.u8.max = 255 := rfl
      omega
set_option maxRecDepth 100000 in
theorem open_set {W : World} {base : Nat} {v : Value} (hv : Value.okWide Tryz.prog W .any base 29 v) : ∃ S : List Value, v = .agg S.toArray ∧ SeA S := by
  unfold Value.okWide at hv
  rw [Tryz.underlying29] at hv
  obtain ⟨cs, rfl, hsz, ts, hts, _, hc⟩ := hv
  have hsz : cs.size = 56 := hsz.trans (by kernel_rfl)
  obtain rfl := Option.some.inj ((show Tryz.prog.cellTypes Tryz.prog.depth 29 = some (List.replicate 56 3) by kernel_rfl).symm.trans hts)
  have hall : ∀ i, i < 56 → ∃ x : Int, cs[i]? = some (.int .i64 x) := fun i hi => by
    obtain ⟨v, hv⟩ : ∃ v, cs[i]? = some v := ⟨_, Array.getElem?_eq_getElem (by omega)⟩
    obtain ⟨u, hu, ho⟩ := hc i v hv
    rw [List.getElem?_replicate] at hu
    split at hu
    · injection hu with hu
      subst hu
      unfold Cell.okWide Cell.ok at ho
      rw [Tryz.underlying3] at ho
      cases v <;> simp at ho
      obtain ⟨rfl, _⟩ := ho
      exact ⟨_, hv⟩
    · cases hu
  refine ⟨cs.toList, by simp, SeA.of (by simpa using hsz) (fun v hv => ?_) (fun i hi => ?_)⟩
  · obtain ⟨i, hi, rfl⟩ := List.getElem_of_mem hv
    obtain ⟨x, hx⟩ := hall i (by simpa [hsz] using hi)
    have hx' : cs.toList[i]? = some (.int .i64 x) := by simpa using hx
    rw [List.getElem?_eq_getElem hi] at hx'
    injection hx' with hx'
    rw [hx']; rfl
  · obtain ⟨x, hx⟩ := hall i (by omega)
    exact ⟨x, by simpa using hx⟩
end Go.Proofs.YtkpgciimhjkajaaGreatDoor
