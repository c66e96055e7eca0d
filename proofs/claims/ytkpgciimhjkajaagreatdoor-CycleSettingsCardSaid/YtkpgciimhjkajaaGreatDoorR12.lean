/- Part 12 of the proof: laws on memory and what functions of the program return. No conditions but those that each theorem names. -/
import Derived.Test.YtkpgciimhjkajaaGreatDoorR11
set_option linter.unusedVariables false
set_option linter.unusedSimpArgs false
/- The program's model: FromField, Rest. -/
namespace Go.Proofs.YtkpgciimhjkajaaGreatDoor
open Go Go.RowKit
structure MF (n : Nat) (D F : List Int) (w3 W : World) (yb : Nat) (dv fv : Value) : Prop where
  row : RowAt W yb [.int .i64 (n : Int), dv, fv]
  lo : w3.heap.size ≤ yb
  od : OwnI W w3.heap.size dv D
  of : OwnI W w3.heap.size fv F
  be : Below w3.heap.size w3 W
theorem mk_own (w : World) (N : Nat) (hN : N ≤ 1000000) : OwnI (w.alloc (.cells (madeCells #[.int .i64 0] N) 3)) w.heap.size (.slice (some ⟨w.heap.size, 0, none⟩) N N) (List.replicate N 0) := by
  have h := (BlkI.new w N).own (base := w.heap.size) (Nat.le_refl _) (by omega)
  rw [List.length_replicate] at h
  exact h
set_option maxRecDepth 100000 in
set_option maxHeartbeats 16000000 in
theorem pfield_any (n : Nat) (hn : Fq n) (dv : Value) (D : List Int) (B0 : Nat) (w : World) (hcr : Crn w) (hg : 0 < w.heap.size) (hok : SOk n D (List.replicate (edgesN n).length 0)) (hd : OwnI w B0 dv D) :
    Calls Tryz.prog 48 #[.int .i64 n, dv] w fun e w' => ∃ dv' fv', e = .returned (.tuple #[stv n dv' fv', .int .i64 0]) ∧ OwnI w' w.heap.size dv' D ∧ OwnI w' w.heap.size fv' (List.replicate (edgesN n).length 0) ∧ Below w.heap.size w w' := by
  obtain ⟨da, dn, dc, rfl⟩ : ∃ a m c, dv = .slice a m c := by obtain ⟨a, c, h⟩ := hd.slice; exact ⟨a, _, c, h⟩
  obtain ⟨w1, hw1⟩ : ∃ u, u = w.alloc (.cells #[.int .i64 0, .slice none 0 0, .slice none 0 0] 36) := ⟨_, rfl⟩
  have hb1 : Below w.heap.size w w1 := by rw [hw1]; exact (Below.refl _ _).alloc (Nat.le_refl _) _
  have hR1 : RowAt w1 w.heap.size [.int .i64 0, .slice none 0 0, .slice none 0 0] := by rw [hw1]; exact RowAt.new _ [.int .i64 0, .slice none 0 0, .slice none 0 0] (by simp) _ rfl
  have hcr1 := hcr.below hb1 hg
  have hg1 := Nat.lt_of_lt_of_le hg hb1.size
  have HEd := Lib.hid (pedges_any n hn w1 hcr1 hg1)
  have HFix := Lib.hid (And.intro hn (And.intro hok (And.intro hcr1 hg1)))
  have HL1 := Lib.hid (hd.below hb1)
  have HR1 := Lib.hid hR1
  have HB1 := Lib.hid hb1
  have Hw1 := Lib.hid hw1
  clear hcr hg hok hd hb1 hR1 hw1 hcr1 hg1
  go_enter Tryz.func48, Tryz.ntmps48
  go_upto_region 1 with fail
  rw [← Hw1.out]
  go_wp2_with fail
  refine HEd.out.mono ?_
  rintro e w3 ⟨ev, rfl, hE, hb3⟩
  obtain ⟨ea, en, ec, rfl⟩ : ∃ a m c, ev = .slice a m c := by obtain ⟨a, c, h⟩ := hE.slice; exact ⟨a, _, c, h⟩
  have hen : en = (edgesN n).length := by obtain ⟨a, c, h⟩ := hE.slice; injection h with _ h _
  have HR3 := Lib.hid (HR1.out.below hb3)
  have HL3 := Lib.hid (HL1.out.below hb3)
  have HB3 := Lib.hid (below_then HB1.out hb3)
  have HCr3 := Lib.hid (And.intro (HFix.out.2.2.1.below hb3 HFix.out.2.2.2) (Nat.lt_of_lt_of_le HFix.out.2.2.2 hb3.size))
  have hel := edgesN_le hn
  rw [← hen] at hel
  have HDl : Hid (D.length ≤ 1000000 ∧ en ≤ 1000000) := by
    have h1 := HFix.out.2.1.dl
    have h8 : n ≤ 8 := hn.2
    have := Nat.mul_le_mul (Nat.mul_le_mul_left 10 h8) h8
    unfold Hid; omega
  have Hmk := Lib.hid (run_make_row' (P := Tryz.prog) 34 3 (.int .i64 0) 8 Tryz.underlying34 iinfoN rfl .i64 .i64 en (by omega) (by omega))
  have HN := Lib.hid hen
  clear hb3 hE hel hen hn HR1 HL1 HB1 HEd
  go_wp2_with fail
  refine region_cut (fun a W => ∃ yb v31 v34, a = { tmps := (([.int .i64 (n : Int), .slice da dn dc, undef, undef, .pointer (some ⟨w.heap.size, 0, none⟩), .int .i64 0, .slice ea en ec, .int .i64 0, .pointer (some ⟨yb, 0, none⟩), undef, .tuple #[.slice ea en ec, .int .i64 0]] : List Value) ++ ([.int .i64 (n : Int), .tuple #[.slice ea en ec, .int .i64 0], .slice ea en ec, .int .i64 0, .int .i64 0, .bool false, undef, .int .i64 (n : Int), .slice da dn dc, v31, .slice ea en ec] ++ ([.int .i64 (en : Int), v34, .agg #[.int .i64 (n : Int), v31, v34], undef, undef, undef, undef, undef, undef, undef]))).toArray, defers := [] } ∧ MF n D (List.replicate en 0) w3 W yb v31 v34) ?_ ?_
  · have HB0 : Hid (Below w3.heap.size w3 w3.drew) := (Below.refl _ _).drew
    refine wp_region_tree (by kernel_rfl) (fun _ => True) 8 (.q 0 0 (.q 1 0 (.q 3 0 (.q 4 0 (.fork (.e 2 (.fork (.e 5 (.q 6 0 (.e 7 (.e 8 (.nil))))) (.e 7 (.e 5 (.q 6 0 (.e 8 (.nil))))))) (.fork (.e 5 (.fork (.e 2 (.q 6 0 (.e 7 (.e 8 (.nil))))) (.e 7 (.e 2 (.q 6 0 (.e 8 (.nil))))))) (.e 7 (.fork (.e 2 (.e 5 (.q 6 0 (.e 8 (.nil))))) (.e 5 (.e 2 (.q 6 0 (.e 8 (.nil))))))))))))) (by kernel_rfl) (trivial) ?_
    refine tr_q (d := some 18) rfl rfl rfl (.int .i64 (n : Int)) (fun w => rfl) ?_
    simp only [ap_s, ap_n, ls_z, ls_s]
    refine tr_q (d := some 19) rfl rfl rfl (.slice da dn dc) (fun w => rfl) ?_
    simp only [ap_s, ap_n, ls_z, ls_s]
    refine tr_q (d := some 21) rfl rfl rfl (.slice ea en ec) (fun w => rfl) ?_
    simp only [ap_s, ap_n, ls_z, ls_s]
    refine tr_q (d := some 22) rfl rfl rfl (.int .i64 (en : Int)) (fun w => by simp [execOp, Act.eval, go_sem]) ?_
    simp only [ap_s, ap_n, ls_z, ls_s]
    refine tr_fork ?_ ?_
    · refine tr_call (d := some 20) rfl rfl rfl ⟨_, Tryz.func57, by kernel_rfl, by kernel_rfl⟩ _ _ _ rfl rfl [.slice da dn dc] rfl (pclone_any _ D B0 _ (HL3.out.below HB0.out) HDl.out.1) ?_
      rintro e W1 ⟨vv, rfl, hv, hb⟩
      obtain ⟨pa, pc, rfl⟩ := hv.slice
      have HB1 := Lib.hid (below_then HB0.out hb)
      have Hd1 := Lib.hid (hv.mono (B := w3.heap.size) HB0.out.size)
      have HZd : Hid (∀ g, (.slice pa D.length pc : Value).ownBlock = some g → w3.drew.heap.size ≤ g ∧ g < W1.heap.size) := hv.lt
      have hz1 : w3.drew.heap.size ≤ W1.heap.size := hb.size
      clear hv hb
      refine ⟨_, rfl, fun _ => trivial, ?_⟩
      simp only [ap_s, ap_n, ls_z, ls_s]
      refine tr_fork ?_ ?_
      · obtain ⟨W2, hw⟩ : ∃ u, u = W1.alloc (.cells (madeCells #[.int .i64 0] en) 3) := ⟨_, rfl⟩
        obtain ⟨qb, hy⟩ : ∃ u, u = W1.heap.size := ⟨_, rfl⟩
        have hb : Below W1.heap.size W1 W2 := by rw [hw]; exact (Below.refl _ _).alloc (Nat.le_refl _) _
        have HB2 := Lib.hid (below_then HB1.out hb)
        have Hd2 := Lib.hid (Hd1.out.below hb)
        clear Hd1
        have hv : OwnI W2 W1.heap.size (.slice (some ⟨qb, 0, none⟩) en en : Value) (List.replicate en 0) := by rw [hw, hy]; exact mk_own _ en HDl.out.2
        have Hf2 := Lib.hid (hv.mono (B := w3.heap.size) HB1.out.size)
        have HZf : Hid (∀ g, (.slice (some ⟨qb, 0, none⟩) en en : Value).ownBlock = some g → W1.heap.size ≤ g ∧ g < W2.heap.size) := hv.lt
        have hz2 : W1.heap.size ≤ W2.heap.size := hb.size
        refine tr_run (d := some 23) rfl rfl rfl (.slice (some ⟨qb, 0, none⟩) en en) W2 (by have hmk := Hmk.out; rw [hw, hy]; simp [execOp, Act.eval, go_sem, hmk]) (fun _ => trivial) ?_
        simp only [ap_s, ap_n, ls_z, ls_s]
        clear hw hy hb hv
        refine tr_q (d := some 24) rfl rfl rfl (.agg #[.int .i64 (n : Int), .slice pa D.length pc, .slice (some ⟨qb, 0, none⟩) en en]) (fun w => by simp [execOp, Act.eval, go_sem]) ?_
        simp only [ap_s, ap_n, ls_z, ls_s]
        obtain ⟨W3, hw⟩ : ∃ u, u = W2.alloc (.cells #[.int .i64 0, .slice none 0 0, .slice none 0 0] 36) := ⟨_, rfl⟩
        obtain ⟨yb, hy⟩ : ∃ u, u = W2.heap.size := ⟨_, rfl⟩
        have hb : Below W2.heap.size W2 W3 := by rw [hw]; exact (Below.refl _ _).alloc (Nat.le_refl _) _
        have HB3 := Lib.hid (below_then HB2.out hb)
        have Hd3 := Lib.hid (Hd2.out.below hb)
        clear Hd2
        have Hf3 := Lib.hid (Hf2.out.below hb)
        clear Hf2
        have Hy3 : Hid (RowAt W3 yb [.int .i64 0, .slice none 0 0, .slice none 0 0]) := by rw [hw]; exact RowAt.new _ [.int .i64 0, .slice none 0 0, .slice none 0 0] (by simp) _ hy.symm
        have HZy : Hid (W2.heap.size ≤ yb ∧ yb < W3.heap.size) := ⟨Nat.le_of_eq hy.symm, Hy3.out.lt⟩
        have hz3 : W2.heap.size ≤ W3.heap.size := hb.size
        refine tr_run (d := some 8) rfl rfl rfl (.pointer (some ⟨yb, 0, none⟩)) W3 (by rw [hw, hy]; simp [execOp, Act.eval, go_sem]) (fun _ => trivial) ?_
        simp only [ap_s, ap_n, ls_z, ls_s]
        clear hw hy hb
        have q1 := HZd.out
        have q2 := HZf.out
        have q3 := HZy.out
        have q0 : w3.heap.size ≤ w3.drew.heap.size := Nat.le_refl _
        have yd : (.slice pa D.length pc : Value).ownBlock ≠ some yb := fun e => by have := q1 yb e; omega
        have yf : (.slice (some ⟨qb, 0, none⟩) en en : Value).ownBlock ≠ some yb := fun e => by have := q2 yb e; omega
        have ly : w3.heap.size ≤ yb := by omega
        refine tr_rowst (d := none) rfl rfl rfl _ _ rfl yb rfl [.int .i64 0, .slice none 0 0, .slice none 0 0] [.int .i64 (n : Int), .slice pa D.length pc, .slice (some ⟨qb, 0, none⟩) en en] rfl Hy3.out rfl rowT_st (by intro v hv; simp at hv; rcases hv with rfl | rfl | rfl <;> rfl) ?_
        intro W9 hr ha
        refine ⟨(fun h => by cases h), ?_⟩
        simp only [ap_s, ap_n, ls_z, ls_s]
        refine tr_end ?_
        exact ⟨rfl, yb, _, _, rfl, hr, ly, Hd3.out.apart ha yd, Hf3.out.apart ha yf, HB3.out.trans (ha.below ly)⟩
      · obtain ⟨W2, hw⟩ : ∃ u, u = W1.alloc (.cells #[.int .i64 0, .slice none 0 0, .slice none 0 0] 36) := ⟨_, rfl⟩
        obtain ⟨yb, hy⟩ : ∃ u, u = W1.heap.size := ⟨_, rfl⟩
        have hb : Below W1.heap.size W1 W2 := by rw [hw]; exact (Below.refl _ _).alloc (Nat.le_refl _) _
        have HB2 := Lib.hid (below_then HB1.out hb)
        have Hd2 := Lib.hid (Hd1.out.below hb)
        clear Hd1
        have Hy2 : Hid (RowAt W2 yb [.int .i64 0, .slice none 0 0, .slice none 0 0]) := by rw [hw]; exact RowAt.new _ [.int .i64 0, .slice none 0 0, .slice none 0 0] (by simp) _ hy.symm
        have HZy : Hid (W1.heap.size ≤ yb ∧ yb < W2.heap.size) := ⟨Nat.le_of_eq hy.symm, Hy2.out.lt⟩
        have hz2 : W1.heap.size ≤ W2.heap.size := hb.size
        refine tr_run (d := some 8) rfl rfl rfl (.pointer (some ⟨yb, 0, none⟩)) W2 (by rw [hw, hy]; simp [execOp, Act.eval, go_sem]) (fun _ => trivial) ?_
        simp only [ap_s, ap_n, ls_z, ls_s]
        clear hw hy hb
        obtain ⟨W3, hw⟩ : ∃ u, u = W2.alloc (.cells (madeCells #[.int .i64 0] en) 3) := ⟨_, rfl⟩
        obtain ⟨qb, hy⟩ : ∃ u, u = W2.heap.size := ⟨_, rfl⟩
        have hb : Below W2.heap.size W2 W3 := by rw [hw]; exact (Below.refl _ _).alloc (Nat.le_refl _) _
        have HB3 := Lib.hid (below_then HB2.out hb)
        have Hd3 := Lib.hid (Hd2.out.below hb)
        clear Hd2
        have Hy3 := Lib.hid (Hy2.out.below hb)
        clear Hy2
        have hv : OwnI W3 W2.heap.size (.slice (some ⟨qb, 0, none⟩) en en : Value) (List.replicate en 0) := by rw [hw, hy]; exact mk_own _ en HDl.out.2
        have Hf3 := Lib.hid (hv.mono (B := w3.heap.size) HB2.out.size)
        have HZf : Hid (∀ g, (.slice (some ⟨qb, 0, none⟩) en en : Value).ownBlock = some g → W2.heap.size ≤ g ∧ g < W3.heap.size) := hv.lt
        have hz3 : W2.heap.size ≤ W3.heap.size := hb.size
        refine tr_run (d := some 23) rfl rfl rfl (.slice (some ⟨qb, 0, none⟩) en en) W3 (by have hmk := Hmk.out; rw [hw, hy]; simp [execOp, Act.eval, go_sem, hmk]) (fun _ => trivial) ?_
        simp only [ap_s, ap_n, ls_z, ls_s]
        clear hw hy hb hv
        refine tr_q (d := some 24) rfl rfl rfl (.agg #[.int .i64 (n : Int), .slice pa D.length pc, .slice (some ⟨qb, 0, none⟩) en en]) (fun w => by simp [execOp, Act.eval, go_sem]) ?_
        simp only [ap_s, ap_n, ls_z, ls_s]
        have q1 := HZd.out
        have q2 := HZf.out
        have q3 := HZy.out
        have q0 : w3.heap.size ≤ w3.drew.heap.size := Nat.le_refl _
        have yd : (.slice pa D.length pc : Value).ownBlock ≠ some yb := fun e => by have := q1 yb e; omega
        have yf : (.slice (some ⟨qb, 0, none⟩) en en : Value).ownBlock ≠ some yb := fun e => by have := q2 yb e; omega
        have ly : w3.heap.size ≤ yb := by omega
        refine tr_rowst (d := none) rfl rfl rfl _ _ rfl yb rfl [.int .i64 0, .slice none 0 0, .slice none 0 0] [.int .i64 (n : Int), .slice pa D.length pc, .slice (some ⟨qb, 0, none⟩) en en] rfl Hy3.out rfl rowT_st (by intro v hv; simp at hv; rcases hv with rfl | rfl | rfl <;> rfl) ?_
        intro W9 hr ha
        refine ⟨(fun h => by cases h), ?_⟩
        simp only [ap_s, ap_n, ls_z, ls_s]
        refine tr_end ?_
        exact ⟨rfl, yb, _, _, rfl, hr, ly, Hd3.out.apart ha yd, Hf3.out.apart ha yf, HB3.out.trans (ha.below ly)⟩
    refine tr_fork ?_ ?_
    · obtain ⟨W1, hw⟩ : ∃ u, u = w3.drew.alloc (.cells (madeCells #[.int .i64 0] en) 3) := ⟨_, rfl⟩
      obtain ⟨qb, hy⟩ : ∃ u, u = w3.drew.heap.size := ⟨_, rfl⟩
      have hb : Below w3.drew.heap.size w3.drew W1 := by rw [hw]; exact (Below.refl _ _).alloc (Nat.le_refl _) _
      have HB1 := Lib.hid (below_then HB0.out hb)
      have hv : OwnI W1 w3.drew.heap.size (.slice (some ⟨qb, 0, none⟩) en en : Value) (List.replicate en 0) := by rw [hw, hy]; exact mk_own _ en HDl.out.2
      have Hf1 := Lib.hid (hv.mono (B := w3.heap.size) HB0.out.size)
      have HZf : Hid (∀ g, (.slice (some ⟨qb, 0, none⟩) en en : Value).ownBlock = some g → w3.drew.heap.size ≤ g ∧ g < W1.heap.size) := hv.lt
      have hz1 : w3.drew.heap.size ≤ W1.heap.size := hb.size
      refine tr_run (d := some 23) rfl rfl rfl (.slice (some ⟨qb, 0, none⟩) en en) W1 (by have hmk := Hmk.out; rw [hw, hy]; simp [execOp, Act.eval, go_sem, hmk]) (fun _ => trivial) ?_
      simp only [ap_s, ap_n, ls_z, ls_s]
      clear hw hy hb hv
      refine tr_fork ?_ ?_
      · refine tr_call (d := some 20) rfl rfl rfl ⟨_, Tryz.func57, by kernel_rfl, by kernel_rfl⟩ _ _ _ rfl rfl [.slice da dn dc] rfl (pclone_any _ D B0 _ (HL3.out.below HB1.out) HDl.out.1) ?_
        rintro e W2 ⟨vv, rfl, hv, hb⟩
        obtain ⟨pa, pc, rfl⟩ := hv.slice
        have HB2 := Lib.hid (below_then HB1.out hb)
        have Hf2 := Lib.hid (Hf1.out.below hb)
        clear Hf1
        have Hd2 := Lib.hid (hv.mono (B := w3.heap.size) HB1.out.size)
        have HZd : Hid (∀ g, (.slice pa D.length pc : Value).ownBlock = some g → W1.heap.size ≤ g ∧ g < W2.heap.size) := hv.lt
        have hz2 : W1.heap.size ≤ W2.heap.size := hb.size
        clear hv hb
        refine ⟨_, rfl, fun _ => trivial, ?_⟩
        simp only [ap_s, ap_n, ls_z, ls_s]
        refine tr_q (d := some 24) rfl rfl rfl (.agg #[.int .i64 (n : Int), .slice pa D.length pc, .slice (some ⟨qb, 0, none⟩) en en]) (fun w => by simp [execOp, Act.eval, go_sem]) ?_
        simp only [ap_s, ap_n, ls_z, ls_s]
        obtain ⟨W3, hw⟩ : ∃ u, u = W2.alloc (.cells #[.int .i64 0, .slice none 0 0, .slice none 0 0] 36) := ⟨_, rfl⟩
        obtain ⟨yb, hy⟩ : ∃ u, u = W2.heap.size := ⟨_, rfl⟩
        have hb : Below W2.heap.size W2 W3 := by rw [hw]; exact (Below.refl _ _).alloc (Nat.le_refl _) _
        have HB3 := Lib.hid (below_then HB2.out hb)
        have Hd3 := Lib.hid (Hd2.out.below hb)
        clear Hd2
        have Hf3 := Lib.hid (Hf2.out.below hb)
        clear Hf2
        have Hy3 : Hid (RowAt W3 yb [.int .i64 0, .slice none 0 0, .slice none 0 0]) := by rw [hw]; exact RowAt.new _ [.int .i64 0, .slice none 0 0, .slice none 0 0] (by simp) _ hy.symm
        have HZy : Hid (W2.heap.size ≤ yb ∧ yb < W3.heap.size) := ⟨Nat.le_of_eq hy.symm, Hy3.out.lt⟩
        have hz3 : W2.heap.size ≤ W3.heap.size := hb.size
        refine tr_run (d := some 8) rfl rfl rfl (.pointer (some ⟨yb, 0, none⟩)) W3 (by rw [hw, hy]; simp [execOp, Act.eval, go_sem]) (fun _ => trivial) ?_
        simp only [ap_s, ap_n, ls_z, ls_s]
        clear hw hy hb
        have q1 := HZd.out
        have q2 := HZf.out
        have q3 := HZy.out
        have q0 : w3.heap.size ≤ w3.drew.heap.size := Nat.le_refl _
        have yd : (.slice pa D.length pc : Value).ownBlock ≠ some yb := fun e => by have := q1 yb e; omega
        have yf : (.slice (some ⟨qb, 0, none⟩) en en : Value).ownBlock ≠ some yb := fun e => by have := q2 yb e; omega
        have ly : w3.heap.size ≤ yb := by omega
        refine tr_rowst (d := none) rfl rfl rfl _ _ rfl yb rfl [.int .i64 0, .slice none 0 0, .slice none 0 0] [.int .i64 (n : Int), .slice pa D.length pc, .slice (some ⟨qb, 0, none⟩) en en] rfl Hy3.out rfl rowT_st (by intro v hv; simp at hv; rcases hv with rfl | rfl | rfl <;> rfl) ?_
        intro W9 hr ha
        refine ⟨(fun h => by cases h), ?_⟩
        simp only [ap_s, ap_n, ls_z, ls_s]
        refine tr_end ?_
        exact ⟨rfl, yb, _, _, rfl, hr, ly, Hd3.out.apart ha yd, Hf3.out.apart ha yf, HB3.out.trans (ha.below ly)⟩
      · obtain ⟨W2, hw⟩ : ∃ u, u = W1.alloc (.cells #[.int .i64 0, .slice none 0 0, .slice none 0 0] 36) := ⟨_, rfl⟩
        obtain ⟨yb, hy⟩ : ∃ u, u = W1.heap.size := ⟨_, rfl⟩
        have hb : Below W1.heap.size W1 W2 := by rw [hw]; exact (Below.refl _ _).alloc (Nat.le_refl _) _
        have HB2 := Lib.hid (below_then HB1.out hb)
        have Hf2 := Lib.hid (Hf1.out.below hb)
        clear Hf1
        have Hy2 : Hid (RowAt W2 yb [.int .i64 0, .slice none 0 0, .slice none 0 0]) := by rw [hw]; exact RowAt.new _ [.int .i64 0, .slice none 0 0, .slice none 0 0] (by simp) _ hy.symm
        have HZy : Hid (W1.heap.size ≤ yb ∧ yb < W2.heap.size) := ⟨Nat.le_of_eq hy.symm, Hy2.out.lt⟩
        have hz2 : W1.heap.size ≤ W2.heap.size := hb.size
        refine tr_run (d := some 8) rfl rfl rfl (.pointer (some ⟨yb, 0, none⟩)) W2 (by rw [hw, hy]; simp [execOp, Act.eval, go_sem]) (fun _ => trivial) ?_
        simp only [ap_s, ap_n, ls_z, ls_s]
        clear hw hy hb
        refine tr_call (d := some 20) rfl rfl rfl ⟨_, Tryz.func57, by kernel_rfl, by kernel_rfl⟩ _ _ _ rfl rfl [.slice da dn dc] rfl (pclone_any _ D B0 _ (HL3.out.below HB2.out) HDl.out.1) ?_
        rintro e W3 ⟨vv, rfl, hv, hb⟩
        obtain ⟨pa, pc, rfl⟩ := hv.slice
        have HB3 := Lib.hid (below_then HB2.out hb)
        have Hf3 := Lib.hid (Hf2.out.below hb)
        clear Hf2
        have Hy3 := Lib.hid (Hy2.out.below hb)
        clear Hy2
        have Hd3 := Lib.hid (hv.mono (B := w3.heap.size) HB2.out.size)
        have HZd : Hid (∀ g, (.slice pa D.length pc : Value).ownBlock = some g → W2.heap.size ≤ g ∧ g < W3.heap.size) := hv.lt
        have hz3 : W2.heap.size ≤ W3.heap.size := hb.size
        clear hv hb
        refine ⟨_, rfl, fun _ => trivial, ?_⟩
        simp only [ap_s, ap_n, ls_z, ls_s]
        refine tr_q (d := some 24) rfl rfl rfl (.agg #[.int .i64 (n : Int), .slice pa D.length pc, .slice (some ⟨qb, 0, none⟩) en en]) (fun w => by simp [execOp, Act.eval, go_sem]) ?_
        simp only [ap_s, ap_n, ls_z, ls_s]
        have q1 := HZd.out
        have q2 := HZf.out
        have q3 := HZy.out
        have q0 : w3.heap.size ≤ w3.drew.heap.size := Nat.le_refl _
        have yd : (.slice pa D.length pc : Value).ownBlock ≠ some yb := fun e => by have := q1 yb e; omega
        have yf : (.slice (some ⟨qb, 0, none⟩) en en : Value).ownBlock ≠ some yb := fun e => by have := q2 yb e; omega
        have ly : w3.heap.size ≤ yb := by omega
        refine tr_rowst (d := none) rfl rfl rfl _ _ rfl yb rfl [.int .i64 0, .slice none 0 0, .slice none 0 0] [.int .i64 (n : Int), .slice pa D.length pc, .slice (some ⟨qb, 0, none⟩) en en] rfl Hy3.out rfl rowT_st (by intro v hv; simp at hv; rcases hv with rfl | rfl | rfl <;> rfl) ?_
        intro W9 hr ha
        refine ⟨(fun h => by cases h), ?_⟩
        simp only [ap_s, ap_n, ls_z, ls_s]
        refine tr_end ?_
        exact ⟨rfl, yb, _, _, rfl, hr, ly, Hd3.out.apart ha yd, Hf3.out.apart ha yf, HB3.out.trans (ha.below ly)⟩
    · obtain ⟨W1, hw⟩ : ∃ u, u = w3.drew.alloc (.cells #[.int .i64 0, .slice none 0 0, .slice none 0 0] 36) := ⟨_, rfl⟩
      obtain ⟨yb, hy⟩ : ∃ u, u = w3.drew.heap.size := ⟨_, rfl⟩
      have hb : Below w3.drew.heap.size w3.drew W1 := by rw [hw]; exact (Below.refl _ _).alloc (Nat.le_refl _) _
      have HB1 := Lib.hid (below_then HB0.out hb)
      have Hy1 : Hid (RowAt W1 yb [.int .i64 0, .slice none 0 0, .slice none 0 0]) := by rw [hw]; exact RowAt.new _ [.int .i64 0, .slice none 0 0, .slice none 0 0] (by simp) _ hy.symm
      have HZy : Hid (w3.drew.heap.size ≤ yb ∧ yb < W1.heap.size) := ⟨Nat.le_of_eq hy.symm, Hy1.out.lt⟩
      have hz1 : w3.drew.heap.size ≤ W1.heap.size := hb.size
      refine tr_run (d := some 8) rfl rfl rfl (.pointer (some ⟨yb, 0, none⟩)) W1 (by rw [hw, hy]; simp [execOp, Act.eval, go_sem]) (fun _ => trivial) ?_
      simp only [ap_s, ap_n, ls_z, ls_s]
      clear hw hy hb
      refine tr_fork ?_ ?_
      · refine tr_call (d := some 20) rfl rfl rfl ⟨_, Tryz.func57, by kernel_rfl, by kernel_rfl⟩ _ _ _ rfl rfl [.slice da dn dc] rfl (pclone_any _ D B0 _ (HL3.out.below HB1.out) HDl.out.1) ?_
        rintro e W2 ⟨vv, rfl, hv, hb⟩
        obtain ⟨pa, pc, rfl⟩ := hv.slice
        have HB2 := Lib.hid (below_then HB1.out hb)
        have Hy2 := Lib.hid (Hy1.out.below hb)
        clear Hy1
        have Hd2 := Lib.hid (hv.mono (B := w3.heap.size) HB1.out.size)
        have HZd : Hid (∀ g, (.slice pa D.length pc : Value).ownBlock = some g → W1.heap.size ≤ g ∧ g < W2.heap.size) := hv.lt
        have hz2 : W1.heap.size ≤ W2.heap.size := hb.size
        clear hv hb
        refine ⟨_, rfl, fun _ => trivial, ?_⟩
        simp only [ap_s, ap_n, ls_z, ls_s]
        obtain ⟨W3, hw⟩ : ∃ u, u = W2.alloc (.cells (madeCells #[.int .i64 0] en) 3) := ⟨_, rfl⟩
        obtain ⟨qb, hy⟩ : ∃ u, u = W2.heap.size := ⟨_, rfl⟩
        have hb : Below W2.heap.size W2 W3 := by rw [hw]; exact (Below.refl _ _).alloc (Nat.le_refl _) _
        have HB3 := Lib.hid (below_then HB2.out hb)
        have Hd3 := Lib.hid (Hd2.out.below hb)
        clear Hd2
        have Hy3 := Lib.hid (Hy2.out.below hb)
        clear Hy2
        have hv : OwnI W3 W2.heap.size (.slice (some ⟨qb, 0, none⟩) en en : Value) (List.replicate en 0) := by rw [hw, hy]; exact mk_own _ en HDl.out.2
        have Hf3 := Lib.hid (hv.mono (B := w3.heap.size) HB2.out.size)
        have HZf : Hid (∀ g, (.slice (some ⟨qb, 0, none⟩) en en : Value).ownBlock = some g → W2.heap.size ≤ g ∧ g < W3.heap.size) := hv.lt
        have hz3 : W2.heap.size ≤ W3.heap.size := hb.size
        refine tr_run (d := some 23) rfl rfl rfl (.slice (some ⟨qb, 0, none⟩) en en) W3 (by have hmk := Hmk.out; rw [hw, hy]; simp [execOp, Act.eval, go_sem, hmk]) (fun _ => trivial) ?_
        simp only [ap_s, ap_n, ls_z, ls_s]
        clear hw hy hb hv
        refine tr_q (d := some 24) rfl rfl rfl (.agg #[.int .i64 (n : Int), .slice pa D.length pc, .slice (some ⟨qb, 0, none⟩) en en]) (fun w => by simp [execOp, Act.eval, go_sem]) ?_
        simp only [ap_s, ap_n, ls_z, ls_s]
        have q1 := HZd.out
        have q2 := HZf.out
        have q3 := HZy.out
        have q0 : w3.heap.size ≤ w3.drew.heap.size := Nat.le_refl _
        have yd : (.slice pa D.length pc : Value).ownBlock ≠ some yb := fun e => by have := q1 yb e; omega
        have yf : (.slice (some ⟨qb, 0, none⟩) en en : Value).ownBlock ≠ some yb := fun e => by have := q2 yb e; omega
        have ly : w3.heap.size ≤ yb := by omega
        refine tr_rowst (d := none) rfl rfl rfl _ _ rfl yb rfl [.int .i64 0, .slice none 0 0, .slice none 0 0] [.int .i64 (n : Int), .slice pa D.length pc, .slice (some ⟨qb, 0, none⟩) en en] rfl Hy3.out rfl rowT_st (by intro v hv; simp at hv; rcases hv with rfl | rfl | rfl <;> rfl) ?_
        intro W9 hr ha
        refine ⟨(fun h => by cases h), ?_⟩
        simp only [ap_s, ap_n, ls_z, ls_s]
        refine tr_end ?_
        exact ⟨rfl, yb, _, _, rfl, hr, ly, Hd3.out.apart ha yd, Hf3.out.apart ha yf, HB3.out.trans (ha.below ly)⟩
      · obtain ⟨W2, hw⟩ : ∃ u, u = W1.alloc (.cells (madeCells #[.int .i64 0] en) 3) := ⟨_, rfl⟩
        obtain ⟨qb, hy⟩ : ∃ u, u = W1.heap.size := ⟨_, rfl⟩
        have hb : Below W1.heap.size W1 W2 := by rw [hw]; exact (Below.refl _ _).alloc (Nat.le_refl _) _
        have HB2 := Lib.hid (below_then HB1.out hb)
        have Hy2 := Lib.hid (Hy1.out.below hb)
        clear Hy1
        have hv : OwnI W2 W1.heap.size (.slice (some ⟨qb, 0, none⟩) en en : Value) (List.replicate en 0) := by rw [hw, hy]; exact mk_own _ en HDl.out.2
        have Hf2 := Lib.hid (hv.mono (B := w3.heap.size) HB1.out.size)
        have HZf : Hid (∀ g, (.slice (some ⟨qb, 0, none⟩) en en : Value).ownBlock = some g → W1.heap.size ≤ g ∧ g < W2.heap.size) := hv.lt
        have hz2 : W1.heap.size ≤ W2.heap.size := hb.size
        refine tr_run (d := some 23) rfl rfl rfl (.slice (some ⟨qb, 0, none⟩) en en) W2 (by have hmk := Hmk.out; rw [hw, hy]; simp [execOp, Act.eval, go_sem, hmk]) (fun _ => trivial) ?_
        simp only [ap_s, ap_n, ls_z, ls_s]
        clear hw hy hb hv
        refine tr_call (d := some 20) rfl rfl rfl ⟨_, Tryz.func57, by kernel_rfl, by kernel_rfl⟩ _ _ _ rfl rfl [.slice da dn dc] rfl (pclone_any _ D B0 _ (HL3.out.below HB2.out) HDl.out.1) ?_
        rintro e W3 ⟨vv, rfl, hv, hb⟩
        obtain ⟨pa, pc, rfl⟩ := hv.slice
        have HB3 := Lib.hid (below_then HB2.out hb)
        have Hf3 := Lib.hid (Hf2.out.below hb)
        clear Hf2
        have Hy3 := Lib.hid (Hy2.out.below hb)
        clear Hy2
        have Hd3 := Lib.hid (hv.mono (B := w3.heap.size) HB2.out.size)
        have HZd : Hid (∀ g, (.slice pa D.length pc : Value).ownBlock = some g → W2.heap.size ≤ g ∧ g < W3.heap.size) := hv.lt
        have hz3 : W2.heap.size ≤ W3.heap.size := hb.size
        clear hv hb
        refine ⟨_, rfl, fun _ => trivial, ?_⟩
        simp only [ap_s, ap_n, ls_z, ls_s]
        refine tr_q (d := some 24) rfl rfl rfl (.agg #[.int .i64 (n : Int), .slice pa D.length pc, .slice (some ⟨qb, 0, none⟩) en en]) (fun w => by simp [execOp, Act.eval, go_sem]) ?_
        simp only [ap_s, ap_n, ls_z, ls_s]
        have q1 := HZd.out
        have q2 := HZf.out
        have q3 := HZy.out
        have q0 : w3.heap.size ≤ w3.drew.heap.size := Nat.le_refl _
        have yd : (.slice pa D.length pc : Value).ownBlock ≠ some yb := fun e => by have := q1 yb e; omega
        have yf : (.slice (some ⟨qb, 0, none⟩) en en : Value).ownBlock ≠ some yb := fun e => by have := q2 yb e; omega
        have ly : w3.heap.size ≤ yb := by omega
        refine tr_rowst (d := none) rfl rfl rfl _ _ rfl yb rfl [.int .i64 0, .slice none 0 0, .slice none 0 0] [.int .i64 (n : Int), .slice pa D.length pc, .slice (some ⟨qb, 0, none⟩) en en] rfl Hy3.out rfl rowT_st (by intro v hv; simp at hv; rcases hv with rfl | rfl | rfl <;> rfl) ?_
        intro W9 hr ha
        refine ⟨(fun h => by cases h), ?_⟩
        simp only [ap_s, ap_n, ls_z, ls_s]
        refine tr_end ?_
        exact ⟨rfl, yb, _, _, rfl, hr, ly, Hd3.out.apart ha yd, Hf3.out.apart ha yf, HB3.out.trans (ha.below ly)⟩
  rintro a w5 ⟨yb, v31, v34, rfl, hM⟩
  simp only [List.cons_append, List.nil_append]
  rw [HN.out] at hM
  obtain ⟨ya, yn, yc, rfl⟩ : ∃ a m c, v31 = .slice a m c := by obtain ⟨a, c, h⟩ := hM.od.slice; exact ⟨a, _, c, h⟩
  obtain ⟨za, zn, zc, rfl⟩ : ∃ a m c, v34 = .slice a m c := by obtain ⟨a, c, h⟩ := hM.of.slice; exact ⟨a, _, c, h⟩
  have HCk := Lib.hid (pcheck_any n HFix.out.1 _ _ D _ w3.heap.size w5 (HCr3.out.1.below hM.be HCr3.out.2) (Nat.lt_of_lt_of_le HCr3.out.2 hM.be.size) HFix.out.2.1 hM.od hM.of)
  unfold stv at HCk
  have y0 := hM.row.at 0 rfl
  have y1 := hM.row.at 1 rfl
  have y2 := hM.row.at 2 rfl
  have HM := Lib.hid hM
  clear hM
  go_wp2_with fail
  clear y0 y1 y2
  refine HCk.out.mono ?_
  rintro e w6 ⟨rfl, hb6⟩
  have hY6 := HM.out.row.below hb6
  have hR6 := (HR3.out.below HM.out.be).below hb6
  have y0 := hY6.at 0 rfl
  have y1 := hY6.at 1 rfl
  have y2 := hY6.at 2 rfl
  have r0 := hR6.at 0 rfl
  have r1 := hR6.at 1 rfl
  have r2 := hR6.at 2 rfl
  have f0 := hR6.2.2 0 (by simp)
  have f1 := hR6.2.2 1 (by simp)
  have f2 := hR6.2.2 2 (by simp)
  obtain ⟨p1, p2, p3⟩ := set3 hR6 _ rfl w.heap.size (a0 := .int .i64 (n : Int)) (a1 := .slice ya yn yc) (a2 := .slice za zn zc) (Nat.le_refl _)
  have hwl : w.heap.size < w3.heap.size := HR3.out.lt
  have HE := Lib.hid (And.intro p1 (And.intro (((HM.out.od.below hb6).of_same2 (fun g hg => p2 g (by have := ((HM.out.od.below hb6).lt g hg).1; omega))).mono (B := w.heap.size) (by omega)) (And.intro (((HM.out.of.below hb6).of_same2 (fun g hg => p2 g (by have := ((HM.out.of.below hb6).lt g hg).1; omega))).mono (B := w.heap.size) (by omega)) ((below_then (HB3.out.trans (HM.out.be.mono (by omega))) hb6).trans p3))))
  clear hb6 hY6 hR6 p1 p2 p3 hwl HM HCk HR3 HB3
  go_wp2_with fail
  exact ret_row2 rfl _ [.int .i64 (n : Int), .slice ya yn yc, .slice za zn zc] _ HE.out.1 rowT_st rfl rfl rfl ⟨_, _, rfl, HE.out.2.1, HE.out.2.2.1, HE.out.2.2.2⟩
set_option maxRecDepth 100000 in
set_option maxHeartbeats 16000000 in
theorem prest_any (n : Nat) (hn : Fq n) (d : Int) (hd : 0 ≤ d ∧ d ≤ 16777216) (w : World) (hcr : Crn w) (hg : 0 < w.heap.size) :
    Calls Tryz.prog 36 #[.int .i64 n, .int .i64 d] w fun e w' => ∃ dv' fv', e = .returned (.tuple #[stv n dv' fv', .int .i64 0]) ∧ OwnI w' w.heap.size dv' (List.replicate (10 * n * n + 2) d) ∧ OwnI w' w.heap.size fv' (List.replicate (edgesN n).length 0) ∧ Below w.heap.size w w' := by
  obtain ⟨w1, hw1⟩ : ∃ u, u = (w.alloc (.cells #[.int .i64 0, .slice none 0 0, .slice none 0 0] 36)).alloc (.cells #[.int .i64 d] 3) := ⟨_, rfl⟩
  have hb1 : Below w.heap.size w w1 := by rw [hw1]; exact ((Below.refl _ _).alloc (Nat.le_refl _) _).alloc (by simp) _
  have hR1 : RowAt w1 w.heap.size [.int .i64 0, .slice none 0 0, .slice none 0 0] := by rw [hw1]; exact (RowAt.new _ [.int .i64 0, .slice none 0 0, .slice none 0 0] (by simp) _ rfl).alloc _
  have hX1 : RowAt w1 (w.heap.size + 1) [.int .i64 d] := by rw [hw1]; exact RowAt.new _ [.int .i64 d] (by simp) _ (by simp)
  obtain ⟨N, hN⟩ : ∃ N, N = 10 * n * n + 2 := ⟨_, rfl⟩
  have hNb : 1 ≤ N ∧ N ≤ 1000000 := by
    have h8 : n ≤ 8 := hn.2
    have := Nat.mul_le_mul (Nat.mul_le_mul_left 10 h8) h8
    omega
  have HCo := Lib.hid (pcount_any n hn w1)
  have HRp := Lib.hid (prepeat_any (w.heap.size + 1) d N hNb w1 (hX1.at 0 rfl))
  have hok : SOk n (List.replicate N d) (List.replicate (edgesN n).length 0) := ⟨by simp [hN], by simp, fun x hx => by rw [List.mem_replicate] at hx; omega, fun x hx => by rw [List.mem_replicate] at hx; omega⟩
  have HFf := Lib.hid (fun dv w2 (hb : Below w1.heap.size w1 w2) (ho : OwnI w2 0 dv (List.replicate N d)) => pfield_any n hn dv _ 0 w2 ((hcr.below hb1 hg).below hb (Nat.lt_of_lt_of_le hg hb1.size)) (Nat.lt_of_lt_of_le (Nat.lt_of_lt_of_le hg hb1.size) hb.size) hok ho)
  rw [← hN] at HCo ⊢
  have HB1 := Lib.hid hb1
  have HR1 := Lib.hid hR1
  have Hw1 := Lib.hid hw1
  clear hn hcr hg hb1 hR1 hX1 hw1 hN hok hNb
  go_enter Tryz.func36, Tryz.ntmps36
  go_wp2_with fail
  rw [← Hw1.out]
  refine HCo.out.mono ?_
  rintro e w2 ⟨rfl, rfl⟩
  go_wp2_with fail
  refine HRp.out.mono ?_
  rintro e w3 ⟨v, rfl, hv, hb3⟩
  have HF := Lib.hid (HFf.out v w3 hb3 (hv.mono (Nat.zero_le _)))
  have HR3 := Lib.hid (HR1.out.below hb3)
  have HB3 := Lib.hid (below_then HB1.out hb3)
  clear hv hb3 HFf HRp HCo HR1 HB1
  go_wp2_with fail
  refine HF.out.mono ?_
  rintro e w4 ⟨dv, fv, rfl, h1, h2, hb4⟩
  obtain ⟨xa, xn, xc, rfl⟩ : ∃ a m c, dv = .slice a m c := by obtain ⟨a, c, h⟩ := h1.slice; exact ⟨a, _, c, h⟩
  obtain ⟨ya, yn, yc, rfl⟩ : ∃ a m c, fv = .slice a m c := by obtain ⟨a, c, h⟩ := h2.slice; exact ⟨a, _, c, h⟩
  unfold stv
  have hR4 := HR3.out.below hb4
  have r0 := hR4.at 0 rfl
  have r1 := hR4.at 1 rfl
  have r2 := hR4.at 2 rfl
  have f0 := hR4.2.2 0 (by simp)
  have f1 := hR4.2.2 1 (by simp)
  have f2 := hR4.2.2 2 (by simp)
  obtain ⟨p1, p2, p3⟩ := set3 hR4 _ rfl w.heap.size (a0 := .int .i64 (n : Int)) (a1 := .slice xa xn xc) (a2 := .slice ya yn yc) (Nat.le_refl _)
  have hwl : w.heap.size < w3.heap.size := HR3.out.lt
  have HE := Lib.hid (And.intro p1 (And.intro ((h1.of_same2 (fun g hg => p2 g (by have := (h1.lt g hg).1; omega))).mono (B := w.heap.size) (by omega)) (And.intro ((h2.of_same2 (fun g hg => p2 g (by have := (h2.lt g hg).1; omega))).mono (B := w.heap.size) (by omega)) ((below_then HB3.out hb4).trans p3))))
  clear hb4 hR4 p1 p2 p3 hwl h1 h2 HF HR3 HB3
  go_wp2_with fail
  exact ret_row2 rfl _ [.int .i64 (n : Int), .slice xa xn xc, .slice ya yn yc] _ HE.out.1 rowT_st rfl rfl rfl ⟨_, _, rfl, HE.out.2.1, HE.out.2.2.1, HE.out.2.2.2⟩
end Go.Proofs.YtkpgciimhjkajaaGreatDoor
/- The program's cycle: Check. -/
namespace Go.Proofs.YtkpgciimhjkajaaGreatDoor
open Go Go.RowKit
theorem rowT_se : RowT 29 56 := ⟨by kernel_rfl, _, Tryz.underlying29, rfl⟩
structure SeOk (S : List Value) (f0 st pe wi de sm an we ro wk sp fr sl mv dp : Int) : Prop where
  len : S.length = 56
  one : ∀ v ∈ S, v.oneCell' = true
  c0 : S[0]? = some (.int .i64 f0)
  c1 : S[1]? = some (.int .i64 st)
  c2 : S[2]? = some (.int .i64 pe)
  c3 : S[3]? = some (.int .i64 wi)
  c4 : S[4]? = some (.int .i64 de)
  c5 : S[5]? = some (.int .i64 sm)
  c6 : S[6]? = some (.int .i64 an)
  c7 : S[7]? = some (.int .i64 we)
  c8 : S[8]? = some (.int .i64 ro)
  c9 : S[9]? = some (.int .i64 wk)
  c10 : S[10]? = some (.int .i64 sp)
  c11 : S[11]? = some (.int .i64 fr)
  c12 : S[12]? = some (.int .i64 sl)
  c13 : S[13]? = some (.int .i64 mv)
  c14 : S[14]? = some (.int .i64 dp)
def inR (x lo hi : Int) : Bool := decide (lo ≤ x ∧ x ≤ hi)
def okP (f0 sm an : Int) : Bool := inR f0 1 8 && inR sm 0 1000000 && inR an 1 1000000
def okC (st pe wi de we ro wk sp dp : Int) : Bool := inR st 0 52595999 && inR pe 1 100000 && inR wi 0 100000 && inR de 0 100000 && inR we 1 100 && inR ro 0 40 && inR wk 1 16 && inR sp 0 400 && inR dp 0 4194304
def errN (b : Bool) : Value := .int .i64 (if b then 0 else 1)
def okS (f0 st pe wi de sm an we ro wk sp fr sl mv dp : Int) : Bool := okP f0 sm an && okC st pe wi de we ro wk sp dp && !outB [fr, sl, mv] 1 4
theorem pwithin46 (v lo hi : Int) (w : World) : Calls Tryz.prog 46 #[.int .i64 v, .int .i64 lo, .int .i64 hi] w fun e w' => e = .returned (.bool (inR v lo hi)) ∧ w' = w := by
  by_cases h1 : lo ≤ v <;> by_cases h2 : v ≤ hi <;>
  (go_enter Tryz.func46, Tryz.ntmps46
   go_wp2_with fail
   go_ret
   simp [inR, h1, h2])
theorem pwithin30 (v lo hi : Int) (w : World) : Calls Tryz.prog 30 #[.int .i64 v, .int .i64 lo, .int .i64 hi] w fun e w' => e = .returned (.bool (inR v lo hi)) ∧ w' = w := by
  by_cases h1 : lo ≤ v <;> by_cases h2 : v ≤ hi <;>
  (go_enter Tryz.func30, Tryz.ntmps30
   go_wp2_with fail
   go_ret
   simp [inR, h1, h2])
set_option maxHeartbeats 4000000 in
theorem pprior_any (S : List Value) (f0 st pe wi de sm an we ro wk sp fr sl mv dp : Int) (h : SeOk S f0 st pe wi de sm an we ro wk sp fr sl mv dp) (w : World) :
    Calls Tryz.prog 29 #[.agg S.toArray] w fun e w' => e = .returned (.agg #[.int .i64 f0, .int .i64 sm, .int .i64 an]) ∧ Below w.heap.size w w' := by
  have hR : RowAt ((w.alloc (.cells S.toArray 29)).alloc (.cells #[.int .i64 0, .int .i64 0, .int .i64 0] 85)) w.heap.size S := (RowAt.new w S (by rw [h.len]; omega) _ rfl).alloc _
  have c0 := hR.at 0 h.c0
  have c5 := hR.at 5 h.c5
  have c6 := hR.at 6 h.c6
  have hP : RowAt ((w.alloc (.cells S.toArray 29)).alloc (.cells #[.int .i64 f0, .int .i64 sm, .int .i64 an] 85)) (w.heap.size + 1) [.int .i64 f0, .int .i64 sm, .int .i64 an] := RowAt.new _ [.int .i64 f0, .int .i64 sm, .int .i64 an] (by simp) _ (by simp)
  have HE : Hid (RowAt ((w.alloc (.cells S.toArray 29)).alloc (.cells #[.int .i64 f0, .int .i64 sm, .int .i64 an] 85)) (w.heap.size + 1) [.int .i64 f0, .int .i64 sm, .int .i64 an] ∧ Below w.heap.size w ((w.alloc (.cells S.toArray 29)).alloc (.cells #[.int .i64 f0, .int .i64 sm, .int .i64 an] 85))) := ⟨hP, ((Below.refl w.heap.size w).alloc (Nat.le_refl _) _).alloc (by simp) _⟩
  clear hR hP h
  go_enter Tryz.func29, Tryz.ntmps29
  go_wp2_with fail
  exact ret_row rfl _ [.int .i64 f0, .int .i64 sm, .int .i64 an] HE.out.1 ⟨by kernel_rfl, _, Tryz.underlying85, rfl⟩ rfl rfl ⟨rfl, HE.out.2⟩
set_option maxHeartbeats 4000000 in
theorem pprec_any (f0 sm an : Int) (w : World) : Calls Tryz.prog 28 #[.agg #[.int .i64 f0, .int .i64 sm, .int .i64 an]] w fun e w' => e = .returned (errN (okP f0 sm an)) ∧ Below w.heap.size w w' := by
  have hR : RowAt (w.alloc (.cells #[.int .i64 f0, .int .i64 sm, .int .i64 an] 85)) w.heap.size [.int .i64 f0, .int .i64 sm, .int .i64 an] := RowAt.new w [.int .i64 f0, .int .i64 sm, .int .i64 an] (by simp) _ rfl
  have c0 := hR.at 0 rfl
  have c1 := hR.at 1 rfl
  have c2 := hR.at 2 rfl
  have HB : Hid (Below w.heap.size w (w.alloc (.cells #[.int .i64 f0, .int .i64 sm, .int .i64 an] 85))) := (Below.refl _ _).alloc (Nat.le_refl _) _
  clear hR
  unfold okP
  obtain ⟨b1, hb1⟩ : ∃ b, b = inR f0 1 8 := ⟨_, rfl⟩
  have HW1 : Hid (∀ w, Calls Tryz.prog 46 #[.int .i64 f0, .int .i64 1, .int .i64 8] w fun e w' => e = .returned (.bool b1) ∧ w' = w) := by rw [hb1]; exact fun w => pwithin46 f0 1 8 w
  obtain ⟨b2, hb2⟩ : ∃ b, b = inR sm 0 1000000 := ⟨_, rfl⟩
  have HW2 : Hid (∀ w, Calls Tryz.prog 46 #[.int .i64 sm, .int .i64 0, .int .i64 1000000] w fun e w' => e = .returned (.bool b2) ∧ w' = w) := by rw [hb2]; exact fun w => pwithin46 sm 0 1000000 w
  obtain ⟨b3, hb3⟩ : ∃ b, b = inR an 1 1000000 := ⟨_, rfl⟩
  have HW3 : Hid (∀ w, Calls Tryz.prog 46 #[.int .i64 an, .int .i64 1, .int .i64 1000000] w fun e w' => e = .returned (.bool b3) ∧ w' = w) := by rw [hb3]; exact fun w => pwithin46 an 1 1000000 w
  rw [← hb1, ← hb2, ← hb3]
  clear hb1 hb2 hb3
  go_enter Tryz.func28, Tryz.ntmps28
  cases b1 with
  | false =>
    go_wp2_with fail
    refine (HW1.out _).mono ?_
    rintro e w' ⟨rfl, rfl⟩
    go_wp2_with fail
    go_ret
    exact ⟨rfl, HB.out⟩
  | true =>
    cases b2 with
    | false =>
      go_wp2_with fail
      refine (HW1.out _).mono ?_
      rintro e w' ⟨rfl, rfl⟩
      go_wp2_with fail
      refine (HW2.out _).mono ?_
      rintro e w' ⟨rfl, rfl⟩
      go_wp2_with fail
      go_ret
      exact ⟨rfl, HB.out⟩
    | true =>
      cases b3 with
      | false =>
        go_wp2_with fail
        refine (HW1.out _).mono ?_
        rintro e w' ⟨rfl, rfl⟩
        go_wp2_with fail
        refine (HW2.out _).mono ?_
        rintro e w' ⟨rfl, rfl⟩
        go_wp2_with fail
        refine (HW3.out _).mono ?_
        rintro e w' ⟨rfl, rfl⟩
        go_wp2_with fail
        go_ret
        exact ⟨rfl, HB.out⟩
      | true =>
        go_wp2_with fail
        refine (HW1.out _).mono ?_
        rintro e w' ⟨rfl, rfl⟩
        go_wp2_with fail
        refine (HW2.out _).mono ?_
        rintro e w' ⟨rfl, rfl⟩
        go_wp2_with fail
        refine (HW3.out _).mono ?_
        rintro e w' ⟨rfl, rfl⟩
        go_wp2_with fail
        go_ret
        exact ⟨rfl, HB.out⟩
set_option maxRecDepth 100000 in
set_option maxHeartbeats 16000000 in
theorem pcycheck_any (S : List Value) (f0 st pe wi de sm an we ro wk sp fr sl mv dp : Int) (h : SeOk S f0 st pe wi de sm an we ro wk sp fr sl mv dp) (w : World) :
    Calls Tryz.prog 9 #[.agg S.toArray] w fun e w' => e = .returned (errN (okS f0 st pe wi de sm an we ro wk sp fr sl mv dp)) ∧ Below w.heap.size w w' := by
  have hR : RowAt (w.alloc (.cells S.toArray 29)) w.heap.size S := RowAt.new w S (by rw [h.len]; omega) _ rfl
  obtain ⟨w1, hw1⟩ : ∃ u, u = w.alloc (.cells S.toArray 29) := ⟨_, rfl⟩
  rw [← hw1] at hR
  have hb1 : Below w.heap.size w w1 := by rw [hw1]; exact (Below.refl _ _).alloc (Nat.le_refl _) _
  have HPr := Lib.hid (pprior_any S f0 st pe wi de sm an we ro wk sp fr sl mv dp h w1)
  have HPc := Lib.hid (fun w' => pprec_any f0 sm an w')
  have HR := Lib.hid hR
  have HS := Lib.hid h
  have HB1 := Lib.hid hb1
  have Hw1 := Lib.hid hw1
  clear hR hb1 hw1
  unfold okS okC
  obtain ⟨b1, hb1⟩ : ∃ b, b = inR st 0 52595999 := ⟨_, rfl⟩
  have HW1 : Hid (∀ w, Calls Tryz.prog 30 #[.int .i64 st, .int .i64 0, .int .i64 52595999] w fun e w' => e = .returned (.bool b1) ∧ w' = w) := by rw [hb1]; exact fun w => pwithin30 st 0 52595999 w
  obtain ⟨b2, hb2⟩ : ∃ b, b = inR pe 1 100000 := ⟨_, rfl⟩
  have HW2 : Hid (∀ w, Calls Tryz.prog 30 #[.int .i64 pe, .int .i64 1, .int .i64 100000] w fun e w' => e = .returned (.bool b2) ∧ w' = w) := by rw [hb2]; exact fun w => pwithin30 pe 1 100000 w
  obtain ⟨b3, hb3⟩ : ∃ b, b = inR wi 0 100000 := ⟨_, rfl⟩
  have HW3 : Hid (∀ w, Calls Tryz.prog 30 #[.int .i64 wi, .int .i64 0, .int .i64 100000] w fun e w' => e = .returned (.bool b3) ∧ w' = w) := by rw [hb3]; exact fun w => pwithin30 wi 0 100000 w
  obtain ⟨b4, hb4⟩ : ∃ b, b = inR de 0 100000 := ⟨_, rfl⟩
  have HW4 : Hid (∀ w, Calls Tryz.prog 30 #[.int .i64 de, .int .i64 0, .int .i64 100000] w fun e w' => e = .returned (.bool b4) ∧ w' = w) := by rw [hb4]; exact fun w => pwithin30 de 0 100000 w
  obtain ⟨b5, hb5⟩ : ∃ b, b = inR we 1 100 := ⟨_, rfl⟩
  have HW5 : Hid (∀ w, Calls Tryz.prog 30 #[.int .i64 we, .int .i64 1, .int .i64 100] w fun e w' => e = .returned (.bool b5) ∧ w' = w) := by rw [hb5]; exact fun w => pwithin30 we 1 100 w
  obtain ⟨b6, hb6⟩ : ∃ b, b = inR ro 0 40 := ⟨_, rfl⟩
  have HW6 : Hid (∀ w, Calls Tryz.prog 30 #[.int .i64 ro, .int .i64 0, .int .i64 40] w fun e w' => e = .returned (.bool b6) ∧ w' = w) := by rw [hb6]; exact fun w => pwithin30 ro 0 40 w
  obtain ⟨b7, hb7⟩ : ∃ b, b = inR wk 1 16 := ⟨_, rfl⟩
  have HW7 : Hid (∀ w, Calls Tryz.prog 30 #[.int .i64 wk, .int .i64 1, .int .i64 16] w fun e w' => e = .returned (.bool b7) ∧ w' = w) := by rw [hb7]; exact fun w => pwithin30 wk 1 16 w
  obtain ⟨b8, hb8⟩ : ∃ b, b = inR sp 0 400 := ⟨_, rfl⟩
  have HW8 : Hid (∀ w, Calls Tryz.prog 30 #[.int .i64 sp, .int .i64 0, .int .i64 400] w fun e w' => e = .returned (.bool b8) ∧ w' = w) := by rw [hb8]; exact fun w => pwithin30 sp 0 400 w
  obtain ⟨b9, hb9⟩ : ∃ b, b = inR dp 0 4194304 := ⟨_, rfl⟩
  have HW9 : Hid (∀ w, Calls Tryz.prog 30 #[.int .i64 dp, .int .i64 0, .int .i64 4194304] w fun e w' => e = .returned (.bool b9) ∧ w' = w) := by rw [hb9]; exact fun w => pwithin30 dp 0 4194304 w
  rw [← hb1, ← hb2, ← hb3, ← hb4, ← hb5, ← hb6, ← hb7, ← hb8, ← hb9]
  clear hb1 hb2 hb3 hb4 hb5 hb6 hb7 hb8 hb9
  obtain ⟨b0, hb0⟩ : ∃ b, b = okP f0 sm an := ⟨_, rfl⟩
  rw [← hb0] at HPc ⊢
  clear hb0 h
  go_enter Tryz.func9, Tryz.ntmps9
  go_upto_region 1 with fail
  rw [← Hw1.out]
  go_wp2_with (refine row_load rfl _ rfl _ rfl _ HR.out (by rw [HS.out.len]; exact rowT_se) ?_)
  refine HPr.out.mono ?_
  rintro e w2 ⟨rfl, hb2⟩
  have HR2 := Lib.hid (HR.out.below hb2)
  have HB2 := Lib.hid (below_then HB1.out hb2)
  clear hb2 HPr HR HB1
  go_wp2_with fail
  refine (HPc.out _).mono ?_
  rintro e w3 ⟨he, hb3⟩
  have HR3 := Lib.hid (HR2.out.below hb3)
  have HB3 := Lib.hid (below_then HB2.out hb3)
  clear hb3 HPc HR2 HB2
  cases b0 with
  | false =>
    obtain rfl : e = .returned (.int .i64 1) := he
    go_wp2_with fail
    go_ret
    exact ⟨by simp [errN], HB3.out⟩
  | true =>
    obtain rfl : e = .returned (.int .i64 0) := he
    have k1 := HR3.out.at 1 HS.out.c1
    have k2 := HR3.out.at 2 HS.out.c2
    have k3 := HR3.out.at 3 HS.out.c3
    have k4 := HR3.out.at 4 HS.out.c4
    have k7 := HR3.out.at 7 HS.out.c7
    have k8 := HR3.out.at 8 HS.out.c8
    have k9 := HR3.out.at 9 HS.out.c9
    have k10 := HR3.out.at 10 HS.out.c10
    have k11 := HR3.out.at 11 HS.out.c11
    have k12 := HR3.out.at 12 HS.out.c12
    have k13 := HR3.out.at 13 HS.out.c13
    have k14 := HR3.out.at 14 HS.out.c14
    have HSc := Lib.hid (pscheme_any fr sl mv w3)
    have HB2 := HB3
    clear HB3
    cases b1 with
    | false =>
      go_wp2_with fail
      refine (HW1.out _).mono ?_
      rintro e w' ⟨rfl, rfl⟩
      go_wp2_with fail
      go_ret
      exact ⟨by simp [errN], HB2.out⟩
    | true =>
      cases b2 with
      | false =>
        go_wp2_with fail
        refine (HW1.out _).mono ?_
        rintro e w' ⟨rfl, rfl⟩
        go_wp2_with fail
        refine (HW2.out _).mono ?_
        rintro e w' ⟨rfl, rfl⟩
        go_wp2_with fail
        go_ret
        exact ⟨by simp [errN], HB2.out⟩
      | true =>
        cases b3 with
        | false =>
          go_wp2_with fail
          refine (HW1.out _).mono ?_
          rintro e w' ⟨rfl, rfl⟩
          go_wp2_with fail
          refine (HW2.out _).mono ?_
          rintro e w' ⟨rfl, rfl⟩
          go_wp2_with fail
          refine (HW3.out _).mono ?_
          rintro e w' ⟨rfl, rfl⟩
          go_wp2_with fail
          go_ret
          exact ⟨by simp [errN], HB2.out⟩
        | true =>
          cases b4 with
          | false =>
            go_wp2_with fail
            refine (HW1.out _).mono ?_
            rintro e w' ⟨rfl, rfl⟩
            go_wp2_with fail
            refine (HW2.out _).mono ?_
            rintro e w' ⟨rfl, rfl⟩
            go_wp2_with fail
            refine (HW3.out _).mono ?_
            rintro e w' ⟨rfl, rfl⟩
            go_wp2_with fail
            refine (HW4.out _).mono ?_
            rintro e w' ⟨rfl, rfl⟩
            go_wp2_with fail
            go_ret
            exact ⟨by simp [errN], HB2.out⟩
          | true =>
            cases b5 with
            | false =>
              go_wp2_with fail
              refine (HW1.out _).mono ?_
              rintro e w' ⟨rfl, rfl⟩
              go_wp2_with fail
              refine (HW2.out _).mono ?_
              rintro e w' ⟨rfl, rfl⟩
              go_wp2_with fail
              refine (HW3.out _).mono ?_
              rintro e w' ⟨rfl, rfl⟩
              go_wp2_with fail
              refine (HW4.out _).mono ?_
              rintro e w' ⟨rfl, rfl⟩
              go_wp2_with fail
              refine (HW5.out _).mono ?_
              rintro e w' ⟨rfl, rfl⟩
              go_wp2_with fail
              go_ret
              exact ⟨by simp [errN], HB2.out⟩
            | true =>
              cases b6 with
              | false =>
                go_wp2_with fail
                refine (HW1.out _).mono ?_
                rintro e w' ⟨rfl, rfl⟩
                go_wp2_with fail
                refine (HW2.out _).mono ?_
                rintro e w' ⟨rfl, rfl⟩
                go_wp2_with fail
                refine (HW3.out _).mono ?_
                rintro e w' ⟨rfl, rfl⟩
                go_wp2_with fail
                refine (HW4.out _).mono ?_
                rintro e w' ⟨rfl, rfl⟩
                go_wp2_with fail
                refine (HW5.out _).mono ?_
                rintro e w' ⟨rfl, rfl⟩
                go_wp2_with fail
                refine (HW6.out _).mono ?_
                rintro e w' ⟨rfl, rfl⟩
                go_wp2_with fail
                go_ret
                exact ⟨by simp [errN], HB2.out⟩
              | true =>
                cases b7 with
                | false =>
                  go_wp2_with fail
                  refine (HW1.out _).mono ?_
                  rintro e w' ⟨rfl, rfl⟩
                  go_wp2_with fail
                  refine (HW2.out _).mono ?_
                  rintro e w' ⟨rfl, rfl⟩
                  go_wp2_with fail
                  refine (HW3.out _).mono ?_
                  rintro e w' ⟨rfl, rfl⟩
                  go_wp2_with fail
                  refine (HW4.out _).mono ?_
                  rintro e w' ⟨rfl, rfl⟩
                  go_wp2_with fail
                  refine (HW5.out _).mono ?_
                  rintro e w' ⟨rfl, rfl⟩
                  go_wp2_with fail
                  refine (HW6.out _).mono ?_
                  rintro e w' ⟨rfl, rfl⟩
                  go_wp2_with fail
                  refine (HW7.out _).mono ?_
                  rintro e w' ⟨rfl, rfl⟩
                  go_wp2_with fail
                  go_ret
                  exact ⟨by simp [errN], HB2.out⟩
                | true =>
                  cases b8 with
                  | false =>
                    go_wp2_with fail
                    refine (HW1.out _).mono ?_
                    rintro e w' ⟨rfl, rfl⟩
                    go_wp2_with fail
                    refine (HW2.out _).mono ?_
                    rintro e w' ⟨rfl, rfl⟩
                    go_wp2_with fail
                    refine (HW3.out _).mono ?_
                    rintro e w' ⟨rfl, rfl⟩
                    go_wp2_with fail
                    refine (HW4.out _).mono ?_
                    rintro e w' ⟨rfl, rfl⟩
                    go_wp2_with fail
                    refine (HW5.out _).mono ?_
                    rintro e w' ⟨rfl, rfl⟩
                    go_wp2_with fail
                    refine (HW6.out _).mono ?_
                    rintro e w' ⟨rfl, rfl⟩
                    go_wp2_with fail
                    refine (HW7.out _).mono ?_
                    rintro e w' ⟨rfl, rfl⟩
                    go_wp2_with fail
                    refine (HW8.out _).mono ?_
                    rintro e w' ⟨rfl, rfl⟩
                    go_wp2_with fail
                    go_ret
                    exact ⟨by simp [errN], HB2.out⟩
                  | true =>
                    cases b9 with
                    | false =>
                      go_wp2_with fail
                      refine (HW1.out _).mono ?_
                      rintro e w' ⟨rfl, rfl⟩
                      go_wp2_with fail
                      refine (HW2.out _).mono ?_
                      rintro e w' ⟨rfl, rfl⟩
                      go_wp2_with fail
                      refine (HW3.out _).mono ?_
                      rintro e w' ⟨rfl, rfl⟩
                      go_wp2_with fail
                      refine (HW4.out _).mono ?_
                      rintro e w' ⟨rfl, rfl⟩
                      go_wp2_with fail
                      refine (HW5.out _).mono ?_
                      rintro e w' ⟨rfl, rfl⟩
                      go_wp2_with fail
                      refine (HW6.out _).mono ?_
                      rintro e w' ⟨rfl, rfl⟩
                      go_wp2_with fail
                      refine (HW7.out _).mono ?_
                      rintro e w' ⟨rfl, rfl⟩
                      go_wp2_with fail
                      refine (HW8.out _).mono ?_
                      rintro e w' ⟨rfl, rfl⟩
                      go_wp2_with fail
                      refine (HW9.out _).mono ?_
                      rintro e w' ⟨rfl, rfl⟩
                      go_wp2_with fail
                      go_ret
                      exact ⟨by simp [errN], HB2.out⟩
                    | true =>
                      go_wp2_with fail
                      refine (HW1.out _).mono ?_
                      rintro e w' ⟨rfl, rfl⟩
                      go_wp2_with fail
                      refine (HW2.out _).mono ?_
                      rintro e w' ⟨rfl, rfl⟩
                      go_wp2_with fail
                      refine (HW3.out _).mono ?_
                      rintro e w' ⟨rfl, rfl⟩
                      go_wp2_with fail
                      refine (HW4.out _).mono ?_
                      rintro e w' ⟨rfl, rfl⟩
                      go_wp2_with fail
                      refine (HW5.out _).mono ?_
                      rintro e w' ⟨rfl, rfl⟩
                      go_wp2_with fail
                      refine (HW6.out _).mono ?_
                      rintro e w' ⟨rfl, rfl⟩
                      go_wp2_with fail
                      refine (HW7.out _).mono ?_
                      rintro e w' ⟨rfl, rfl⟩
                      go_wp2_with fail
                      refine (HW8.out _).mono ?_
                      rintro e w' ⟨rfl, rfl⟩
                      go_wp2_with fail
                      refine (HW9.out _).mono ?_
                      rintro e w' ⟨rfl, rfl⟩
                      go_wp2_with fail
                      refine HSc.out.mono ?_
                      rintro e w4 ⟨rfl, hb4⟩
                      have HB4 := Lib.hid (below_then HB2.out hb4)
                      clear hb4
                      go_wp2_with fail
                      go_ret
                      exact ⟨by cases outB [fr, sl, mv] 1 4 <;> simp [errN, errB], HB4.out⟩
end Go.Proofs.YtkpgciimhjkajaaGreatDoor
/- The program's cycle: Time, Window. -/
namespace Go.Proofs.YtkpgciimhjkajaaGreatDoor
open Go Go.RowKit
def tmV (ok : Bool) (st pe num : Int) : Int × Int := if (ok && inR num 1 10000 && decide (st + (num - 1) * pe ≤ 52595999)) = true then (st + (num - 1) * pe, 0) else (0, 1)
theorem okS_bnd {f0 st pe wi de sm an we ro wk sp fr sl mv dp : Int} (h : okS f0 st pe wi de sm an we ro wk sp fr sl mv dp = true) : (1 ≤ f0 ∧ f0 ≤ 8) ∧ (0 ≤ st ∧ st ≤ 52595999) ∧ (1 ≤ pe ∧ pe ≤ 100000) ∧ (0 ≤ wi ∧ wi ≤ 100000) ∧ (0 ≤ sp ∧ sp ≤ 400) ∧ (0 ≤ dp ∧ dp ≤ 4194304) ∧ outB [fr, sl, mv] 1 4 = false := by
  unfold okS okP okC inR at h
  simp only [Bool.and_eq_true, decide_eq_true_eq, Bool.not_eq_true'] at h
  obtain ⟨⟨⟨⟨h1, h2⟩, h3⟩, ⟨⟨⟨⟨⟨⟨⟨⟨h4, h5⟩, h6⟩, h7⟩, h8⟩, h9⟩, h10⟩, h11⟩, h12⟩⟩, h13⟩ := h
  exact ⟨h1, h4, h5, h6, h11, h12, h13⟩
theorem tm_mul {num pe : Int} (h1 : 1 ≤ num ∧ num ≤ 10000) (h2 : 1 ≤ pe ∧ pe ≤ 100000) : 0 ≤ (num - 1) * pe ∧ (num - 1) * pe ≤ 1000000000 := by
  refine ⟨Int.mul_nonneg (by omega) (by omega), ?_⟩
  have a := Int.mul_le_mul_of_nonneg_left h2.2 (show 0 ≤ num - 1 by omega)
  have b : (num - 1) * 100000 ≤ 1000000000 := by omega
  exact Int.le_trans a b
set_option maxRecDepth 100000 in
set_option maxHeartbeats 16000000 in
theorem ptime_any (S : List Value) (f0 st pe wi de sm an we ro wk sp fr sl mv dp : Int) (h : SeOk S f0 st pe wi de sm an we ro wk sp fr sl mv dp) (num : Int) (w : World) :
    Calls Tryz.prog 18 #[.agg S.toArray, .int .i64 num] w fun e w' => e = .returned (.tuple #[.int .i64 (tmV (okS f0 st pe wi de sm an we ro wk sp fr sl mv dp) st pe num).1, .int .i64 (tmV (okS f0 st pe wi de sm an we ro wk sp fr sl mv dp) st pe num).2]) ∧ Below w.heap.size w w' := by
  have hR : RowAt (w.alloc (.cells S.toArray 29)) w.heap.size S := RowAt.new w S (by rw [h.len]; omega) _ rfl
  obtain ⟨w1, hw1⟩ : ∃ u, u = w.alloc (.cells S.toArray 29) := ⟨_, rfl⟩
  rw [← hw1] at hR
  have hb1 : Below w.heap.size w w1 := by rw [hw1]; exact (Below.refl _ _).alloc (Nat.le_refl _) _
  have HCk := Lib.hid (pcycheck_any S f0 st pe wi de sm an we ro wk sp fr sl mv dp h w1)
  have HR := Lib.hid hR
  have HS := Lib.hid h
  have HB1 := Lib.hid hb1
  have Hw1 := Lib.hid hw1
  clear hR hb1 hw1 h
  obtain ⟨ok, hok⟩ : ∃ b, b = okS f0 st pe wi de sm an we ro wk sp fr sl mv dp := ⟨_, rfl⟩
  rw [← hok] at HCk ⊢
  have HOk := Lib.hid hok
  clear hok
  obtain ⟨b, hb⟩ : ∃ b, b = inR num 1 10000 := ⟨_, rfl⟩
  have HW : Hid (∀ w, Calls Tryz.prog 30 #[.int .i64 num, .int .i64 1, .int .i64 10000] w fun e w' => e = .returned (.bool b) ∧ w' = w) := by rw [hb]; exact fun w => pwithin30 num 1 10000 w
  unfold tmV
  rw [← hb]
  have HBn := Lib.hid hb
  clear hb
  go_enter Tryz.func18, Tryz.ntmps18
  go_upto_region 1 with fail
  rw [← Hw1.out]
  go_wp2_with (refine row_load rfl _ rfl _ rfl _ HR.out (by rw [HS.out.len]; exact rowT_se) ?_)
  refine HCk.out.mono ?_
  rintro e w2 ⟨he, hb2⟩
  have HR2 := Lib.hid (HR.out.below hb2)
  have HB2 := Lib.hid (below_then HB1.out hb2)
  clear hb2 HCk HR HB1
  cases ok with
  | false =>
    obtain rfl : e = .returned (.int .i64 1) := he
    go_wp2_with fail
    go_ret2
    exact ⟨by simp, HB2.out⟩
  | true =>
    obtain rfl : e = .returned (.int .i64 0) := he
    go_wp2_with fail
    refine (HW.out _).mono ?_
    rintro e w3 ⟨rfl, rfl⟩
    cases b with
    | false =>
      go_wp2_with fail
      go_ret2
      exact ⟨by simp, HB2.out⟩
    | true =>
      have hb := okS_bnd HOk.out.symm
      have hn : 1 ≤ num ∧ num ≤ 10000 := by have := HBn.out; unfold inR at this; exact of_decide_eq_true this.symm
      obtain ⟨m1, m2⟩ := tm_mul hn hb.2.2.1
      obtain ⟨_, ⟨s1, s2⟩, ⟨p1, p2⟩, _⟩ := hb
      obtain ⟨n1, n2⟩ := hn
      have k1 := HR2.out.at 1 HS.out.c1
      have k2 := HR2.out.at 2 HS.out.c2
      go_wp2_with fail
      all_goals go_ret2
      all_goals refine ⟨?_, HB2.out⟩
      all_goals first
        | simp
        | omega
def wnV (ok : Bool) (st pe wi num cut : Int) : Int × Int × Int × Int :=
  if (ok && inR num 1 10000 && decide (st + (num - 1) * pe ≤ 52595999) && inR cut 0 52595999) = true then (max (st + (num - 1) * pe - wi) 0, min (st + (num - 1) * pe + wi) 52595999, cut, 0) else (0, 0, 0, 1)
theorem rowT_wn : RowT 68 3 := ⟨by kernel_rfl, _, Tryz.underlying68, rfl⟩
set_option maxRecDepth 100000 in
set_option maxHeartbeats 16000000 in
theorem pwindow_any (S : List Value) (f0 st pe wi de sm an we ro wk sp fr sl mv dp : Int) (h : SeOk S f0 st pe wi de sm an we ro wk sp fr sl mv dp) (num cut : Int) (w : World) :
    Calls Tryz.prog 20 #[.agg S.toArray, .int .i64 num, .int .i64 cut] w fun e w' => (∃ p q r s, wnV (okS f0 st pe wi de sm an we ro wk sp fr sl mv dp) st pe wi num cut = (p, q, r, s) ∧ e = .returned (.tuple #[.agg #[.int .i64 p, .int .i64 q, .int .i64 r], .int .i64 s])) ∧ Below w.heap.size w w' := by
  obtain ⟨w1, hw1⟩ : ∃ u, u = (w.alloc (.cells S.toArray 29)).alloc (.cells #[.int .i64 0, .int .i64 0, .int .i64 0] 68) := ⟨_, rfl⟩
  have hR : RowAt w1 w.heap.size S := by rw [hw1]; exact (RowAt.new w S (by rw [h.len]; omega) _ rfl).alloc _
  have hP : RowAt w1 (w.heap.size + 1) [.int .i64 0, .int .i64 0, .int .i64 0] := by rw [hw1]; exact RowAt.new _ [.int .i64 0, .int .i64 0, .int .i64 0] (by simp) _ (by simp)
  have hb1 : Below w.heap.size w w1 := by rw [hw1]; exact ((Below.refl _ _).alloc (Nat.le_refl _) _).alloc (by simp) _
  have HTm := Lib.hid (ptime_any S f0 st pe wi de sm an we ro wk sp fr sl mv dp h num w1)
  have HR := Lib.hid (And.intro hR hP)
  have HS := Lib.hid h
  have HB1 := Lib.hid hb1
  have Hw1 := Lib.hid hw1
  clear hR hb1 hw1 h hP
  obtain ⟨ok, hok⟩ : ∃ b, b = okS f0 st pe wi de sm an we ro wk sp fr sl mv dp := ⟨_, rfl⟩
  rw [← hok] at HTm ⊢
  have HOk := Lib.hid hok
  clear hok
  obtain ⟨V, hV⟩ : ∃ V, V = wnV ok st pe wi num cut := ⟨_, rfl⟩
  rw [← hV]
  have HV := Lib.hid hV
  clear hV
  obtain ⟨b, hb⟩ : ∃ b, b = inR cut 0 52595999 := ⟨_, rfl⟩
  have HW : Hid (∀ w, Calls Tryz.prog 30 #[.int .i64 cut, .int .i64 0, .int .i64 52595999] w fun e w' => e = .returned (.bool b) ∧ w' = w) := by rw [hb]; exact fun w => pwithin30 cut 0 52595999 w
  have HBi := Lib.hid hb
  clear hb
  go_enter Tryz.func20, Tryz.ntmps20
  go_upto_region 1 with fail
  rw [← Hw1.out]
  go_wp2_with (refine row_load rfl _ rfl _ rfl _ HR.out.1 (by rw [HS.out.len]; exact rowT_se) ?_)
  refine HTm.out.mono ?_
  rintro e w2 ⟨he, hb2⟩
  have hR2 := HR.out.1.below hb2
  have hP2 := HR.out.2.below hb2
  have HB2 := Lib.hid (below_then HB1.out hb2)
  have k3 := hR2.at 3 HS.out.c3
  have r0 := hP2.at 0 rfl
  have r1 := hP2.at 1 rfl
  have r2 := hP2.at 2 rfl
  have g0 := hP2.2.2 0 (by simp)
  have g1 := hP2.2.2 1 (by simp)
  have g2 := hP2.2.2 2 (by simp)
  have HP2 := Lib.hid (fun a0 a1 a2 => set3 (a0 := a0) (a1 := a1) (a2 := a2) hP2 _ rfl w.heap.size (by omega))
  clear hb2 HTm HR HB1 hR2 hP2
  unfold tmV at he
  by_cases hc : (ok && inR num 1 10000 && decide (st + (num - 1) * pe ≤ 52595999)) = true
  · rw [if_pos hc] at he
    obtain rfl := he
    have hok : ok = true := by simp only [Bool.and_eq_true] at hc; exact hc.1.1
    have hbd := okS_bnd (by rw [← HOk.out]; exact hok)
    have ht0 : st + (num - 1) * pe ≤ 52595999 := by simp only [Bool.and_eq_true, decide_eq_true_eq] at hc; exact hc.2
    have hn : 1 ≤ num ∧ num ≤ 10000 := by simp only [Bool.and_eq_true] at hc; unfold inR at hc; exact of_decide_eq_true hc.1.2
    have hm := tm_mul hn hbd.2.2.1
    have hc2 : (ok && inR num 1 10000 && decide (st + (num - 1) * pe ≤ 52595999)) = true := hc
    obtain ⟨_, ⟨s1, s2⟩, _, ⟨i1, i2⟩, _⟩ := hbd
    obtain ⟨t, ht⟩ : ∃ t, t = st + (num - 1) * pe := ⟨_, rfl⟩
    have HV1 : Hid (V = if b = true then (max (t - wi) 0, min (t + wi) 52595999, cut, 0) else (0, 0, 0, 1)) := by
      have h1 := HV.out
      unfold wnV at h1
      rw [hc2, ← HBi.out, ← ht] at h1
      rw [h1]
      cases b <;> rfl
    have t0 : 0 ≤ t := by omega
    have t1 : t ≤ 52595999 := by omega
    rw [← ht]
    clear hc hc2 hok hn hm s1 s2 ht ht0 HV
    go_wp2_with fail
    refine (HW.out _).mono ?_
    rintro e w3 ⟨rfl, rfl⟩
    cases b with
    | false =>
      go_wp2_with fail
      have HE := HP2.out (.int .i64 0) (.int .i64 0) (.int .i64 0)
      exact ret_row2 rfl _ [.int .i64 0, .int .i64 0, .int .i64 0] _ HE.1 rowT_wn rfl rfl rfl ⟨⟨0, 0, 0, 1, by rw [HV1.out]; rfl, rfl⟩, HB2.out.trans HE.2.2⟩
    | true =>
      go_wp2_with fail
      have HE := HP2.out (.int .i64 (max (t - wi) 0)) (.int .i64 (min (t + wi) 52595999)) (.int .i64 cut)
      exact ret_row2 rfl _ [.int .i64 (max (t - wi) 0), .int .i64 (min (t + wi) 52595999), .int .i64 cut] _ HE.1 rowT_wn rfl rfl rfl ⟨⟨_, _, _, _, by rw [HV1.out]; rfl, rfl⟩, HB2.out.trans HE.2.2⟩
  · rw [if_neg hc] at he
    obtain rfl := he
    have HV1 : Hid (V = (0, 0, 0, 1)) := by
      have h1 := HV.out
      unfold wnV at h1
      have h2 : ¬ (ok && inR num 1 10000 && decide (st + (num - 1) * pe ≤ 52595999) && inR cut 0 52595999) = true := fun h => hc (by rw [Bool.and_eq_true] at h; exact h.1)
      exact Lib.hid (h1.trans (if_neg h2))
    clear hc HV
    go_wp2_with fail
    have HE := HP2.out (.int .i64 0) (.int .i64 0) (.int .i64 0)
    exact ret_row2 rfl _ [.int .i64 0, .int .i64 0, .int .i64 0] _ HE.1 rowT_wn rfl rfl rfl ⟨⟨0, 0, 0, 1, HV1.out, rfl⟩, HB2.out.trans HE.2.2⟩
end Go.Proofs.YtkpgciimhjkajaaGreatDoor
/- The program's cycle: First, Background. -/
namespace Go.Proofs.YtkpgciimhjkajaaGreatDoor
open Go Go.RowKit
def cycV (n : Int) (dv fv : Value) : List Value := [.int .i64 0, .int .i64 0, .int .i64 0, .slice none 0 0, .slice none 0 0, .slice none 0 0, .slice none 0 0, .int .i64 0, .int .u64 0, .int .i64 0, .int .i64 0, .int .i64 0, .int .i64 n, dv, fv, .slice none 0 0, .slice none 0 0]
theorem rowT_cy : RowT 51 17 := ⟨by kernel_rfl, _, Tryz.underlying51, rfl⟩
def fstPr (ok : Bool) (f0 dp : Int) (e : Ending) (w w' : World) : Prop :=
  (ok = false → e = .returned (.tuple #[.agg (cycV 0 (.slice none 0 0) (.slice none 0 0)).toArray, .int .i64 1])) ∧
  (ok = true → ∃ n dv fv, f0 = ((n : Nat) : Int) ∧ Fq n ∧ e = .returned (.tuple #[.agg (cycV (n : Int) dv fv).toArray, .int .i64 0]) ∧ OwnI w' w.heap.size dv (List.replicate (10 * n * n + 2) dp) ∧ OwnI w' w.heap.size fv (List.replicate (edgesN n).length 0))
theorem fq_of {f0 : Int} (h : 1 ≤ f0 ∧ f0 ≤ 8) : ∃ n : Nat, f0 = (n : Int) ∧ Fq n := ⟨f0.toNat, by omega, by unfold Fq; omega⟩
theorem cycV_one {w w' : World} {n : Int} {b1 b2 : Nat} {dv fv : Value} {D F : List Int} (h1 : OwnI w b1 dv D) (h2 : OwnI w' b2 fv F) : ∀ v ∈ cycV n dv fv, v.oneCell' = true := fun v hv => by
  simp only [cycV, List.mem_cons, List.mem_nil_iff, or_false] at hv
  rcases hv with rfl | rfl | rfl | rfl | rfl | rfl | rfl | rfl | rfl | rfl | rfl | rfl | rfl | rfl | rfl | rfl | rfl <;> first | rfl | exact h1.one | exact h2.one
set_option maxRecDepth 100000 in
set_option maxHeartbeats 16000000 in
theorem pfirst_any (S : List Value) (f0 st pe wi de sm an we ro wk sp fr sl mv dp : Int) (h : SeOk S f0 st pe wi de sm an we ro wk sp fr sl mv dp) (w : World) (hcr : Crn w) (hg : 0 < w.heap.size) :
    Calls Tryz.prog 11 #[.agg S.toArray] w fun e w' => fstPr (okS f0 st pe wi de sm an we ro wk sp fr sl mv dp) f0 dp e w w' ∧ Below w.heap.size w w' := by
  obtain ⟨w1, hw1⟩ : ∃ u, u = (w.alloc (.cells S.toArray 29)).alloc (.cells (cycV 0 (.slice none 0 0) (.slice none 0 0)).toArray 51) := ⟨_, rfl⟩
  have hR : RowAt w1 w.heap.size S := by rw [hw1]; exact (RowAt.new w S (by rw [h.len]; omega) _ rfl).alloc _
  have hC : RowAt w1 (w.heap.size + 1) (cycV 0 (.slice none 0 0) (.slice none 0 0)) := by rw [hw1]; exact RowAt.new _ _ (by simp [cycV]) _ (by simp)
  have hb1 : Below w.heap.size w w1 := by rw [hw1]; exact ((Below.refl _ _).alloc (Nat.le_refl _) _).alloc (by simp) _
  have HCk := Lib.hid (pcycheck_any S f0 st pe wi de sm an we ro wk sp fr sl mv dp h w1)
  have HCr := Lib.hid (And.intro (hcr.below hb1 hg) (Nat.lt_of_lt_of_le hg hb1.size))
  have HR := Lib.hid (And.intro hR hC)
  have HS := Lib.hid h
  have HB1 := Lib.hid hb1
  have Hw1 := Lib.hid hw1
  clear hR hb1 hw1 h hC hcr hg
  obtain ⟨ok, hok⟩ : ∃ b, b = okS f0 st pe wi de sm an we ro wk sp fr sl mv dp := ⟨_, rfl⟩
  rw [← hok] at HCk ⊢
  have HOk := Lib.hid hok
  clear hok
  go_enter Tryz.func11, Tryz.ntmps11
  go_upto_region 1 with fail
  rw [show #[Value.int .i64 0, .int .i64 0, .int .i64 0, .slice none 0 0, .slice none 0 0, .slice none 0 0, .slice none 0 0, .int .i64 0, .int .u64 0, .int .i64 0, .int .i64 0, .int .i64 0, .int .i64 0, .slice none 0 0, .slice none 0 0, .slice none 0 0, .slice none 0 0] = (cycV 0 (.slice none 0 0) (.slice none 0 0)).toArray from rfl, ← Hw1.out]
  go_wp2_with (refine row_load rfl _ rfl _ rfl _ HR.out.1 (by rw [HS.out.len]; exact rowT_se) ?_)
  refine HCk.out.mono ?_
  rintro e w2 ⟨he, hb2⟩
  have HR2 := Lib.hid (And.intro (HR.out.1.below hb2) (HR.out.2.below hb2))
  have HB2 := Lib.hid (below_then HB1.out hb2)
  have HCr2 := Lib.hid (And.intro (HCr.out.1.below hb2 HCr.out.2) (Nat.lt_of_lt_of_le HCr.out.2 hb2.size))
  clear hb2 HCk HR HB1 HCr
  cases ok with
  | false =>
    obtain rfl : e = .returned (.int .i64 1) := he
    go_wp2_with (refine row_store rfl _ _ rfl _ rfl _ (cycV 0 (.slice none 0 0) (.slice none 0 0)) rfl HR2.out.2 rfl rowT_cy (by decide) ?_; intro w3 e3 h3)
    exact ret_row2 rfl _ _ _ e3 rowT_cy rfl rfl rfl ⟨⟨fun _ => rfl, fun h => by cases h⟩, HB2.out.trans (h3.below (Nat.le_succ _))⟩
  | true =>
    obtain rfl : e = .returned (.int .i64 0) := he
    obtain ⟨hf, _, _, _, _, hd, _⟩ := okS_bnd HOk.out.symm
    obtain ⟨n, rfl, hn⟩ := fq_of hf
    have k0 := HR2.out.1.at 0 HS.out.c0
    have k14 := HR2.out.1.at 14 HS.out.c14
    have HRe := Lib.hid (prest_any n hn dp (by omega) w2 HCr2.out.1 HCr2.out.2)
    have HN := Lib.hid hn
    clear hf hd hn
    go_wp2_with fail
    clear k0 k14
    refine HRe.out.mono ?_
    rintro e w3 ⟨dv, fv, rfl, hdv, hfv, hb3⟩
    unfold stv
    obtain ⟨da, dn, dc, rfl⟩ : ∃ a m c, dv = .slice a m c := by obtain ⟨a, c, h⟩ := hdv.slice; exact ⟨a, _, c, h⟩
    obtain ⟨fa, fn, fc, rfl⟩ : ∃ a m c, fv = .slice a m c := by obtain ⟨a, c, h⟩ := hfv.slice; exact ⟨a, _, c, h⟩
    have HD := Lib.hid (And.intro hdv hfv)
    have HR3 := Lib.hid (And.intro (HR2.out.1.below hb3) (HR2.out.2.below hb3))
    have HB3 := Lib.hid (below_then HB2.out hb3)
    have Hs2 : Hid (w.heap.size + 1 + 1 ≤ w2.heap.size) := by have := HR2.out.2.lt; unfold Hid; omega
    clear hdv hfv hb3 HR2 HB2 HRe
    go_upto_region 5 with fail
    obtain ⟨w4, hw4⟩ : ∃ u, u = w3.alloc (.cells #[.int .i64 (n : Int), .slice da dn dc, .slice fa fn fc] 36) := ⟨_, rfl⟩
    have hb4 : Below w3.heap.size w3 w4 := by rw [hw4]; exact (Below.refl _ _).alloc (Nat.le_refl _) _
    have hY4 : RowAt w4 w3.heap.size [.int .i64 (n : Int), .slice da dn dc, .slice fa fn fc] := by rw [hw4]; exact RowAt.new _ [.int .i64 (n : Int), .slice da dn dc, .slice fa fn fc] (by simp) _ rfl
    have HR4 := Lib.hid (HR3.out.2.below hb4)
    have HB4 := Lib.hid (below_then HB3.out hb4)
    have HD4 := Lib.hid (And.intro (HD.out.1.below hb4) (HD.out.2.below hb4))
    have Hw4 := Lib.hid hw4
    have y0 := hY4.at 0 rfl
    have y1 := hY4.at 1 rfl
    have y2 := hY4.at 2 rfl
    clear hw4 hb4 hY4 HR3 HB3 HD
    rw [← Hw4.out]
    go_wp2_with (refine row_store rfl _ _ rfl _ rfl _ (cycV (n : Int) (.slice da dn dc) (.slice fa fn fc)) rfl HR4.out rfl rowT_cy (cycV_one HD4.out.1 HD4.out.2) ?_; intro w5 e5 h5)
    have hz := Hs2.out
    have hx1 : (Value.slice da dn dc).ownBlock ≠ some (w.heap.size + 1) := fun e => by have := (HD4.out.1.lt _ e).1; omega
    have hx2 : (Value.slice fa fn fc).ownBlock ≠ some (w.heap.size + 1) := fun e => by have := (HD4.out.2.lt _ e).1; omega
    exact ret_row2 rfl _ _ _ e5 rowT_cy rfl rfl rfl ⟨⟨fun h => (by cases h), fun _ => ⟨n, _, _, rfl, HN.out, rfl, (HD4.out.1.apart h5 hx1).mono (by omega), (HD4.out.2.apart h5 hx2).mono (by omega)⟩⟩, HB4.out.trans (h5.below (Nat.le_succ _))⟩
def bgPr (ok : Bool) (n : Nat) (r : Option (List Int × List Int)) (e : Ending) (w w' : World) : Prop :=
  (ok = false → e = .returned (.tuple #[stv 0 (.slice none 0 0) (.slice none 0 0), .int .i64 1])) ∧ (ok = true → runPr n r e w w')
set_option maxRecDepth 100000 in
set_option maxHeartbeats 16000000 in
theorem pback_any (S : List Value) (f0 st pe wi de sm an we ro wk sp fr sl mv dp : Int) (h : SeOk S f0 st pe wi de sm an we ro wk sp fr sl mv dp) (C : List Value) (n : Nat) (hn : Fq n) (dv fv : Value) (D F : List Int) (B0 : Nat) (hCl : C.length = 17) (h12 : C[12]? = some (.int .i64 (n : Int))) (h13 : C[13]? = some dv) (h14 : C[14]? = some fv) (w : World) (hcr : Crn w) (hg : 0 < w.heap.size) (hok : SOk n D F) (hd : OwnI w B0 dv D) (hf : OwnI w B0 fv F) :
    Calls Tryz.prog 14 #[.agg S.toArray, .agg C.toArray] w fun e w' => bgPr (okS f0 st pe wi de sm an we ro wk sp fr sl mv dp) n (runN n fr sl mv sp.toNat D F) e w w' ∧ Below w.heap.size w w' := by
  obtain ⟨da, dn, dc, rfl⟩ : ∃ a m c, dv = .slice a m c := by obtain ⟨a, c, h⟩ := hd.slice; exact ⟨a, _, c, h⟩
  obtain ⟨fa, fn, fc, rfl⟩ : ∃ a m c, fv = .slice a m c := by obtain ⟨a, c, h⟩ := hf.slice; exact ⟨a, _, c, h⟩
  obtain ⟨w1, hw1⟩ : ∃ u, u = ((w.alloc (.cells S.toArray 29)).alloc (.cells C.toArray 51)).alloc (.cells #[.int .i64 0, .slice none 0 0, .slice none 0 0] 36) := ⟨_, rfl⟩
  have hR : RowAt w1 w.heap.size S := by rw [hw1]; exact ((RowAt.new w S (by rw [h.len]; omega) _ rfl).alloc _).alloc _
  have hC : RowAt w1 (w.heap.size + 1) C := by rw [hw1]; exact (RowAt.new _ C (by rw [hCl]; omega) _ (by simp)).alloc _
  have hY : RowAt w1 (w.heap.size + 1 + 1) [.int .i64 0, .slice none 0 0, .slice none 0 0] := by rw [hw1]; exact RowAt.new _ [.int .i64 0, .slice none 0 0, .slice none 0 0] (by simp) _ (by simp)
  have hb1 : Below w.heap.size w w1 := by rw [hw1]; exact (((Below.refl _ _).alloc (Nat.le_refl _) _).alloc (by simp) _).alloc (by simp; omega) _
  have HCk := Lib.hid (pcycheck_any S f0 st pe wi de sm an we ro wk sp fr sl mv dp h w1)
  have HCr := Lib.hid (And.intro (hcr.below hb1 hg) (Nat.lt_of_lt_of_le hg hb1.size))
  have HR := Lib.hid (And.intro hR (And.intro hC hY))
  have HC := Lib.hid (And.intro hCl (And.intro h12 (And.intro h13 h14)))
  have HFix := Lib.hid (And.intro hn hok)
  have HD := Lib.hid (And.intro (hd.below hb1) (hf.below hb1))
  have HS := Lib.hid h
  have HB1 := Lib.hid hb1
  have Hw1 := Lib.hid hw1
  clear hR hb1 hw1 h hC hY hcr hg hn hok hd hf hCl h12 h13 h14
  obtain ⟨ok, hok⟩ : ∃ b, b = okS f0 st pe wi de sm an we ro wk sp fr sl mv dp := ⟨_, rfl⟩
  rw [← hok] at HCk ⊢
  have HOk := Lib.hid hok
  clear hok
  obtain ⟨r, hr⟩ : ∃ r, r = runN n fr sl mv sp.toNat D F := ⟨_, rfl⟩
  rw [← hr]
  have Hr := Lib.hid hr
  clear hr
  go_enter Tryz.func14, Tryz.ntmps14
  go_upto_region 1 with fail
  rw [← Hw1.out]
  go_wp2_with (refine row_load rfl _ rfl _ rfl _ HR.out.1 (by rw [HS.out.len]; exact rowT_se) ?_)
  refine HCk.out.mono ?_
  rintro e w2 ⟨he, hb2⟩
  have HR2 := Lib.hid (And.intro (HR.out.1.below hb2) (And.intro (HR.out.2.1.below hb2) (HR.out.2.2.below hb2)))
  have HB2 := Lib.hid (below_then HB1.out hb2)
  have HD2 := Lib.hid (And.intro (HD.out.1.below hb2) (HD.out.2.below hb2))
  have HCr2 := Lib.hid (And.intro (HCr.out.1.below hb2 HCr.out.2) (Nat.lt_of_lt_of_le HCr.out.2 hb2.size))
  clear hb2 HCk HR HB1 HCr HD
  cases ok with
  | false =>
    obtain rfl : e = .returned (.int .i64 1) := he
    go_wp2_with (refine row_store rfl _ _ rfl _ rfl _ [.int .i64 0, .slice none 0 0, .slice none 0 0] rfl HR2.out.2.2 rfl rowT_st (by decide) ?_; intro w3 e3 h3)
    exact ret_row2 rfl _ _ _ e3 rowT_st rfl rfl rfl ⟨⟨fun _ => rfl, fun h => by cases h⟩, HB2.out.trans (h3.below (by omega))⟩
  | true =>
    obtain rfl : e = .returned (.int .i64 0) := he
    obtain ⟨hf, _, _, _, hsp, hd, hsc⟩ := okS_bnd HOk.out.symm
    have k11 := HR2.out.1.at 11 HS.out.c11
    have k12 := HR2.out.1.at 12 HS.out.c12
    have k13 := HR2.out.1.at 13 HS.out.c13
    have k10 := HR2.out.1.at 10 HS.out.c10
    have m12 := HR2.out.2.1.at 12 HC.out.2.1
    have m13 := HR2.out.2.1.at 13 HC.out.2.2.1
    have m14 := HR2.out.2.1.at 14 HC.out.2.2.2
    obtain ⟨k, rfl⟩ : ∃ k : Nat, sp = (k : Int) := ⟨sp.toNat, by omega⟩
    have HRu := Lib.hid (prun_any n HFix.out.1 fr sl mv hsc _ _ D F B0 k (by omega) w2 HCr2.out.1 HCr2.out.2 HFix.out.2 HD2.out.1 HD2.out.2)
    rw [show runN n fr sl mv k D F = r from Hr.out.symm] at HRu
    unfold stv at HRu
    have Hs2 : Hid (w.heap.size + 1 + 1 + 1 ≤ w2.heap.size) := by have := HR2.out.2.2.lt; unfold Hid; omega
    clear hf hd hsc hsp
    go_wp2_with fail
    clear k10 k11 k12 k13 m12 m13 m14
    refine HRu.out.mono ?_
    rintro e w3 ⟨he, hb3⟩
    have HR3 := Lib.hid (HR2.out.2.2.below hb3)
    have HB3 := Lib.hid (below_then HB2.out hb3)
    clear hb3 HR2 HB2 HRu
    cases r with
    | none =>
      obtain rfl := he.1 rfl
      clear he
      unfold stv
      go_wp2_with (refine row_store rfl _ _ rfl _ rfl _ [.int .i64 0, .slice none 0 0, .slice none 0 0] rfl HR3.out rfl rowT_st (by decide) ?_; intro w5 e5 h5)
      exact ret_row2 rfl _ _ _ e5 rowT_st rfl rfl rfl ⟨⟨fun h => (by cases h), fun _ => ⟨fun _ => rfl, fun _ _ h => by cases h⟩⟩, HB3.out.trans (h5.below (by omega))⟩
    | some v =>
      obtain ⟨D2, F2⟩ := v
      obtain ⟨dv, fv, rfl, hdv, hfv⟩ := he.2 D2 F2 rfl
      unfold stv
      obtain ⟨da2, dn2, dc2, rfl⟩ : ∃ a m c, dv = .slice a m c := by obtain ⟨a, c, h⟩ := hdv.slice; exact ⟨a, _, c, h⟩
      obtain ⟨fa2, fn2, fc2, rfl⟩ : ∃ a m c, fv = .slice a m c := by obtain ⟨a, c, h⟩ := hfv.slice; exact ⟨a, _, c, h⟩
      have HD4 := Lib.hid (And.intro hdv hfv)
      clear he hdv hfv
      go_wp2_with (refine row_store rfl _ _ rfl _ rfl _ [.int .i64 (n : Int), .slice da2 dn2 dc2, .slice fa2 fn2 fc2] rfl HR3.out rfl rowT_st (by intro v hv; simp only [List.mem_cons, List.mem_nil_iff, or_false] at hv; rcases hv with rfl | rfl | rfl <;> first | rfl | exact HD4.out.1.one | exact HD4.out.2.one) ?_; intro w5 e5 h5)
      have hz := Hs2.out
      have hx1 : (Value.slice da2 dn2 dc2).ownBlock ≠ some (w.heap.size + 1 + 1) := fun e => by have := (HD4.out.1.lt _ e).1; omega
      have hx2 : (Value.slice fa2 fn2 fc2).ownBlock ≠ some (w.heap.size + 1 + 1) := fun e => by have := (HD4.out.2.lt _ e).1; omega
      exact ret_row2 rfl _ _ _ e5 rowT_st rfl rfl rfl ⟨⟨fun h => (by cases h), fun _ => ⟨fun h => (by cases h), fun D3 F3 h => by injection h with h; injection h with h1 h2; subst h1 h2; exact ⟨_, _, rfl, (HD4.out.1.apart h5 hx1).mono (by omega), (HD4.out.2.apart h5 hx2).mono (by omega)⟩⟩⟩, HB3.out.trans (h5.below (by omega))⟩
end Go.Proofs.YtkpgciimhjkajaaGreatDoor
/- The reference: small functions on numbers and lists of numbers. -/
namespace Go.Proofs.YtkpgciimhjkajaaGreatDoor
open Go Go.RowKit
set_option maxHeartbeats 4000000 in
theorem rnodes_any (n : Nat) (hn : Fq n) (w : World) : Calls Tryz.prog 26 #[.int .i64 n] w fun e w' => e = .returned (.int .i64 ((10 * n * n + 2 : Nat) : Int)) ∧ w' = w := by
  rcases hn.cases with rfl | rfl | rfl | rfl | rfl | rfl | rfl | rfl <;>
  (go_enter Tryz.func26, Tryz.ntmps26
   go_wp2_with fail
   go_ret
   exact ⟨rfl, rfl⟩)
theorem rfreq_any (n : Int) (w : World) : Calls Tryz.prog 51 #[.int .i64 n] w fun e w' => e = .returned (.bool (decide (1 ≤ n ∧ n ≤ 8))) ∧ w' = w := by
  by_cases h1 : 1 ≤ n <;> by_cases h2 : n ≤ 8 <;>
  (go_enter Tryz.func51, Tryz.ntmps51
   go_wp2_with fail
   go_ret
   simp [h1, h2])
theorem rclip_any (x : Int) (w : World) : Calls Tryz.prog 27 #[.int .i64 x, .int .i64 (-16777216), .int .i64 16777216] w fun e w' => e = .returned (.int .i64 (clipI x)) ∧ w' = w := by
  go_enter Tryz.func27, Tryz.ntmps27
  go_wp2_with fail
  go_ret
  unfold clipI
  rw [show max (-16777216) (min x 16777216) = min (max x (-16777216)) 16777216 by omega]
  exact ⟨rfl, rfl⟩
theorem rwithin_any (v lo hi : Int) (w : World) : Calls Tryz.prog 34 #[.int .i64 v, .int .i64 lo, .int .i64 hi] w fun e w' => e = .returned (.bool (inR v lo hi)) ∧ w' = w := by
  by_cases h1 : lo ≤ v <;> by_cases h2 : v ≤ hi <;>
  (go_enter Tryz.func34, Tryz.ntmps34
   go_wp2_with fail
   go_ret
   simp [inR, h1, h2])
set_option maxHeartbeats 4000000 in
theorem rdepths_any (v : Value) (l : List Int) (base : Nat) (w : World) (hv : OwnI w base v l) :
    Calls Tryz.prog 86 #[v] w fun e w' => e = .returned (.bool (!outB l 0 16777216)) ∧ w' = w := by
  rcases Nat.eq_zero_or_pos l.length with h0 | h0
  · obtain rfl := List.eq_nil_of_length_eq_zero h0
    obtain ⟨a, cap, rfl⟩ := hv.slice
    clear hv h0
    go_enter Tryz.func86, Tryz.ntmps86
    go_wp2_with fail
    go_loopw [3] (fun kv wr => kv = .int .i64 0 ∧ wr = w) (fun _ _ => 0)
    case atStart => exact ⟨rfl, rfl⟩
    case round =>
      obtain ⟨rfl, rfl⟩ := hrel
      go_wp2_with fail
      go_ret
      exact ⟨by simp [outB], rfl⟩
  · obtain ⟨g, cap, rfl, _, _, hc1, hc2, hA⟩ := hv.iat h0
    have HA := Lib.hid hA
    obtain ⟨N, hN⟩ : ∃ N, N = l.length := ⟨_, rfl⟩
    have HN := Lib.hid hN
    rw [← hN] at hc1 ⊢
    have hN2 : N ≤ 9223372036854775807 := by omega
    clear hv h0 hA hN
    go_enter Tryz.func86, Tryz.ntmps86
    go_wp2_with fail
    go_loopw [3] (fun kv wr => ∃ c : Nat, c ≤ N ∧ kv = .int .i64 c ∧ wr = w ∧ Hid (outB (l.take c) 0 16777216 = false)) (fun kv _ => (9223372036854775807 - intOf kv).toNat)
    case atStart => exact ⟨0, by omega, rfl, rfl, rfl⟩
    case round =>
      obtain ⟨c, hc, rfl, rfl, hs⟩ := hrel
      by_cases hlt : c < N
      · have c0 : (c : Int) < (N : Int) := by omega
        have c2 : (c : Int) ≤ 9223372036854775807 := by omega
        have hcl : c < l.length := by rw [← HN.out]; exact hlt
        have hcell := HA.out c hcl
        have HStp := Lib.hid (outB_take hcl hs.out)
        have HAll := Lib.hid (fun h => outB_of (lo := 0) (hi := 16777216) hcl h)
        generalize l[c] = x at *
        clear hcl
        by_cases x1 : x < 0
        · have HT : Hid (outB l 0 16777216 = true) := HAll.out (by simp [outV]; omega)
          clear HAll HStp
          go_wp2_with fail
          go_ret
          exact ⟨by simp [HT.out], rfl⟩
        by_cases x2 : x > 16777216
        · have HT : Hid (outB l 0 16777216 = true) := HAll.out (by simp [outV]; omega)
          clear HAll HStp
          go_wp2_with fail
          go_ret
          exact ⟨by simp [HT.out], rfl⟩
        have hx : outV 0 16777216 x = false := by simp [outV]; omega
        rw [hx] at HStp
        clear hx HAll
        go_wp2_with fail
        refine ⟨⟨c + 1, by omega, by go_num, by trivial, HStp⟩, ?_⟩
        simp [intOf]; omega
      · obtain rfl : c = N := by omega
        have HT : Hid (outB l 0 16777216 = false) := by have h := hs.out; rw [HN.out, List.take_length] at h; exact h
        clear hs
        go_wp2_with fail
        go_ret
        exact ⟨by simp [HT.out], rfl⟩
set_option maxHeartbeats 4000000 in
theorem rsmall_any (v : Value) (l : List Int) (base : Nat) (w : World) (hv : OwnI w base v l) (hb : ∀ x ∈ l, -16777216 ≤ x ∧ x ≤ 16777216) :
    Calls Tryz.prog 87 #[v, .int .i64 16777216] w fun e w' => e = .returned (.bool true) ∧ w' = w := by
  rcases Nat.eq_zero_or_pos l.length with h0 | h0
  · obtain rfl := List.eq_nil_of_length_eq_zero h0
    obtain ⟨a, cap, rfl⟩ := hv.slice
    clear hv h0
    go_enter Tryz.func87, Tryz.ntmps87
    go_wp2_with fail
    go_loopw [5] (fun kv wr => kv = .int .i64 0 ∧ wr = w) (fun _ _ => 0)
    case atStart => exact ⟨rfl, rfl⟩
    case round =>
      obtain ⟨rfl, rfl⟩ := hrel
      go_wp2_with fail
      go_ret
      exact ⟨rfl, rfl⟩
  · obtain ⟨g, cap, rfl, _, _, hc1, hc2, hA⟩ := hv.iat h0
    have HA := Lib.hid hA
    have HBd := Lib.hid hb
    obtain ⟨N, hN⟩ : ∃ N, N = l.length := ⟨_, rfl⟩
    have HN := Lib.hid hN
    rw [← hN] at hc1 ⊢
    have hN2 : N ≤ 9223372036854775807 := by omega
    clear hv h0 hA hN hb
    go_enter Tryz.func87, Tryz.ntmps87
    go_wp2_with fail
    go_loopw [5] (fun kv wr => ∃ c : Nat, c ≤ N ∧ kv = .int .i64 c ∧ wr = w) (fun kv _ => (9223372036854775807 - intOf kv).toNat)
    case atStart => exact ⟨0, by omega, rfl, rfl⟩
    case round =>
      obtain ⟨c, hc, rfl, rfl⟩ := hrel
      by_cases hlt : c < N
      · have c0 : (c : Int) < (N : Int) := by omega
        have c2 : (c : Int) ≤ 9223372036854775807 := by omega
        have hcl : c < l.length := by rw [← HN.out]; exact hlt
        have hcell := HA.out c hcl
        have hbd := HBd.out _ (List.getElem_mem hcl)
        generalize l[c] = x at *
        clear hcl
        go_wp2_with fail
        refine ⟨⟨c + 1, by omega, by go_num, by trivial⟩, ?_⟩
        simp [intOf]; omega
      · obtain rfl : c = N := by omega
        go_wp2_with fail
        go_ret
        exact ⟨rfl, rfl⟩
set_option maxHeartbeats 4000000 in
theorem rints_any (v u : Value) (l : List Int) (b1 b2 : Nat) (w : World) (hv : OwnI w b1 v l) (hu : OwnI w b2 u l) :
    Calls Tryz.prog 41 #[v, u] w fun e w' => e = .returned (.bool true) ∧ Below w.heap.size w w' := by
  rcases Nat.eq_zero_or_pos l.length with h0 | h0
  · obtain rfl := List.eq_nil_of_length_eq_zero h0
    obtain ⟨a, cap, rfl⟩ := hv.slice
    obtain ⟨a2, cap2, rfl⟩ := hu.slice
    clear hv hu h0
    go_enter Tryz.func41, Tryz.ntmps41
    go_wp2_with fail
    go_loopw [5] (fun kv wr => kv = .int .i64 0 ∧ Below w.heap.size w wr) (fun _ _ => 0)
    case atStart => exact ⟨rfl, Below.refl _ _⟩
    case round =>
      obtain ⟨rfl, hb⟩ := hrel
      go_wp2_with fail
      go_ret
      exact ⟨rfl, hb⟩
  · obtain ⟨g, cap, rfl, _, hg, hc1, hc2, hA⟩ := hv.iat h0
    obtain ⟨k, cap', rfl, _, hk, hc3, hc4, hA2⟩ := hu.iat h0
    have HA := Lib.hid hA
    have HA2 := Lib.hid hA2
    have HG := Lib.hid (And.intro hg hk)
    obtain ⟨N, hN⟩ : ∃ N, N = l.length := ⟨_, rfl⟩
    have HN := Lib.hid hN
    rw [← hN] at hc1 hc3 ⊢
    have hN2 : N ≤ 9223372036854775807 := by omega
    clear hv hu h0 hA hN hA2 hg hk
    go_enter Tryz.func41, Tryz.ntmps41
    go_wp2_with fail
    go_loopw [5] (fun kv wr => ∃ c : Nat, c ≤ N ∧ kv = .int .i64 c ∧ Hid (Below w.heap.size w wr)) (fun kv _ => (9223372036854775807 - intOf kv).toNat)
    case atStart => exact ⟨0, by omega, rfl, Below.refl _ _⟩
    case round =>
      obtain ⟨c, hc, rfl, hs⟩ := hrel
      by_cases hlt : c < N
      · have c0 : (c : Int) < (N : Int) := by omega
        have c2 : (c : Int) ≤ 9223372036854775807 := by omega
        have hcl : c < l.length := by rw [← HN.out]; exact hlt
        have hcell := (HA.out.below hs.out HG.out.1) c hcl
        have hcell2 := (HA2.out.below hs.out HG.out.2) c hcl
        generalize l[c] = x at *
        have HC := Lib.hid (And.intro hcell hcell2)
        have HIx := Lib.hid (And.intro (show (c : Int) < (N : Int) from c0) (show c < N from hlt))
        clear hcl hcell hcell2
        go_upto_region 6 with fail
        refine wp_region_seq (by kernel_rfl) (fun w' => w'.cell? ⟨g, c, none⟩ = some (.int .i64 x) ∧ w'.cell? ⟨k, c, none⟩ = some (.int .i64 x)) [(0, true), (1, true), (2, true), (3, true), (4, true), (5, true), (6, true), (7, true), (8, true)] (by kernel_rfl) (HC.out) ?_
        refine seq_q (d := some 17) rfl rfl rfl (.slice (some ⟨g, 0, none⟩) N cap) (fun w hw => rfl) ?_
        simp only [ap_s, ap_n, ls_z, ls_s]
        refine seq_q (d := some 18) rfl rfl rfl (.int .i64 (c : Int)) (fun w hw => rfl) ?_
        simp only [ap_s, ap_n, ls_z, ls_s]
        refine seq_q (d := some 19) rfl rfl rfl (.pointer (some ⟨g, c, none⟩)) (fun w hw => by have i1 := HIx.out.1; simp [execOp, Act.eval, go_sem, i1]) ?_
        simp only [ap_s, ap_n, ls_z, ls_s]
        refine seq_q (d := some 20) rfl rfl rfl (.int .i64 x) (fun w hw => by have c := hw.1; simp [execOp, Act.eval, go_sem, c]) ?_
        simp only [ap_s, ap_n, ls_z, ls_s]
        refine seq_q (d := some 21) rfl rfl rfl (.slice (some ⟨k, 0, none⟩) N cap') (fun w hw => rfl) ?_
        simp only [ap_s, ap_n, ls_z, ls_s]
        refine seq_q (d := some 22) rfl rfl rfl (.int .i64 (c : Int)) (fun w hw => rfl) ?_
        simp only [ap_s, ap_n, ls_z, ls_s]
        refine seq_q (d := some 23) rfl rfl rfl (.pointer (some ⟨k, c, none⟩)) (fun w hw => by have i1 := HIx.out.1; simp [execOp, Act.eval, go_sem, i1]) ?_
        simp only [ap_s, ap_n, ls_z, ls_s]
        refine seq_q (d := some 24) rfl rfl rfl (.int .i64 x) (fun w hw => by have c := hw.2; simp [execOp, Act.eval, go_sem, c]) ?_
        simp only [ap_s, ap_n, ls_z, ls_s]
        refine seq_q (d := some 25) rfl rfl rfl (.bool false) (fun w hw => by simp [execOp, Act.eval, go_sem]) ?_
        simp only [ap_s, ap_n, ls_z, ls_s]
        refine seq_end ?_
        have HS2 := Lib.hid (hs.out.drew)
        go_wp2_with fail
        refine ⟨⟨c + 1, by omega, by go_num, HS2⟩, ?_⟩
        simp [intOf]; omega
      · obtain rfl : c = N := by omega
        go_wp2_with fail
        go_ret
        exact ⟨rfl, hs.out⟩
end Go.Proofs.YtkpgciimhjkajaaGreatDoor
