/- Part 14 of the proof: laws on memory and what functions of the program return. No conditions but those that each theorem names. -/
import Derived.Test.YtkpgciimhjkajaaGreatDoorR13
set_option linter.unusedVariables false
set_option linter.unusedSimpArgs false
/- The reference's model: Accelerate. -/
namespace Go.Proofs.YtkpgciimhjkajaaGreatDoor
open Go Go.RowKit
theorem append_li {w : World} {base : Nat} {v : Value} {l : List Int} (h : OwnI w base v l) (hl : l.length ≤ 1000000) (ty : TypeId) :
    ∃ (v' : Value) (w' : World), (Builtin.append_ #[34, 34] ty #[.slice none 0 0, v]).run Tryz.prog w = .ok v' w' ∧ OwnI w' w.heap.size v' l ∧ Below w.heap.size w w' := by
  obtain ⟨i0, hinf, hz0, hz1, hz2⟩ := info_parts iinfo
  rcases Nat.eq_zero_or_pos l.length with h0 | h0
  · obtain rfl := List.eq_nil_of_length_eq_zero h0
    obtain ⟨a, c, rfl⟩ := h.slice
    refine ⟨.slice none 0 0, w, ?_, OwnI.nil _ _, Below.refl _ _⟩
    cases a <;> simp [Builtin.append_, run_underlying Tryz.underlying34, sizeOf, typeInfo, hinf, Builtin.lenOf, Builtin.firstCells, loadCells, loadCellsFrom]
  · obtain ⟨g, cap, rfl, _, _, h1, h2, hA⟩ := h.iat h0
    obtain ⟨v', w', a1, a2, a3, _, _⟩ := run_append_own_at (P := Tryz.prog) (w := w) w.heap.size 34 ty 3 i0 _ 1 8 Tryz.underlying34 hinf hz0 hz1 hz2 rfl (by omega)
      (.slice none 0 0) 0 [] (World.ownsRow_nil _ _ _ _) ⟨g, 0, none⟩ l.length cap (ics l) (by simp [ics]) (fun j u hj => by
        have hj2 : j < l.length := by
          rcases Nat.lt_or_ge j l.length with h | h
          · exact h
          · rw [List.getElem?_eq_none (by simpa [ics] using h)] at hj; cases hj
        have := hA j hj2
        simp [ics, hj2] at hj
        subst hj
        have e : (⟨g, 0, none⟩ : Addr).add j = ⟨g, j, none⟩ := by unfold Addr.add; split <;> simp_all
        rw [e]; exact this)
      (by intro u hu; simp [ics] at hu; obtain ⟨x, _, rfl⟩ := hu; rfl) (by unfold maxLen; omega) (by omega) (Nat.le_refl _)
    refine ⟨v', w', a1, ?_, (Below.refl _ w).grown a3 (Nat.le_refl _) (fun k hk => by cases hk)⟩
    unfold OwnI
    rw [Nat.zero_add] at a2
    exact a2
set_option maxRecDepth 100000 in
set_option maxHeartbeats 16000000 in
theorem raccel_any (n : Nat) (hn : Fq n) (fr sl mv : Int) (hsc : outB [fr, sl, mv] 1 4 = false) (dv fv : Value) (D F : List Int) (B0 : Nat) (w : World) (hok : SOk n D F) (hd : OwnI w B0 dv D) (hf : OwnI w B0 fv F) :
    Calls Tryz.prog 59 #[.agg #[.int .i64 fr, .int .i64 sl, .int .i64 mv], stv n dv fv] w fun e w' => ∃ dv' fv', e = .returned (.tuple #[stv n dv' fv', .int .i64 0]) ∧ OwnI w' w.heap.size dv' D ∧ OwnI w' w.heap.size fv' (accN n fr sl D F) ∧ Below w.heap.size w w' := by
  obtain ⟨w1, hw1⟩ : ∃ u, u = ((w.alloc (.cells #[.int .i64 fr, .int .i64 sl, .int .i64 mv] 24)).alloc (.cells #[.int .i64 (n : Int), dv, fv] 36)).alloc (.cells #[.int .i64 0, .slice none 0 0, .slice none 0 0] 36) := ⟨_, rfl⟩
  have hb1 : Below w.heap.size w w1 := by rw [hw1]; exact (((Below.refl _ _).alloc (Nat.le_refl _) _).alloc (by simp) _).alloc (by simp; omega) _
  have hC1 : RowAt w1 w.heap.size [.int .i64 fr, .int .i64 sl, .int .i64 mv] := by rw [hw1]; exact ((RowAt.new _ [.int .i64 fr, .int .i64 sl, .int .i64 mv] (by simp) _ rfl).alloc _).alloc _
  have hS1 : RowAt w1 (w.heap.size + 1) [.int .i64 (n : Int), dv, fv] := by rw [hw1]; exact (RowAt.new _ [.int .i64 (n : Int), dv, fv] (by simp) _ (by simp)).alloc _
  have hR1 : RowAt w1 (w.heap.size + 1 + 1) [.int .i64 0, .slice none 0 0, .slice none 0 0] := by rw [hw1]; exact RowAt.new _ [.int .i64 0, .slice none 0 0, .slice none 0 0] (by simp) _ (by simp)
  have HSh : Hid (0 ≤ fr ∧ 0 ≤ sl ∧ fr ≤ 4 ∧ sl ≤ 4) := by unfold Hid; simp [outB, outV] at hsc; omega
  have HSc := Lib.hid (rscheme_any fr sl mv w1)
  rw [hsc] at HSc
  have HFix := Lib.hid (And.intro hn hok)
  have HL1 := Lib.hid (And.intro (hd.below hb1) (hf.below hb1))
  have HB1 := Lib.hid hb1
  have Hw1 := Lib.hid hw1
  have HR1 := Lib.hid (And.intro hC1 (And.intro hS1 hR1))
  obtain ⟨da, dn, dc, rfl⟩ : ∃ a m c, dv = .slice a m c := by obtain ⟨a, c, h⟩ := hd.slice; exact ⟨a, _, c, h⟩
  obtain ⟨fa, fn, fc, rfl⟩ : ∃ a m c, fv = .slice a m c := by obtain ⟨a, c, h⟩ := hf.slice; exact ⟨a, _, c, h⟩
  have c0 := hC1.at 0 rfl
  have c1 := hC1.at 1 rfl
  have c2 := hC1.at 2 rfl
  clear hn hok hb1 hw1 hsc hd hf hC1 hS1 hR1
  unfold stv
  go_enter Tryz.func59, Tryz.ntmps59
  go_upto_region 1 with fail
  rw [← Hw1.out]
  go_wp2_with fail
  clear c0 c1 c2
  refine HSc.out.mono ?_
  rintro e w2 ⟨he, hb2⟩
  obtain rfl : e = .returned (.int .i64 0) := he
  have HR2 := Lib.hid (And.intro (HR1.out.1.below hb2) (And.intro (HR1.out.2.1.below hb2) (HR1.out.2.2.below hb2)))
  have HB2 := Lib.hid (below_then HB1.out hb2)
  have HL2 := Lib.hid (And.intro (HL1.out.1.below hb2) (HL1.out.2.below hb2))
  have HSl := Lib.hid (rslopes_any n HFix.out.1 _ _ D F B0 w2 HFix.out.2 HL2.out.1 HL2.out.2)
  have c0 := HR2.out.2.1.at 0 rfl
  have c1 := HR2.out.2.1.at 1 rfl
  have c2 := HR2.out.2.1.at 2 rfl
  clear hb2 HR1 HB1 HL1 HSc
  go_wp2_with fail
  clear c0 c1 c2
  refine HSl.out.mono ?_
  rintro e w3 ⟨sv, rfl, hsv, hb3⟩
  obtain ⟨sa, sn, sc, rfl⟩ : ∃ a m c, sv = .slice a m c := by obtain ⟨a, c, h⟩ := hsv.slice; exact ⟨a, _, c, h⟩
  have HR3 := Lib.hid (And.intro (HR2.out.1.below hb3) (And.intro (HR2.out.2.1.below hb3) (HR2.out.2.2.below hb3)))
  have HB3 := Lib.hid (below_then HB2.out hb3)
  have HL3 := Lib.hid (And.intro (HL2.out.1.below hb3) (And.intro (HL2.out.2.below hb3) (hsv.mono (Nat.zero_le _))))
  have HDl : Hid (D.length ≤ 1000000) := by
    have h1 := HFix.out.2.dl
    have h8 : n ≤ 8 := HFix.out.1.2
    have := Nat.mul_le_mul (Nat.mul_le_mul_left 10 h8) h8
    unfold Hid; omega
  clear hb3 hsv HR2 HB2 HL2 HSl
  go_wp2_with fail
  refine region_cut (fun a W => ∃ yb v31, a = { tmps := ([.agg #[.int .i64 fr, .int .i64 sl, .int .i64 mv], .agg #[.int .i64 (n : Int), .slice da dn dc, .slice fa fn fc], .pointer (some ⟨w.heap.size, 0, none⟩), .pointer (some ⟨w.heap.size + 1, 0, none⟩), .pointer (some ⟨w.heap.size + 1 + 1, 0, none⟩), .int .i64 0, .int .i64 0, .slice sa sn sc, .int .i64 0, .pointer (some ⟨yb, 0, none⟩), undef, undef, .agg #[.int .i64 fr, .int .i64 sl, .int .i64 mv]] ++ ([.int .i64 0, .int .i64 0, .bool false, undef, undef, .tuple #[.slice sa sn sc, .int .i64 0], .agg #[.int .i64 (n : Int), .slice da dn dc, .slice fa fn fc], .tuple #[.slice sa sn sc, .int .i64 0], .slice sa sn sc, .int .i64 0, .int .i64 0, .bool false, undef] ++ ([undef, .pointer (some ⟨w.heap.size + 1, 0, none⟩), .int .i64 (n : Int), .pointer (some ⟨w.heap.size + 1, 1, none⟩), .slice da dn dc, v31, .agg #[.int .i64 (n : Int), v31, .slice none 0 0], undef, undef, undef, undef, undef, undef] ++ ([undef, undef, undef, undef, undef, undef, undef, undef, undef, undef, undef, undef, undef] ++ ([undef, undef, undef, undef, undef, undef, undef, undef, undef, undef, undef, undef, undef] ++ ([undef, undef, undef, undef, undef, undef])))))).toArray, defers := [] } ∧ M7 n D w3 W yb v31) ?_ ?_
  · have HB0 : Hid (Below w3.heap.size w3 w3.drew) := (Below.refl _ _).drew
    refine wp_region_tree (by kernel_rfl) (fun w' => RowAt w' (w.heap.size + 1) [.int .i64 (n : Int), .slice da dn dc, .slice fa fn fc]) 7 (.q 0 0 (.q 1 1 (.q 2 0 (.q 3 1 (.fork (.e 4 (.q 5 0 (.e 6 (.e 7 (.nil))))) (.e 6 (.e 4 (.q 5 0 (.e 7 (.nil)))))))))) (by kernel_rfl) (HR3.out.2.1.drew) ?_
    refine tr_q (d := some 27) rfl rfl rfl (.pointer (some ⟨w.heap.size + 1, 0, none⟩)) (fun w => by go_simp) ?_
    simp only [ap_s, ap_n, ls_z, ls_s]
    refine tr_s (d := some 28) rfl rfl rfl (.int .i64 (n : Int)) (fun w hw => by have c := hw.at 0 rfl; simp [execOp, Act.eval, go_sem, c]) ?_
    simp only [ap_s, ap_n, ls_z, ls_s]
    refine tr_q (d := some 29) rfl rfl rfl (.pointer (some ⟨w.heap.size + 1, 1, none⟩)) (fun w => by go_simp) ?_
    simp only [ap_s, ap_n, ls_z, ls_s]
    refine tr_s (d := some 30) rfl rfl rfl (.slice da dn dc) (fun w hw => by have c := hw.at 1 rfl; simp [execOp, Act.eval, go_sem, c]) ?_
    simp only [ap_s, ap_n, ls_z, ls_s]
    refine tr_fork ?_ ?_
    · obtain ⟨vv, W1, hrun, hv, hb⟩ := append_li (HL3.out.1.below HB0.out) HDl.out 34
      obtain ⟨pa, pc, rfl⟩ := hv.slice
      have HB1 := Lib.hid (below_then HB0.out hb)
      refine tr_run (d := some 31) rfl rfl rfl (.slice pa D.length pc) W1 (run_append _ _ _ rfl _ _ rfl rfl hrun) (fun _ => HR3.out.2.1.below HB1.out) ?_
      simp only [ap_s, ap_n, ls_z, ls_s]
      have Hd1 := Lib.hid (hv.mono (B := w3.heap.size) HB0.out.size)
      have HZ1 : Hid (∀ g, (.slice pa D.length pc : Value).ownBlock = some g → w3.drew.heap.size ≤ g ∧ g < W1.heap.size) := hv.lt
      have hz1 : w3.drew.heap.size ≤ W1.heap.size := hb.size
      clear hv hb hrun
      refine tr_q (d := some 32) rfl rfl rfl (.agg #[.int .i64 (n : Int), .slice pa D.length pc, .slice none 0 0]) (fun w => by simp [execOp, Act.eval, go_sem]) ?_
      simp only [ap_s, ap_n, ls_z, ls_s]
      obtain ⟨W2, hw⟩ : ∃ u, u = W1.alloc (.cells #[.int .i64 0, .slice none 0 0, .slice none 0 0] 36) := ⟨_, rfl⟩
      obtain ⟨yb, hy⟩ : ∃ u, u = W1.heap.size := ⟨_, rfl⟩
      have hb : Below W1.heap.size W1 W2 := by rw [hw]; exact (Below.refl _ _).alloc (Nat.le_refl _) _
      have HB2 := Lib.hid (below_then HB1.out hb)
      have Hd2 := Lib.hid (Hd1.out.below hb)
      clear Hd1
      have Hy2 : Hid (RowAt W2 yb [.int .i64 0, .slice none 0 0, .slice none 0 0]) := by rw [hw]; exact RowAt.new _ [.int .i64 0, .slice none 0 0, .slice none 0 0] (by simp) _ hy.symm
      have HZ2 : Hid (W1.heap.size ≤ yb ∧ yb < W2.heap.size) := ⟨Nat.le_of_eq hy.symm, Hy2.out.lt⟩
      have hz2 : W1.heap.size ≤ W2.heap.size := hb.size
      refine tr_run (d := some 9) rfl rfl rfl (.pointer (some ⟨yb, 0, none⟩)) W2 (by rw [hw, hy]; simp [execOp, Act.eval, go_sem]) (fun _ => HR3.out.2.1.below HB2.out) ?_
      simp only [ap_s, ap_n, ls_z, ls_s]
      clear hw hy hb
      have q1 := HZ1.out
      have q3 := HZ2.out
      have q0 : w3.heap.size ≤ w3.drew.heap.size := Nat.le_refl _
      have yd : (.slice pa D.length pc : Value).ownBlock ≠ some yb := fun e => by have := q1 yb e; omega
      have ly : w3.heap.size ≤ yb := by omega
      refine tr_rowst (d := none) rfl rfl rfl _ _ rfl yb rfl [.int .i64 0, .slice none 0 0, .slice none 0 0] [.int .i64 (n : Int), .slice pa D.length pc, .slice none 0 0] rfl Hy2.out rfl rowT_st (by intro v hv; simp at hv; rcases hv with rfl | rfl | rfl <;> rfl) ?_
      intro W9 hr ha
      refine ⟨(fun h => by cases h), ?_⟩
      simp only [ap_s, ap_n, ls_z, ls_s]
      refine tr_end ?_
      exact ⟨rfl, yb, _, rfl, hr, ly, Hd2.out.apart ha yd, HB2.out.trans (ha.below ly), yd⟩
    · obtain ⟨W1, hw⟩ : ∃ u, u = w3.drew.alloc (.cells #[.int .i64 0, .slice none 0 0, .slice none 0 0] 36) := ⟨_, rfl⟩
      obtain ⟨yb, hy⟩ : ∃ u, u = w3.drew.heap.size := ⟨_, rfl⟩
      have hb : Below w3.drew.heap.size w3.drew W1 := by rw [hw]; exact (Below.refl _ _).alloc (Nat.le_refl _) _
      have HB1 := Lib.hid (below_then HB0.out hb)
      have Hy1 : Hid (RowAt W1 yb [.int .i64 0, .slice none 0 0, .slice none 0 0]) := by rw [hw]; exact RowAt.new _ [.int .i64 0, .slice none 0 0, .slice none 0 0] (by simp) _ hy.symm
      have HZ1 : Hid (w3.drew.heap.size ≤ yb ∧ yb < W1.heap.size) := ⟨Nat.le_of_eq hy.symm, Hy1.out.lt⟩
      have hz1 : w3.drew.heap.size ≤ W1.heap.size := hb.size
      refine tr_run (d := some 9) rfl rfl rfl (.pointer (some ⟨yb, 0, none⟩)) W1 (by rw [hw, hy]; simp [execOp, Act.eval, go_sem]) (fun _ => HR3.out.2.1.below HB1.out) ?_
      simp only [ap_s, ap_n, ls_z, ls_s]
      clear hw hy hb
      obtain ⟨vv, W2, hrun, hv, hb⟩ := append_li (HL3.out.1.below HB1.out) HDl.out 34
      obtain ⟨pa, pc, rfl⟩ := hv.slice
      have HB2 := Lib.hid (below_then HB1.out hb)
      refine tr_run (d := some 31) rfl rfl rfl (.slice pa D.length pc) W2 (run_append _ _ _ rfl _ _ rfl rfl hrun) (fun _ => HR3.out.2.1.below HB2.out) ?_
      simp only [ap_s, ap_n, ls_z, ls_s]
      have Hy2 := Lib.hid (Hy1.out.below hb)
      clear Hy1
      have Hd2 := Lib.hid (hv.mono (B := w3.heap.size) HB1.out.size)
      have HZ2 : Hid (∀ g, (.slice pa D.length pc : Value).ownBlock = some g → W1.heap.size ≤ g ∧ g < W2.heap.size) := hv.lt
      have hz2 : W1.heap.size ≤ W2.heap.size := hb.size
      clear hv hb hrun
      refine tr_q (d := some 32) rfl rfl rfl (.agg #[.int .i64 (n : Int), .slice pa D.length pc, .slice none 0 0]) (fun w => by simp [execOp, Act.eval, go_sem]) ?_
      simp only [ap_s, ap_n, ls_z, ls_s]
      have q1 := HZ2.out
      have q3 := HZ1.out
      have q0 : w3.heap.size ≤ w3.drew.heap.size := Nat.le_refl _
      have yd : (.slice pa D.length pc : Value).ownBlock ≠ some yb := fun e => by have := q1 yb e; omega
      have ly : w3.heap.size ≤ yb := by omega
      refine tr_rowst (d := none) rfl rfl rfl _ _ rfl yb rfl [.int .i64 0, .slice none 0 0, .slice none 0 0] [.int .i64 (n : Int), .slice pa D.length pc, .slice none 0 0] rfl Hy2.out rfl rowT_st (by intro v hv; simp at hv; rcases hv with rfl | rfl | rfl <;> rfl) ?_
      intro W9 hr ha
      refine ⟨(fun h => by cases h), ?_⟩
      simp only [ap_s, ap_n, ls_z, ls_s]
      refine tr_end ?_
      exact ⟨rfl, yb, _, rfl, hr, ly, Hd2.out.apart ha yd, HB2.out.trans (ha.below ly), yd⟩
  rintro a w5 ⟨yb, v31, rfl, hM⟩
  simp only [List.cons_append, List.nil_append]
  obtain ⟨ya, yn, yc, rfl⟩ : ∃ a m c, v31 = .slice a m c := by obtain ⟨a, c, h⟩ := hM.od.slice; exact ⟨a, _, c, h⟩
  have HM := Lib.hid hM
  have HR5 := Lib.hid (And.intro (HR3.out.1.below hM.be) (And.intro (HR3.out.2.1.below hM.be) (HR3.out.2.2.below hM.be)))
  have HL5 := Lib.hid (And.intro (HL3.out.2.1.below hM.be) (HL3.out.2.2.below hM.be))
  have HLb : Hid ((∀ g, (Value.slice fa fn fc).ownBlock = some g → g < w3.heap.size) ∧ (∀ g, (Value.slice sa sn sc).ownBlock = some g → g < w3.heap.size) ∧ w.heap.size + 1 + 1 < w3.heap.size) := ⟨fun g hg => (HL3.out.2.1.lt g hg).2, fun g hg => (HL3.out.2.2.lt g hg).2, HR3.out.2.2.lt⟩
  have HAc : Hid (Ac n w5 w5 yb (.slice ya yn yc) (.slice none 0 0) []) := ⟨hM.row, OwnI.nil _ _, But.refl _ _ _⟩
  have hfn : fn = F.length := by obtain ⟨a, c, h⟩ := HL5.out.1.slice; injection h with _ h _
  have hsn : sn = fn := by obtain ⟨a, c, h⟩ := HL5.out.2.slice; injection h with _ h _; rw [h, hfn]; simp [slN]; exact HFix.out.2.fl.symm
  have HN : Hid (fn = F.length ∧ sn = fn) := And.intro hfn hsn
  have hsn9 : (sn : Int) ≤ 9000 := by have := edgesN_le HFix.out.1; have := HFix.out.2.fl; omega
  clear hM hfn hsn HR3 HL3
  go_wp2_with fail
  go_loopw [10] (fun kv wr => ∃ (c : Nat), c ≤ sn ∧ kv = .int .i64 c ∧ Hid (∃ v, Ac n w5 wr yb (.slice ya yn yc) v ((accN n fr sl D F).take c))) (fun kv _ => (10000 - intOf kv).toNat)
  case atStart => exact ⟨0, by omega, rfl, _, HAc.out⟩
  case round =>
    clear HAc
    obtain ⟨c, hc, rfl, hs⟩ := hrel
    by_cases hlt : c < sn
    · obtain ⟨v, hs⟩ := hs.out
      obtain ⟨va, vn, vc, rfl⟩ : ∃ a m c, v = .slice a m c := by obtain ⟨a, c, h⟩ := hs.own.slice; exact ⟨a, _, c, h⟩
      have hcF : c < F.length := by rw [← HN.out.1, ← HN.out.2]; exact hlt
      have hcl : c < (edgesN n).length := by rw [← HFix.out.2.fl]; exact hcF
      have c9 : (c : Int) ≤ 9000 := by have := edgesN_le HFix.out.1; omega
      have hsl : c < (slN n D).length := by simp [slN]; exact hcl
      have HStp := Lib.hid (accN_take (fr := fr) (sl := sl) hcF hsl)
      obtain ⟨fg, _, e1, _, hfl, hfc, hfm, hFa⟩ := HL5.out.1.iat (by omega)
      obtain ⟨sg, _, e2, _, hsl2, hsc2, hsm, hSa⟩ := HL5.out.2.iat (by omega)
      obtain ⟨rfl, hfn2, hfc2⟩ : fa = some ⟨fg, 0, none⟩ ∧ fn = _ ∧ fc = _ := by injection e1 with e1 e2 e3; exact ⟨e1, e2, e3⟩
      obtain ⟨rfl, hsn, hsc3⟩ : sa = some ⟨sg, 0, none⟩ ∧ sn = (slN n D).length ∧ sc = _ := by injection e2 with e1 e2 e3; exact ⟨e1, e2, e3⟩
      have hfb := HLb.out.1 fg rfl
      have hsb := HLb.out.2.1 sg rfl
      have hl3 := HM.out.lo
      have h35 := HM.out.be.size
      have qf : wr.cell? ⟨fg, c, none⟩ = some (.int .i64 F[c]) := by rw [hs.but.cell (p := ⟨fg, c, none⟩) (by simp; omega) (by simp; omega)]; exact hFa c hcF
      have qs : wr.cell? ⟨sg, c, none⟩ = some (.int .i64 (slN n D)[c]) := by rw [hs.but.cell (p := ⟨sg, c, none⟩) (by simp; omega) (by simp; omega)]; exact hSa c hsl
      have hCw : RowAt wr w.heap.size [.int .i64 fr, .int .i64 sl, .int .i64 mv] := HR5.out.1.of_block (hs.but.block _ HR5.out.1.lt (by have := HLb.out.2.2; omega))
      have hSw : RowAt wr (w.heap.size + 1) [.int .i64 (n : Int), .slice da dn dc, .slice (some ⟨fg, 0, none⟩) fn fc] := HR5.out.2.1.of_block (hs.but.block _ HR5.out.2.1.lt (by have := HLb.out.2.2; omega))
      have bf := HFix.out.2.fr _ (List.getElem_mem hcF)
      have bs := slN_bnd HFix.out.1 HFix.out.2 _ (List.getElem_mem hsl)
      have HCs : Hid ((c : Int) < (sn : Int) ∧ (c : Int) < (fn : Int)) := by unfold Hid; omega
      generalize (slN n D)[c] = ds at *
      generalize F[c] = f1 at *
      have b1 := shrI_bnd (s := fr) bf.1 bf.2
      have b2 := shrI_bnd (s := sl) bs.1 bs.2
      have HS11 := Lib.hid (And.intro hCw (And.intro qs (And.intro hSw qf)))
      have HSx : Hid ((∀ x, shrI x fr = x.fdiv (2 ^ (min fr.toNat 64))) ∧ (∀ x, shrI x sl = x.fdiv (2 ^ (min sl.toNat 64)))) := ⟨fun _ => rfl, fun _ => rfl⟩
      have HWr : Hid (IntKind.i64.wrap (f1 - shrI f1 fr) = f1 - shrI f1 fr ∧ IntKind.i64.wrap (f1 - shrI f1 fr + shrI ds sl) = f1 - shrI f1 fr + shrI ds sl) := ⟨IntWalk.i64_in _ (by omega), IntWalk.i64_in _ (by omega)⟩
      have HSt := Lib.hid hs
      have hz : (c : Int) < 10000 := by omega
      have hlt2 : (c : Int) < (sn : Int) := HCs.out.1
      have HLt : Hid (((accN n fr sl D F).take c).length ≤ 1000000) := by unfold Hid; rw [List.length_take]; omega
      clear hs hCw hSw qs qf bf bs b1 b2 hsl2 hsc2 hsm hSa hfl hfm hFa e1 e2 hcl hsl hcF hfb hsb hl3 h35 hsn hsc3 hfc2 hfn2
      go_upto_region 11 with fail
      refine wp_region_seq (by kernel_rfl) (fun w' => RowAt w' w.heap.size [.int .i64 fr, .int .i64 sl, .int .i64 mv] ∧ w'.cell? ⟨sg, c, none⟩ = some (.int .i64 ds) ∧ RowAt w' (w.heap.size + 1) [.int .i64 (n : Int), .slice da dn dc, .slice (some ⟨fg, 0, none⟩) fn fc] ∧ w'.cell? ⟨fg, c, none⟩ = some (.int .i64 f1)) [(0, true), (1, true), (2, true), (3, true), (4, true), (5, true), (6, true), (7, true), (8, true), (9, true), (10, true), (11, true), (12, true), (13, true), (14, true), (15, true), (16, true), (17, true), (18, true), (19, true), (20, true), (21, true), (22, true), (23, true), (24, true)] (by kernel_rfl) (⟨HS11.out.1.drew, HS11.out.2.1, HS11.out.2.2.1.drew, HS11.out.2.2.2⟩) ?_
      refine seq_q (d := some 39) rfl rfl rfl (.pointer (some ⟨w.heap.size + 1, 2, none⟩)) (fun w hw => by go_simp) ?_
      simp only [ap_s, ap_n, ls_z, ls_s]
      refine seq_q (d := some 40) rfl rfl rfl (.slice (some ⟨fg, 0, none⟩) fn fc) (fun w hw => by have c := hw.2.2.1.at 2 rfl; simp [execOp, Act.eval, go_sem, c]) ?_
      simp only [ap_s, ap_n, ls_z, ls_s]
      refine seq_q (d := some 41) rfl rfl rfl (.int .i64 (c : Int)) (fun w hw => rfl) ?_
      simp only [ap_s, ap_n, ls_z, ls_s]
      refine seq_q (d := some 42) rfl rfl rfl (.pointer (some ⟨fg, c, none⟩)) (fun w hw => by have i1 := HCs.out.2; simp [execOp, Act.eval, go_sem, i1]) ?_
      simp only [ap_s, ap_n, ls_z, ls_s]
      refine seq_q (d := some 43) rfl rfl rfl (.int .i64 f1) (fun w hw => by have c := hw.2.2.2; simp [execOp, Act.eval, go_sem, c]) ?_
      simp only [ap_s, ap_n, ls_z, ls_s]
      refine seq_q (d := some 44) rfl rfl rfl (.pointer (some ⟨w.heap.size + 1, 2, none⟩)) (fun w hw => by go_simp) ?_
      simp only [ap_s, ap_n, ls_z, ls_s]
      refine seq_q (d := some 45) rfl rfl rfl (.slice (some ⟨fg, 0, none⟩) fn fc) (fun w hw => by have c := hw.2.2.1.at 2 rfl; simp [execOp, Act.eval, go_sem, c]) ?_
      simp only [ap_s, ap_n, ls_z, ls_s]
      refine seq_q (d := some 46) rfl rfl rfl (.int .i64 (c : Int)) (fun w hw => rfl) ?_
      simp only [ap_s, ap_n, ls_z, ls_s]
      refine seq_q (d := some 47) rfl rfl rfl (.pointer (some ⟨fg, c, none⟩)) (fun w hw => by have i1 := HCs.out.2; simp [execOp, Act.eval, go_sem, i1]) ?_
      simp only [ap_s, ap_n, ls_z, ls_s]
      refine seq_q (d := some 48) rfl rfl rfl (.int .i64 f1) (fun w hw => by have c := hw.2.2.2; simp [execOp, Act.eval, go_sem, c]) ?_
      simp only [ap_s, ap_n, ls_z, ls_s]
      refine seq_q (d := some 49) rfl rfl rfl (.pointer (some ⟨w.heap.size, 0, none⟩)) (fun w hw => by go_simp) ?_
      simp only [ap_s, ap_n, ls_z, ls_s]
      refine seq_q (d := some 50) rfl rfl rfl (.int .i64 fr) (fun w hw => by have c := hw.1.at 0 rfl; simp [execOp, Act.eval, go_sem, c]) ?_
      simp only [ap_s, ap_n, ls_z, ls_s]
      refine seq_q (d := some 51) rfl rfl rfl (.int .u64 fr) (fun w hw => by have h : IntKind.u64.wrap fr = fr := (by rw [IntKind.wrap_u64]; have := HSh.out; omega); simp [execOp, Act.eval, go_sem, h]) ?_
      simp only [ap_s, ap_n, ls_z, ls_s]
      refine seq_q (d := some 52) rfl rfl rfl (.int .i64 (shrI f1 fr)) (fun w hw => by have h1 := HSx.out.1 f1; have h2 : ¬ fr < 0 := (by have := HSh.out; omega); simp [execOp, Act.eval, go_sem, Op.shift, h1, h2]) ?_
      simp only [ap_s, ap_n, ls_z, ls_s]
      refine seq_q (d := some 53) rfl rfl rfl (.int .i64 (f1 - shrI f1 fr)) (fun w hw => by have c := HWr.out.1; simp [execOp, Act.eval, go_sem, c]) ?_
      simp only [ap_s, ap_n, ls_z, ls_s]
      refine seq_q (d := some 54) rfl rfl rfl (.slice (some ⟨sg, 0, none⟩) sn sc) (fun w hw => rfl) ?_
      simp only [ap_s, ap_n, ls_z, ls_s]
      refine seq_q (d := some 55) rfl rfl rfl (.int .i64 (c : Int)) (fun w hw => rfl) ?_
      simp only [ap_s, ap_n, ls_z, ls_s]
      refine seq_q (d := some 56) rfl rfl rfl (.pointer (some ⟨sg, c, none⟩)) (fun w hw => by have i1 := HCs.out.1; simp [execOp, Act.eval, go_sem, i1]) ?_
      simp only [ap_s, ap_n, ls_z, ls_s]
      refine seq_q (d := some 57) rfl rfl rfl (.int .i64 ds) (fun w hw => by have c := hw.2.1; simp [execOp, Act.eval, go_sem, c]) ?_
      simp only [ap_s, ap_n, ls_z, ls_s]
      refine seq_q (d := some 58) rfl rfl rfl (.pointer (some ⟨w.heap.size, 1, none⟩)) (fun w hw => by go_simp) ?_
      simp only [ap_s, ap_n, ls_z, ls_s]
      refine seq_q (d := some 59) rfl rfl rfl (.int .i64 sl) (fun w hw => by have c := hw.1.at 1 rfl; simp [execOp, Act.eval, go_sem, c]) ?_
      simp only [ap_s, ap_n, ls_z, ls_s]
      refine seq_q (d := some 60) rfl rfl rfl (.int .u64 sl) (fun w hw => by have h : IntKind.u64.wrap sl = sl := (by rw [IntKind.wrap_u64]; have := HSh.out; omega); simp [execOp, Act.eval, go_sem, h]) ?_
      simp only [ap_s, ap_n, ls_z, ls_s]
      refine seq_q (d := some 61) rfl rfl rfl (.int .i64 (shrI ds sl)) (fun w hw => by have h1 := HSx.out.2 ds; have h2 : ¬ sl < 0 := (by have := HSh.out; omega); simp [execOp, Act.eval, go_sem, Op.shift, h1, h2]) ?_
      simp only [ap_s, ap_n, ls_z, ls_s]
      refine seq_q (d := some 62) rfl rfl rfl (.int .i64 (f1 - shrI f1 fr + shrI ds sl)) (fun w hw => by have c := HWr.out.2; simp [execOp, Act.eval, go_sem, c]) ?_
      simp only [ap_s, ap_n, ls_z, ls_s]
      refine seq_q (d := some 11) rfl rfl rfl (.int .i64 (f1 - shrI f1 fr + shrI ds sl)) (fun w hw => rfl) ?_
      simp only [ap_s, ap_n, ls_z, ls_s]
      refine seq_end ?_
      obtain ⟨f2, hf2⟩ : ∃ x, x = f1 - shrI f1 fr + shrI ds sl := ⟨_, rfl⟩
      have HF2 : Hid (acc1 fr sl f1 ds = clipI f2) := by unfold Hid; rw [hf2]; unfold acc1; congr 1; omega
      rw [← hf2]
      have HSt2 : Hid (Ac n w5 wr.drew yb (.slice ya yn yc) (.slice va vn vc) ((accN n fr sl D F).take c)) := ⟨HSt.out.row.drew, HSt.out.own.drew, HSt.out.but.drew⟩
      clear hf2 HSt HS11 HWr
      obtain ⟨wq, hwq⟩ : ∃ u, u = wr.drew := ⟨_, rfl⟩
      rw [← hwq] at HSt2 ⊢
      obtain ⟨y2, hy2⟩ : ∃ x, x = clipI f2 := ⟨_, rfl⟩
      have HSt3 : Hid (Ac n w5 wq.drew yb (.slice ya yn yc) (.slice va vn vc) ((accN n fr sl D F).take c)) := ⟨HSt2.out.row.drew, HSt2.out.own.drew, HSt2.out.but.drew⟩
      obtain ⟨v2, w9, hrun, hO9, hb9⟩ := append_i HSt3.out.own y2 (by have := HLt.out; omega) (by exact HSt3.out.but.size) 34
      obtain ⟨xa, xn, xc, rfl⟩ : ∃ a m c, v2 = .slice a m c := by obtain ⟨a, c, h⟩ := hO9.slice; exact ⟨a, _, c, h⟩
      have HApp := Lib.hid hrun
      have hyl : yb < w5.heap.size := HM.out.row.lt
      have hR9 : RowAt w9 yb [.int .i64 (n : Int), .slice ya yn yc, .slice va vn vc] := HSt3.out.row.of_block (hb9.block _ hyl)
      have HR9 := Lib.hid (And.intro hR9 (And.intro (hR9.at 2 rfl) (hR9.2.2 2 (by simp))))
      have HEnd : Hid (∃ v, Ac n w5 (w9.setCell ⟨yb, 2, none⟩ (.slice xa xn xc)) yb (.slice ya yn yc) v ((accN n fr sl D F).take (c + 1))) := by
        rw [HStp.out, HF2.out, ← hy2]
        refine ⟨_, hR9.set 2 (by simp) _, hO9.of_same2 (fun g hg => Below.heap_setCell _ _ _ _ (by have := (hO9.lt g hg).1; simp; omega)), ?_⟩
        exact (HSt3.out.but.trans (But.of_below hb9)).setCell (p := ⟨yb, 2, none⟩) (Or.inr rfl) _
      have HY2 : Hid (clipI f2 = y2) := hy2.symm
      clear hy2 hrun hO9 hb9 hwq hR9 hyl HStp HF2
      go_upto_region 12 with fail
      refine wp_region_seqL (by kernel_rfl) (fun w' => RowAt w' yb [.int .i64 (n : Int), .slice ya yn yc, .slice va vn vc]) 7 [(0, 0), (1, 1), (2, 0), (3, 2), (4, 2), (5, 2), (6, 0), (7, 2)] (by kernel_rfl) (HSt3.out.row) ?_
      refine sl_q (d := some 63) rfl rfl rfl (.pointer (some ⟨yb, 2, none⟩)) (fun w => by go_simp) ?_
      simp only [ap_s, ap_n, ls_z, ls_s]
      refine sl_s (d := some 64) rfl rfl rfl (.slice va vn vc) (fun w hw => by have c := hw.at 2 rfl; simp [execOp, Act.eval, go_sem, c]) ?_
      simp only [ap_s, ap_n, ls_z, ls_s]
      refine sl_q (d := some 65) rfl rfl rfl (.int .i64 f2) (fun w => rfl) ?_
      simp only [ap_s, ap_n, ls_z, ls_s]
      refine sl_call (d := some 66) rfl rfl rfl ⟨_, Tryz.func27, by kernel_rfl, by kernel_rfl⟩ _ _ _ rfl rfl [.int .i64 f2, .int .i64 (-16777216), .int .i64 16777216] rfl (rclip_any f2 _) ?_
      rintro e u ⟨rfl, hu⟩
      obtain rfl := hu
      refine ⟨_, rfl, fun _ => HSt3.out.row, ?_⟩
      rw [HY2.out]
      simp only [ap_s, ap_n, ls_z, ls_s]
      refine sl_run (d := some 67) rfl rfl rfl (.slice (some ⟨wq.drew.heap.size, 0, none⟩) 1 1) (wq.drew.alloc (.cells #[.int .i64 y2] 3)) (by simp [execOp, Act.eval, go_sem, Instr.buildSlice]) (fun _ => HSt3.out.row.below ((Below.refl _ _).alloc (Nat.le_refl _) _)) ?_
      simp only [ap_s, ap_n, ls_z, ls_s]
      refine sl_run (d := some 68) rfl rfl rfl (.slice xa xn xc) w9 (run_append _ _ _ rfl _ _ rfl rfl HApp.out) (fun _ => HR9.out.1) ?_
      simp only [ap_s, ap_n, ls_z, ls_s]
      refine sl_q (d := some 69) rfl rfl rfl (.pointer (some ⟨yb, 2, none⟩)) (fun w => by go_simp) ?_
      simp only [ap_s, ap_n, ls_z, ls_s]
      refine sl_skip (d := none) rfl rfl rfl (w9.setCell ⟨yb, 2, none⟩ (.slice xa xn xc)) (by have c := HR9.out.2.1; have f := HR9.out.2.2; simp [execOp, Act.eval, go_sem, c, f]) (fun h => by cases h) ?_
      simp only [ap_s, ap_n, ls_z, ls_s]
      refine sl_end ?_
      go_wp2_with fail
      exact ⟨⟨c + 1, by omega, by go_num, HEnd⟩, by simp [intOf]; omega⟩
    · obtain rfl : c = sn := by omega
      obtain ⟨v, hs⟩ := hs.out
      obtain ⟨va, vn, vc, rfl⟩ : ∃ a m c, v = .slice a m c := by obtain ⟨a, c, h⟩ := hs.own.slice; exact ⟨a, _, c, h⟩
      have hfull : (accN n fr sl D F).take c = accN n fr sl D F := List.take_of_length_le (by simp [accN]; have := HN.out; omega)
      rw [hfull] at hs
      have hl3 := HM.out.lo
      have hyl : yb < w5.heap.size := HM.out.row.lt
      have h35 := HM.out.be.size
      have hrb := HLb.out.2.2
      have hR : RowAt wr (w.heap.size + 1 + 1) [.int .i64 0, .slice none 0 0, .slice none 0 0] := HR5.out.2.2.of_block (hs.but.block _ HR5.out.2.2.lt (by omega))
      have hod : OwnI wr w3.heap.size (.slice ya yn yc) D := HM.out.od.of_same2 (fun g hg => hs.but.block g (HM.out.od.lt g hg).2 (fun e => HM.out.yd (by rw [hg, e])))
      have hbe : Below w3.heap.size w3 wr := HM.out.be.trans ((hs.but.mono h35).below hl3)
      have y0 := hs.row.at 0 rfl
      have y1 := hs.row.at 1 rfl
      have y2 := hs.row.at 2 rfl
      have r0 := hR.at 0 rfl
      have r1 := hR.at 1 rfl
      have r2 := hR.at 2 rfl
      have f0 := hR.2.2 0 (by simp)
      have f1 := hR.2.2 1 (by simp)
      have f2 := hR.2.2 2 (by simp)
      obtain ⟨U, hU⟩ : ∃ u, u = ((wr.setCell ⟨w.heap.size + 1 + 1, 0, none⟩ (.int .i64 (n : Int))).setCell ⟨w.heap.size + 1 + 1, 1, none⟩ (.slice ya yn yc)).setCell ⟨w.heap.size + 1 + 1, 2, none⟩ (.slice va vn vc) := ⟨_, rfl⟩
      have ho : ∀ (u : World) (q : Nat) (v : Value) (k : Nat), k ≠ w.heap.size + 1 + 1 → (u.setCell ⟨w.heap.size + 1 + 1, q, none⟩ v).heap[k]? = u.heap[k]? := fun u q v k hk => Below.heap_setCell _ _ _ _ (by simpa using hk)
      have hUo : ∀ k, k ≠ w.heap.size + 1 + 1 → U.heap[k]? = wr.heap[k]? := fun k hk => by rw [hU, ho _ _ _ k hk, ho _ _ _ k hk, ho _ _ _ k hk]
      have hUr : RowAt U (w.heap.size + 1 + 1) [.int .i64 (n : Int), .slice ya yn yc, .slice va vn vc] := by rw [hU]; exact ((hR.set 0 (by simp) _).set 1 (by simp) _).set 2 (by simp) _
      have hbw : Below w.heap.size w wr := HB3.out.trans (hbe.mono HB3.out.size)
      have hwl : w.heap.size ≤ w.heap.size + 1 + 1 := by omega
      have hUb : Below w.heap.size w U := by rw [hU]; exact ((hbw.setCell (p := ⟨w.heap.size + 1 + 1, 0, none⟩) hwl _).setCell (p := ⟨w.heap.size + 1 + 1, 1, none⟩) hwl _).setCell (p := ⟨w.heap.size + 1 + 1, 2, none⟩) hwl _
      have HEnd := Lib.hid (And.intro hUr (And.intro ((hod.of_same2 (fun g hg => hUo g (by have := (HM.out.od.lt g hg).1; omega))).mono (B := w.heap.size) HB3.out.size) (And.intro ((hs.own.of_same2 (fun g hg => hUo g (by have := (hs.own.lt g hg).1; omega))).mono (B := w.heap.size) (Nat.le_trans HB3.out.size h35)) hUb)))
      have HU := Lib.hid hU
      clear hU hUo hUr hUb hbw hwl hod hbe hR hs hl3 hyl h35 hrb hfull ho
      go_wp2_with fail
      rw [← HU.out]
      exact ret_row2 rfl _ [.int .i64 (n : Int), .slice ya yn yc, .slice va vn vc] _ HEnd.out.1 rowT_st rfl rfl rfl ⟨_, _, rfl, HEnd.out.2.1, HEnd.out.2.2.1, HEnd.out.2.2.2⟩
end Go.Proofs.YtkpgciimhjkajaaGreatDoor
/- The reference's flux: Move. -/
namespace Go.Proofs.YtkpgciimhjkajaaGreatDoor
open Go Go.RowKit Go.Shelf
attribute [local go_sem] Oper.semAt_some
structure S77 (yb eg eo X ag n zn j : Nat) (dv fv : Value) (d m : Int) (w : World) : Prop where
  yy : RowAt w yb [.int .i64 (n : Int), dv, fv]
  ee : w.cell? ⟨eg, eo, none⟩ = some (.int .i64 (zn : Int))
  dd : w.cell? ⟨X, zn, none⟩ = some (.int .i64 d)
  aj : w.cell? ⟨ag, j, none⟩ = some (.int .i64 m)
structure Mv (X eg : Nat) (E : List Ed) (D : List Int) (cap : Nat) (w5 wr : World) : Prop where
  blk : BlkI wr X D cap
  but : But w5.heap.size X w5 wr
theorem mvF_take {E : List Ed} {A D : List Int} {c : Nat} (h : c < E.length) : mvF E A D ((List.finRange E.length).take (c + 1)) = mvS E A (mvF E A D ((List.finRange E.length).take c)) ⟨c, h⟩ := by
  rw [fin_take h, mvF_snoc]
set_option maxRecDepth 100000 in
set_option maxHeartbeats 16000000 in
theorem rmove_any (n : Nat) (hn : Fq n) (dv fv av : Value) (D F A : List Int) (B0 : Nat) (w : World) (hok : SOk n D F) (hd : OwnI w B0 dv D) (hf : OwnI w B0 fv F) (ha : OwnI w B0 av A) (hAl : A.length = F.length) (hAb : ∀ x ∈ A, -16777216 ≤ x ∧ x ≤ 16777216) :
    Calls Tryz.prog 77 #[stv n dv fv, av] w fun e w' => mvRes n A D F e w w' ∧ Below w.heap.size w w' := by
  obtain ⟨w1, hw1⟩ : ∃ u, u = (w.alloc (.cells #[.int .i64 (n : Int), dv, fv] 36)).alloc (.cells #[.int .i64 0, .slice none 0 0, .slice none 0 0] 36) := ⟨_, rfl⟩
  have hb1 : Below w.heap.size w w1 := by rw [hw1]; exact ((Below.refl _ _).alloc (Nat.le_refl _) _).alloc (by simp) _
  have hS1 : RowAt w1 w.heap.size [.int .i64 (n : Int), dv, fv] := by rw [hw1]; exact (RowAt.new _ [.int .i64 (n : Int), dv, fv] (by simp) _ rfl).alloc _
  have hR1 : RowAt w1 (w.heap.size + 1) [.int .i64 0, .slice none 0 0, .slice none 0 0] := by
    rw [hw1]; exact RowAt.new _ [.int .i64 0, .slice none 0 0, .slice none 0 0] (by simp) _ (by simp)
  have HB1 := Lib.hid hb1
  have HFix := Lib.hid (And.intro hn (And.intro hok (And.intro hAl hAb)))
  have HL1 := Lib.hid (And.intro (hd.below hb1) (And.intro (hf.below hb1) (ha.below hb1)))
  have HCk := Lib.hid (rcheck_any n hn dv fv D F B0 w1 hok (hd.below hb1) (hf.below hb1))
  have HSm := Lib.hid (fun w' (h : OwnI w' B0 av A) => rsmall_any av A B0 w' h hAb)
  have Hw1 := Lib.hid hw1
  have HR := Lib.hid (And.intro hS1 hR1)
  clear hn hok hd hf ha hb1 hAl hAb
  obtain ⟨da, dn, dc, rfl⟩ : ∃ a m c, dv = .slice a m c := by obtain ⟨a, c, h⟩ := HL1.out.1.slice; exact ⟨a, _, c, h⟩
  obtain ⟨fa, fn, fc, rfl⟩ : ∃ a m c, fv = .slice a m c := by obtain ⟨a, c, h⟩ := HL1.out.2.1.slice; exact ⟨a, _, c, h⟩
  obtain ⟨aa, an, ac, rfl⟩ : ∃ a m c, av = .slice a m c := by obtain ⟨a, c, h⟩ := HL1.out.2.2.slice; exact ⟨a, _, c, h⟩
  have hlen : an = fn := by
    obtain ⟨a1, c1, h1⟩ := HL1.out.2.1.slice
    obtain ⟨a2, c2, h2⟩ := HL1.out.2.2.slice
    injection h1 with _ h1 _
    injection h2 with _ h2 _
    rw [h1, h2]; exact HFix.out.2.2.1
  subst hlen
  have c0 := hS1.at 0 rfl
  have c1 := hS1.at 1 rfl
  have c2 := hS1.at 2 rfl
  clear hw1 hS1 hR1
  unfold stv
  go_enter Tryz.func77, Tryz.ntmps77
  go_upto_region 1 with fail
  rw [← Hw1.out]
  go_wp2_with fail
  clear c0 c1 c2
  refine HCk.out.mono ?_
  rintro e w2 ⟨rfl, hb2⟩
  have HR2 := Lib.hid (And.intro (HR.out.1.below hb2) (HR.out.2.below hb2))
  have HB2 := Lib.hid (below_then HB1.out hb2)
  have HL2 := Lib.hid (And.intro (HL1.out.1.below hb2) (And.intro (HL1.out.2.1.below hb2) (HL1.out.2.2.below hb2)))
  have c2 := HR2.out.1.at 2 rfl
  clear hb2 HR HB1 HL1 HCk
  go_wp2_with fail
  refine (HSm.out _ HL2.out.2.2).mono ?_
  rintro e w3 ⟨rfl, hw3⟩
  obtain rfl := hw3.symm
  have hDl : D.length ≤ 1000000 ∧ F.length ≤ 1000000 := by
    have h1 := HFix.out.2.1.dl
    have h2 := HFix.out.2.1.fl
    have h3 := edgesN_le HFix.out.1
    have h8 : n ≤ 8 := HFix.out.1.2
    have := Nat.mul_le_mul (Nat.mul_le_mul_left 10 h8) h8
    omega
  have HDl := Lib.hid hDl
  clear hDl c2
  go_wp2_with fail
  refine region_cut (fun a W => ∃ yb v31 v34, a = { tmps := ([.agg #[.int .i64 (n : Int), .slice da dn dc, .slice fa an fc], .slice aa an ac, .pointer (some ⟨w.heap.size, 0, none⟩), undef, .pointer (some ⟨w.heap.size + 1, 0, none⟩), .int .i64 0, .int .i64 0, .pointer (some ⟨yb, 0, none⟩), undef, undef, undef, .agg #[.int .i64 (n : Int), .slice da dn dc, .slice fa an fc], .int .i64 0, .int .i64 0] ++ ([.bool false, undef, undef, .slice aa an ac, .int .i64 (an : Int), .pointer (some ⟨w.heap.size, 2, none⟩), .slice fa an fc, .int .i64 (an : Int), .bool false, .bool false, .slice aa an ac, .bool true, .bool false, .bool false] ++ ([undef, .pointer (some ⟨w.heap.size, 0, none⟩), .int .i64 (n : Int), .pointer (some ⟨w.heap.size, 1, none⟩), .slice da dn dc, v31, .pointer (some ⟨w.heap.size, 2, none⟩), .slice fa an fc, v34, .agg #[.int .i64 (n : Int), v31, v34], undef, undef, undef, undef] ++ ([undef, undef, undef, undef, undef, undef, undef, undef, undef, undef, undef, undef, undef, undef] ++ ([undef, undef, undef, undef, undef, undef, undef, undef, undef, undef, undef, undef, undef, undef] ++ ([undef, undef, undef, undef, undef, undef, undef, undef, undef, undef, undef, undef, undef, undef] ++ ([undef, undef]))))))).toArray, defers := [] } ∧ M6 n D F w2 W yb v31 v34) ?_ ?_
  · have HB0 : Hid (Below w2.heap.size w2 w2.drew) := (Below.refl _ _).drew
    refine wp_region_tree (by kernel_rfl) (fun w' => RowAt w' w.heap.size [.int .i64 (n : Int), .slice da dn dc, .slice fa an fc]) 10 (.q 0 0 (.q 1 1 (.q 2 0 (.q 3 1 (.q 5 0 (.q 6 1 (.fork (.e 4 (.fork (.e 7 (.q 8 0 (.e 9 (.e 10 (.nil))))) (.e 9 (.e 7 (.q 8 0 (.e 10 (.nil))))))) (.e 9 (.e 4 (.e 7 (.q 8 0 (.e 10 (.nil))))))))))))) (by kernel_rfl) (HR2.out.1.drew) ?_
    refine tr_q (d := some 29) rfl rfl rfl (.pointer (some ⟨w.heap.size, 0, none⟩)) (fun w => by go_simp) ?_
    simp only [ap_s, ap_n, ls_z, ls_s]
    refine tr_s (d := some 30) rfl rfl rfl (.int .i64 (n : Int)) (fun w hw => by have c := hw.at 0 rfl; simp [execOp, Act.eval, go_sem, c]) ?_
    simp only [ap_s, ap_n, ls_z, ls_s]
    refine tr_q (d := some 31) rfl rfl rfl (.pointer (some ⟨w.heap.size, 1, none⟩)) (fun w => by go_simp) ?_
    simp only [ap_s, ap_n, ls_z, ls_s]
    refine tr_s (d := some 32) rfl rfl rfl (.slice da dn dc) (fun w hw => by have c := hw.at 1 rfl; simp [execOp, Act.eval, go_sem, c]) ?_
    simp only [ap_s, ap_n, ls_z, ls_s]
    refine tr_q (d := some 34) rfl rfl rfl (.pointer (some ⟨w.heap.size, 2, none⟩)) (fun w => by go_simp) ?_
    simp only [ap_s, ap_n, ls_z, ls_s]
    refine tr_s (d := some 35) rfl rfl rfl (.slice fa an fc) (fun w hw => by have c := hw.at 2 rfl; simp [execOp, Act.eval, go_sem, c]) ?_
    simp only [ap_s, ap_n, ls_z, ls_s]
    refine tr_fork ?_ ?_
    · obtain ⟨vv, W3, hrun, hv, hb⟩ := append_li (HL2.out.1.below HB0.out) HDl.out.1 34
      obtain ⟨pa, pc, rfl⟩ := hv.slice
      have HB3 := Lib.hid (below_then HB0.out hb)
      refine tr_run (d := some 33) rfl rfl rfl ((.slice pa D.length pc : Value)) W3 (run_append _ _ _ rfl _ _ rfl rfl hrun) (fun _ => HR2.out.1.below HB3.out) ?_
      simp only [ap_s, ap_n, ls_z, ls_s]
      have Hd3 := Lib.hid (hv.mono (B := w2.heap.size) HB0.out.size)
      have HZ3 : Hid (∀ g, (.slice pa D.length pc : Value).ownBlock = some g → w2.drew.heap.size ≤ g ∧ g < W3.heap.size) := hv.lt
      have hz3 : w2.drew.heap.size ≤ W3.heap.size := hb.size
      clear hv hb hrun
      refine tr_fork ?_ ?_
      · obtain ⟨vv, W4, hrun, hv, hb⟩ := append_li (HL2.out.2.1.below HB3.out) HDl.out.2 34
        obtain ⟨qa, qc, rfl⟩ := hv.slice
        have HB4 := Lib.hid (below_then HB3.out hb)
        refine tr_run (d := some 36) rfl rfl rfl ((.slice qa F.length qc : Value)) W4 (run_append _ _ _ rfl _ _ rfl rfl hrun) (fun _ => HR2.out.1.below HB4.out) ?_
        simp only [ap_s, ap_n, ls_z, ls_s]
        have Hd4 := Lib.hid (Hd3.out.below hb)
        clear Hd3
        have Hf4 := Lib.hid (hv.mono (B := w2.heap.size) HB3.out.size)
        have HZ4 : Hid (∀ g, (.slice qa F.length qc : Value).ownBlock = some g → W3.heap.size ≤ g ∧ g < W4.heap.size) := hv.lt
        have hz4 : W3.heap.size ≤ W4.heap.size := hb.size
        clear hv hb hrun
        refine tr_q (d := some 37) rfl rfl rfl (.agg #[.int .i64 (n : Int), .slice pa D.length pc, .slice qa F.length qc]) (fun w => by simp [execOp, Act.eval, go_sem]) ?_
        simp only [ap_s, ap_n, ls_z, ls_s]
        obtain ⟨W5, hw⟩ : ∃ u, u = W4.alloc (.cells #[.int .i64 0, .slice none 0 0, .slice none 0 0] 36) := ⟨_, rfl⟩
        obtain ⟨yb, hy⟩ : ∃ u, u = W4.heap.size := ⟨_, rfl⟩
        have hb : Below W4.heap.size W4 W5 := by rw [hw]; exact (Below.refl _ _).alloc (Nat.le_refl _) _
        have HB5 := Lib.hid (below_then HB4.out hb)
        have Hd5 := Lib.hid (Hd4.out.below hb)
        clear Hd4
        have Hf5 := Lib.hid (Hf4.out.below hb)
        clear Hf4
        have Hy5 : Hid (RowAt W5 yb [.int .i64 0, .slice none 0 0, .slice none 0 0]) := by rw [hw]; exact RowAt.new _ [.int .i64 0, .slice none 0 0, .slice none 0 0] (by simp) _ hy.symm
        have HZ5 : Hid (W4.heap.size ≤ yb ∧ yb < W5.heap.size) := ⟨Nat.le_of_eq hy.symm, Hy5.out.lt⟩
        have hz5 : W4.heap.size ≤ W5.heap.size := hb.size
        refine tr_run (d := some 7) rfl rfl rfl (.pointer (some ⟨yb, 0, none⟩)) W5 (by rw [hw, hy]; simp [execOp, Act.eval, go_sem]) (fun _ => HR2.out.1.below HB5.out) ?_
        simp only [ap_s, ap_n, ls_z, ls_s]
        clear hw hy hb
        have q1 := HZ3.out
        have q2 := HZ4.out
        have q3 := HZ5.out
        have q0 : w2.heap.size ≤ w2.drew.heap.size := Nat.le_refl _
        have yd : (.slice pa D.length pc : Value).ownBlock ≠ some yb := fun e => by have := q1 yb e; omega
        have yf : (.slice qa F.length qc : Value).ownBlock ≠ some yb := fun e => by have := q2 yb e; omega
        have df : ∀ g, (.slice pa D.length pc : Value).ownBlock = some g → (.slice qa F.length qc : Value).ownBlock ≠ some g := fun g e1 e2 => by have := q1 g e1; have := q2 g e2; omega
        have ly : w2.heap.size ≤ yb := by omega
        refine tr_rowst (d := none) rfl rfl rfl _ _ rfl yb rfl [.int .i64 0, .slice none 0 0, .slice none 0 0] [.int .i64 (n : Int), .slice pa D.length pc, .slice qa F.length qc] rfl Hy5.out rfl rowT_st (by intro v hv; simp at hv; rcases hv with rfl | rfl | rfl <;> first | rfl | exact Hd5.out.one | exact Hf5.out.one) ?_
        intro W9 hr ha
        refine ⟨(fun h => by cases h), ?_⟩
        simp only [ap_s, ap_n, ls_z, ls_s]
        refine tr_end ?_
        exact ⟨rfl, yb, _, _, rfl, hr, ly, Hd5.out.apart ha yd, Hf5.out.apart ha yf, HB5.out.trans (ha.below ly), yd, yf, df⟩
      · obtain ⟨W4, hw⟩ : ∃ u, u = W3.alloc (.cells #[.int .i64 0, .slice none 0 0, .slice none 0 0] 36) := ⟨_, rfl⟩
        obtain ⟨yb, hy⟩ : ∃ u, u = W3.heap.size := ⟨_, rfl⟩
        have hb : Below W3.heap.size W3 W4 := by rw [hw]; exact (Below.refl _ _).alloc (Nat.le_refl _) _
        have HB4 := Lib.hid (below_then HB3.out hb)
        have Hd4 := Lib.hid (Hd3.out.below hb)
        clear Hd3
        have Hy4 : Hid (RowAt W4 yb [.int .i64 0, .slice none 0 0, .slice none 0 0]) := by rw [hw]; exact RowAt.new _ [.int .i64 0, .slice none 0 0, .slice none 0 0] (by simp) _ hy.symm
        have HZ4 : Hid (W3.heap.size ≤ yb ∧ yb < W4.heap.size) := ⟨Nat.le_of_eq hy.symm, Hy4.out.lt⟩
        have hz4 : W3.heap.size ≤ W4.heap.size := hb.size
        refine tr_run (d := some 7) rfl rfl rfl (.pointer (some ⟨yb, 0, none⟩)) W4 (by rw [hw, hy]; simp [execOp, Act.eval, go_sem]) (fun _ => HR2.out.1.below HB4.out) ?_
        simp only [ap_s, ap_n, ls_z, ls_s]
        clear hw hy hb
        obtain ⟨vv, W5, hrun, hv, hb⟩ := append_li (HL2.out.2.1.below HB4.out) HDl.out.2 34
        obtain ⟨qa, qc, rfl⟩ := hv.slice
        have HB5 := Lib.hid (below_then HB4.out hb)
        refine tr_run (d := some 36) rfl rfl rfl ((.slice qa F.length qc : Value)) W5 (run_append _ _ _ rfl _ _ rfl rfl hrun) (fun _ => HR2.out.1.below HB5.out) ?_
        simp only [ap_s, ap_n, ls_z, ls_s]
        have Hd5 := Lib.hid (Hd4.out.below hb)
        clear Hd4
        have Hy5 := Lib.hid (Hy4.out.below hb)
        clear Hy4
        have Hf5 := Lib.hid (hv.mono (B := w2.heap.size) HB4.out.size)
        have HZ5 : Hid (∀ g, (.slice qa F.length qc : Value).ownBlock = some g → W4.heap.size ≤ g ∧ g < W5.heap.size) := hv.lt
        have hz5 : W4.heap.size ≤ W5.heap.size := hb.size
        clear hv hb hrun
        refine tr_q (d := some 37) rfl rfl rfl (.agg #[.int .i64 (n : Int), .slice pa D.length pc, .slice qa F.length qc]) (fun w => by simp [execOp, Act.eval, go_sem]) ?_
        simp only [ap_s, ap_n, ls_z, ls_s]
        have q1 := HZ3.out
        have q2 := HZ5.out
        have q3 := HZ4.out
        have q0 : w2.heap.size ≤ w2.drew.heap.size := Nat.le_refl _
        have yd : (.slice pa D.length pc : Value).ownBlock ≠ some yb := fun e => by have := q1 yb e; omega
        have yf : (.slice qa F.length qc : Value).ownBlock ≠ some yb := fun e => by have := q2 yb e; omega
        have df : ∀ g, (.slice pa D.length pc : Value).ownBlock = some g → (.slice qa F.length qc : Value).ownBlock ≠ some g := fun g e1 e2 => by have := q1 g e1; have := q2 g e2; omega
        have ly : w2.heap.size ≤ yb := by omega
        refine tr_rowst (d := none) rfl rfl rfl _ _ rfl yb rfl [.int .i64 0, .slice none 0 0, .slice none 0 0] [.int .i64 (n : Int), .slice pa D.length pc, .slice qa F.length qc] rfl Hy5.out rfl rowT_st (by intro v hv; simp at hv; rcases hv with rfl | rfl | rfl <;> first | rfl | exact Hd5.out.one | exact Hf5.out.one) ?_
        intro W9 hr ha
        refine ⟨(fun h => by cases h), ?_⟩
        simp only [ap_s, ap_n, ls_z, ls_s]
        refine tr_end ?_
        exact ⟨rfl, yb, _, _, rfl, hr, ly, Hd5.out.apart ha yd, Hf5.out.apart ha yf, HB5.out.trans (ha.below ly), yd, yf, df⟩
    · obtain ⟨W3, hw⟩ : ∃ u, u = w2.drew.alloc (.cells #[.int .i64 0, .slice none 0 0, .slice none 0 0] 36) := ⟨_, rfl⟩
      obtain ⟨yb, hy⟩ : ∃ u, u = w2.drew.heap.size := ⟨_, rfl⟩
      have hb : Below w2.drew.heap.size w2.drew W3 := by rw [hw]; exact (Below.refl _ _).alloc (Nat.le_refl _) _
      have HB3 := Lib.hid (below_then HB0.out hb)
      have Hy3 : Hid (RowAt W3 yb [.int .i64 0, .slice none 0 0, .slice none 0 0]) := by rw [hw]; exact RowAt.new _ [.int .i64 0, .slice none 0 0, .slice none 0 0] (by simp) _ hy.symm
      have HZ3 : Hid (w2.drew.heap.size ≤ yb ∧ yb < W3.heap.size) := ⟨Nat.le_of_eq hy.symm, Hy3.out.lt⟩
      have hz3 : w2.drew.heap.size ≤ W3.heap.size := hb.size
      refine tr_run (d := some 7) rfl rfl rfl (.pointer (some ⟨yb, 0, none⟩)) W3 (by rw [hw, hy]; simp [execOp, Act.eval, go_sem]) (fun _ => HR2.out.1.below HB3.out) ?_
      simp only [ap_s, ap_n, ls_z, ls_s]
      clear hw hy hb
      obtain ⟨vv, W4, hrun, hv, hb⟩ := append_li (HL2.out.1.below HB3.out) HDl.out.1 34
      obtain ⟨pa, pc, rfl⟩ := hv.slice
      have HB4 := Lib.hid (below_then HB3.out hb)
      refine tr_run (d := some 33) rfl rfl rfl ((.slice pa D.length pc : Value)) W4 (run_append _ _ _ rfl _ _ rfl rfl hrun) (fun _ => HR2.out.1.below HB4.out) ?_
      simp only [ap_s, ap_n, ls_z, ls_s]
      have Hy4 := Lib.hid (Hy3.out.below hb)
      clear Hy3
      have Hd4 := Lib.hid (hv.mono (B := w2.heap.size) HB3.out.size)
      have HZ4 : Hid (∀ g, (.slice pa D.length pc : Value).ownBlock = some g → W3.heap.size ≤ g ∧ g < W4.heap.size) := hv.lt
      have hz4 : W3.heap.size ≤ W4.heap.size := hb.size
      clear hv hb hrun
      obtain ⟨vv, W5, hrun, hv, hb⟩ := append_li (HL2.out.2.1.below HB4.out) HDl.out.2 34
      obtain ⟨qa, qc, rfl⟩ := hv.slice
      have HB5 := Lib.hid (below_then HB4.out hb)
      refine tr_run (d := some 36) rfl rfl rfl ((.slice qa F.length qc : Value)) W5 (run_append _ _ _ rfl _ _ rfl rfl hrun) (fun _ => HR2.out.1.below HB5.out) ?_
      simp only [ap_s, ap_n, ls_z, ls_s]
      have Hd5 := Lib.hid (Hd4.out.below hb)
      clear Hd4
      have Hy5 := Lib.hid (Hy4.out.below hb)
      clear Hy4
      have Hf5 := Lib.hid (hv.mono (B := w2.heap.size) HB4.out.size)
      have HZ5 : Hid (∀ g, (.slice qa F.length qc : Value).ownBlock = some g → W4.heap.size ≤ g ∧ g < W5.heap.size) := hv.lt
      have hz5 : W4.heap.size ≤ W5.heap.size := hb.size
      clear hv hb hrun
      refine tr_q (d := some 37) rfl rfl rfl (.agg #[.int .i64 (n : Int), .slice pa D.length pc, .slice qa F.length qc]) (fun w => by simp [execOp, Act.eval, go_sem]) ?_
      simp only [ap_s, ap_n, ls_z, ls_s]
      have q1 := HZ4.out
      have q2 := HZ5.out
      have q3 := HZ3.out
      have q0 : w2.heap.size ≤ w2.drew.heap.size := Nat.le_refl _
      have yd : (.slice pa D.length pc : Value).ownBlock ≠ some yb := fun e => by have := q1 yb e; omega
      have yf : (.slice qa F.length qc : Value).ownBlock ≠ some yb := fun e => by have := q2 yb e; omega
      have df : ∀ g, (.slice pa D.length pc : Value).ownBlock = some g → (.slice qa F.length qc : Value).ownBlock ≠ some g := fun g e1 e2 => by have := q1 g e1; have := q2 g e2; omega
      have ly : w2.heap.size ≤ yb := by omega
      refine tr_rowst (d := none) rfl rfl rfl _ _ rfl yb rfl [.int .i64 0, .slice none 0 0, .slice none 0 0] [.int .i64 (n : Int), .slice pa D.length pc, .slice qa F.length qc] rfl Hy5.out rfl rowT_st (by intro v hv; simp at hv; rcases hv with rfl | rfl | rfl <;> first | rfl | exact Hd5.out.one | exact Hf5.out.one) ?_
      intro W9 hr ha
      refine ⟨(fun h => by cases h), ?_⟩
      simp only [ap_s, ap_n, ls_z, ls_s]
      refine tr_end ?_
      exact ⟨rfl, yb, _, _, rfl, hr, ly, Hd5.out.apart ha yd, Hf5.out.apart ha yf, HB5.out.trans (ha.below ly), yd, yf, df⟩
  rintro a W ⟨yb, v31, v34, rfl, hM6⟩
  simp only [List.cons_append, List.nil_append]
  have HM6 := Lib.hid hM6
  have HEd := Lib.hid (edges_n n HFix.out.1 W)
  have hRW : RowAt W w.heap.size [.int .i64 (n : Int), .slice da dn dc, .slice fa an fc] := HR2.out.1.below HM6.out.be
  have c0 := hRW.at 0 rfl
  clear hRW hM6
  go_wp2_with fail
  clear c0
  refine HEd.out.mono ?_
  rintro e w5 ⟨ev, rfl, hE, hb5⟩
  obtain ⟨eg, ec, rfl, hegW, heg, hec, hem, hEA⟩ := hE.eat (edgesN_pos HFix.out.1)
  obtain ⟨M, hM⟩ : ∃ x, x = (edgesN n).length := ⟨_, rfl⟩
  rw [← hM] at hec ⊢
  have hM9 : M ≤ 9000 := by rw [hM]; exact edgesN_le HFix.out.1
  obtain ⟨X, cap, rfl, hX3, hXb, hcap⟩ := HM6.out.od.blk (by have := HFix.out.2.1.dl; omega)
  obtain ⟨ya, yn, yc, rfl⟩ : ∃ a m c, v34 = .slice a m c := by obtain ⟨a, c, h⟩ := HM6.out.of.slice; exact ⟨a, _, c, h⟩
  have hyX : yb ≠ X := fun e => HM6.out.yd (by rw [e]; rfl)
  have hXW : X < W.heap.size := hXb.lt
  have hegX : eg ≠ X := by omega
  have hbW5 : Below w2.heap.size w2 w5 := below_then HM6.out.be hb5
  have hY5 := HM6.out.row.below hb5
  have hX5 := hXb.of_block (hb5.block _ hXb.lt)
  have hR5 : RowAt w5 (w.heap.size + 1) [.int .i64 0, .slice none 0 0, .slice none 0 0] := HR2.out.2.below hbW5
  have hA5 := HL2.out.2.2.below hbW5
  have hF5 := HM6.out.of.below hb5
  have hAlt : ∀ g, (Value.slice aa an ac).ownBlock = some g → g < w2.heap.size := fun g hg => (HL2.out.2.2.lt g hg).2
  have hfX : ∀ g, (Value.slice ya yn yc).ownBlock = some g → g ≠ X ∧ g < w5.heap.size := fun g hg => ⟨fun e => HM6.out.df X rfl (by rw [← e]; exact hg), Nat.lt_of_lt_of_le (HM6.out.of.lt g hg).2 hb5.size⟩
  have hr2 : w.heap.size + 1 < w2.heap.size := HR2.out.2.lt
  have hbw5 := below_then HB2.out hbW5
  have hXw5 : X < w5.heap.size := Nat.lt_of_lt_of_le hXW hb5.size
  obtain ⟨ag, ac', ea, _, hagl, hac, ham, hAa⟩ := hA5.iat (by have h1 := edgesN_pos HFix.out.1; have h2 := HFix.out.2.2.1; have h3 := HFix.out.2.1.fl; omega)
  obtain ⟨rfl, han, hacc⟩ : aa = some ⟨ag, 0, none⟩ ∧ an = A.length ∧ ac = ac' := by injection ea with e1 e2 e3; exact ⟨e1, e2, e3⟩
  have hag2 : ag < w2.heap.size := hAlt ag rfl
  have HMv0 : Hid (Mv X eg (edgesN n) (mvF (edgesN n) A D ((List.finRange (edgesN n).length).take 0)) cap w5 w5) := ⟨hX5, But.refl _ _ _⟩
  have HW5 := Lib.hid (And.intro hY5 (And.intro hR5 (And.intro hF5 (And.intro hEA hAa))))
  have HX5 := Lib.hid (And.intro hyX (And.intro hX3 (And.intro hXw5 (And.intro hY5.lt (And.intro hr2 (And.intro hegX (And.intro heg (And.intro hag2 (And.intro hbW5.size hagl)))))))))
  have HfX := Lib.hid hfX
  have HBw := Lib.hid hbw5
  have HCp := Lib.hid hcap
  have Han := Lib.hid han
  have HM := Lib.hid hM
  clear hM hyX hXb hcap hXW hX3 hegW heg hegX hEA hE hb5 hbW5 hY5 hX5 hR5 hA5 hF5 hAlt hfX hr2 hbw5 hXw5 ea hagl hac ham hAa han hacc hag2 HM6 HEd HR2 HB2 HL2
  go_wp2_with fail
  go_loopw [10] (fun kv wr => ∃ c : Nat, c ≤ M ∧ kv = .int .i64 c ∧ Hid (Mv X eg (edgesN n) (mvF (edgesN n) A D ((List.finRange (edgesN n).length).take c)) cap w5 wr)) (fun kv _ => (100000 - intOf kv).toNat)
  case atStart => exact ⟨0, by omega, rfl, HMv0⟩
  case round =>
    clear HMv0
    obtain ⟨c, hc, rfl, hs⟩ := hrel
    by_cases hlt : c < M
    · have c0 : (c : Int) < (M : Int) := by omega
      have hcl : c < (edgesN n).length := by rw [← HM.out]; exact hlt
      have hE := edgesN_ok HFix.out.1 _ (List.getElem_mem hcl)
      have hbn := mvF_bnd (edgesN n) A 16777216 (by omega) (fun j => by
        by_cases hj : j < A.length
        · rw [List.getD_eq_getElem?_getD, List.getElem?_eq_getElem hj]; exact HFix.out.2.2.2 _ (List.getElem_mem hj)
        · rw [List.getD_eq_getElem?_getD, List.getElem?_eq_none (by omega)]; decide) ((List.finRange (edgesN n).length).take c) D 16777216 (by omega) (fun j => by
        by_cases hj : j < D.length
        · have h := HFix.out.2.1.dr _ (List.getElem_mem hj)
          rw [List.getD_eq_getElem?_getD, List.getElem?_eq_getElem hj]; exact ⟨Int.le_trans (by decide) h.1, h.2⟩
        · rw [List.getD_eq_getElem?_getD, List.getElem?_eq_none (by omega)]; decide)
      have hpl : ((List.finRange (edgesN n).length).take c).length ≤ 9000 := by rw [List.length_take, List.length_finRange]; omega
      have hsn := mvF_take (A := A) (D := D) hcl
      have hlD : (mvF (edgesN n) A D ((List.finRange (edgesN n).length).take c)).length = D.length := mvF_length _ _ _ _
      have hdl := HFix.out.2.1.dl
      have hHs := hs.out
      unfold mvS at hsn
      have hec := HW5.out.2.2.2.1 c hcl
      simp only [] at hsn
      obtain ⟨xn, hxn⟩ : ∃ x, x = (edgesN n)[c].1 := ⟨_, rfl⟩
      obtain ⟨zn, hzn⟩ : ∃ x, x = (edgesN n)[c].2 := ⟨_, rfl⟩
      rw [← hxn, ← hzn] at hE hsn hec
      have hjA : c < A.length := by rw [HFix.out.2.2.1, HFix.out.2.1.fl]; exact hcl
      have hbx := hbn xn
      have hbz := hbn zn
      have hAj := HFix.out.2.2.2 _ (List.getElem_mem hjA)
      generalize mvF (edgesN n) A D ((List.finRange (edgesN n).length).take c) = G at *
      generalize hG2 : mvF (edgesN n) A D ((List.finRange (edgesN n).length).take (c + 1)) = G2 at *
      have hxG : xn < G.length := by omega
      have hzG : zn < G.length := by omega
      have hgd : ∀ (l : List Int) (k : Nat) (h : k < l.length), l.getD k 0 = l[k] := fun l k h => by rw [List.getD_eq_getElem?_getD, List.getElem?_eq_getElem h]; rfl
      rw [hgd _ _ hxG, hgd _ _ hjA, hgd _ _ (by rw [List.length_set]; exact hzG), List.getElem_set_ne (by omega)] at hsn
      rw [hgd _ _ hxG] at hbx
      rw [hgd _ _ hzG] at hbz
      have hx := HX5.out
      have hXV := hHs.blk
      have hsame : ∀ k, k < w5.heap.size → k ≠ X → wr.heap[k]? = w5.heap[k]? := fun k h1 h2 => hHs.but.block k h1 h2
      have HS : Hid (S77 yb eg (c * 2) X ag n xn c (.slice (some ⟨X, 0, none⟩) D.length cap) (.slice ya yn yc) G[xn] A[c] wr) :=
        ⟨HW5.out.1.of_block (hsame _ hx.2.2.2.1 hx.1), by rw [World.cell?_of_block (w := w5) (hsame eg hx.2.2.2.2.2.2.1 hx.2.2.2.2.2.1)]; exact hec.1, hXV.at xn hxG, by rw [World.cell?_of_block (w := w5) (hsame ag (by omega) (by omega))]; exact HW5.out.2.2.2.2 c hjA⟩
      have hec2 : wr.cell? ⟨eg, c * 2 + 1, none⟩ = some (.int .i64 (zn : Int)) := by rw [World.cell?_of_block (w := w5) (hsame eg hx.2.2.2.2.2.2.1 hx.2.2.2.2.2.1)]; exact hec.2
      have hne : xn ≠ zn := by omega
      have hXV1 := hXV.set xn hxG (G[xn] - A[c])
      have HXV := Lib.hid (And.intro hXV (And.intro hxG (And.intro (hXV1.at zn (by rw [List.length_set]; exact hzG)) (And.intro (hXV1.free zn) (hXV1.set zn (by rw [List.length_set]; exact hzG) (G[zn] + A[c]))))))
      rw [List.getElem_set_ne hne] at HXV
      have HIx : Hid ((xn : Int) < (D.length : Int) ∧ (zn : Int) < (D.length : Int) ∧ (c : Int) < (an : Int) ∧ (c : Int) < (M : Int)) := ⟨by omega, by omega, by have := Han.out; omega, c0⟩
      have HBd : Hid (IntKind.i64.wrap (G[xn] - A[c]) = G[xn] - A[c] ∧ IntKind.i64.wrap (G[zn] + A[c]) = G[zn] + A[c]) := ⟨IntWalk.i64_in _ (by omega), IntWalk.i64_in _ (by omega)⟩
      have ho : ∀ (u : World) (q : Nat) (v : Value) (k : Nat), k ≠ X → (u.setCell ⟨X, q, none⟩ v).heap[k]? = u.heap[k]? := fun u q v k hk => Below.heap_setCell _ _ _ _ (by simpa using hk)
      have HEnd : Hid (Mv X eg (edgesN n) G2 cap w5 ((wr.drew.setCell ⟨X, xn, none⟩ (.int .i64 (G[xn] - A[c]))).drew.setCell ⟨X, zn, none⟩ (.int .i64 (G[zn] + A[c])))) := by
        rw [hsn]
        exact ⟨HXV.out.2.2.2.2.of_block rfl, ((hHs.but.drew.setCell (p := ⟨X, xn, none⟩) (Or.inr rfl) _).drew).setCell (p := ⟨X, zn, none⟩) (Or.inr rfl) _⟩
      rw [← hG2] at HEnd
      have HS1 : Hid (S77 yb eg (c * 2 + 1) X ag n zn c (.slice (some ⟨X, 0, none⟩) D.length cap) (.slice ya yn yc) G[zn] A[c] (wr.drew.setCell ⟨X, xn, none⟩ (.int .i64 (G[xn] - A[c])))) :=
        ⟨HS.out.yy.of_block (ho wr.drew _ _ _ hx.1), by rw [World.cell?_of_block (w := wr) (ho wr.drew xn _ eg hx.2.2.2.2.2.1)]; exact hec2, HXV.out.2.2.1, by rw [World.cell?_of_block (w := wr) (ho wr.drew xn _ ag (by omega))]; exact HS.out.aj⟩
      have HXf : Hid (wr.cell? ⟨X, xn, none⟩ = some (.int .i64 G[xn]) ∧ wr.frozen? ⟨X, xn, none⟩ = false ∧ (wr.setCell ⟨X, xn, none⟩ (.int .i64 (G[xn] - A[c]))).cell? ⟨X, zn, none⟩ = some (.int .i64 G[zn]) ∧ wr.frozen? ⟨X, zn, none⟩ = false) := ⟨hXV.at xn hxG, hXV.free xn, HXV.out.2.2.1, hXV.free zn⟩
      generalize G[xn] = d1 at *
      generalize G[zn] = d2 at *
      generalize A[c] = m at *
      generalize D.length = dn at *
      clear hXV hXV1 HXV ho hbx hbz hAj hgd hsn hlD hdl hxn hzn hjA hsame hx hec2 hxG hzG hE hpl hbn hec hHs hs hne hG2 hcl
      go_upto_region 11 with fail
      refine wp_region_seqL (by kernel_rfl) (S77 yb eg (c * 2) X ag n xn c (.slice (some ⟨X, 0, none⟩) dn cap) (.slice ya yn yc) d1 m) 15 [(0, 0), (1, 1), (2, 0), (3, 0), (4, 0), (5, 0), (6, 1), (7, 0), (8, 1), (9, 0), (10, 0), (11, 0), (12, 1), (13, 0), (14, 0), (15, 2)] (by kernel_rfl) (⟨HS.out.yy.drew, HS.out.ee, HS.out.dd, HS.out.aj⟩) ?_
      refine sl_q (d := some 50) rfl rfl rfl (.pointer (some ⟨yb, 1, none⟩)) (fun w => by go_simp) ?_
      simp only [ap_s, ap_n, ls_z, ls_s]
      refine sl_s (d := some 51) rfl rfl rfl (.slice (some ⟨X, 0, none⟩) dn cap) (fun w hw => by have c := hw.yy.at 1 rfl; simp [execOp, Act.eval, go_sem, c]) ?_
      simp only [ap_s, ap_n, ls_z, ls_s]
      refine sl_q (d := some 52) rfl rfl rfl (.slice (some ⟨eg, 0, none⟩) M ec) (fun w => rfl) ?_
      simp only [ap_s, ap_n, ls_z, ls_s]
      refine sl_q (d := some 53) rfl rfl rfl (.int .i64 (c : Int)) (fun w => rfl) ?_
      simp only [ap_s, ap_n, ls_z, ls_s]
      refine sl_q (d := some 54) rfl rfl rfl (.pointer (some ⟨eg, c * 2, none⟩)) (fun w => by obtain ⟨i1, i2, i3, i4⟩ := HIx.out; simp [execOp, Act.eval, go_sem, i1, i2, i3, i4]) ?_
      simp only [ap_s, ap_n, ls_z, ls_s]
      refine sl_q (d := some 55) rfl rfl rfl (.pointer (some ⟨eg, c * 2, none⟩)) (fun w => by simp [execOp, Act.eval, go_sem]) ?_
      simp only [ap_s, ap_n, ls_z, ls_s]
      refine sl_s (d := some 56) rfl rfl rfl (.int .i64 (xn : Int)) (fun w hw => by have c := hw.ee; simp [execOp, Act.eval, go_sem, c]) ?_
      simp only [ap_s, ap_n, ls_z, ls_s]
      refine sl_q (d := some 57) rfl rfl rfl (.pointer (some ⟨X, xn, none⟩)) (fun w => by obtain ⟨i1, i2, i3, i4⟩ := HIx.out; simp [execOp, Act.eval, go_sem, i1, i2, i3, i4]) ?_
      simp only [ap_s, ap_n, ls_z, ls_s]
      refine sl_s (d := some 58) rfl rfl rfl (.int .i64 d1) (fun w hw => by have c := hw.dd; simp [execOp, Act.eval, go_sem, c]) ?_
      simp only [ap_s, ap_n, ls_z, ls_s]
      refine sl_q (d := some 59) rfl rfl rfl (.slice (some ⟨ag, 0, none⟩) an ac) (fun w => rfl) ?_
      simp only [ap_s, ap_n, ls_z, ls_s]
      refine sl_q (d := some 60) rfl rfl rfl (.int .i64 (c : Int)) (fun w => rfl) ?_
      simp only [ap_s, ap_n, ls_z, ls_s]
      refine sl_q (d := some 61) rfl rfl rfl (.pointer (some ⟨ag, c, none⟩)) (fun w => by obtain ⟨i1, i2, i3, i4⟩ := HIx.out; simp [execOp, Act.eval, go_sem, i1, i2, i3, i4]) ?_
      simp only [ap_s, ap_n, ls_z, ls_s]
      refine sl_s (d := some 62) rfl rfl rfl (.int .i64 m) (fun w hw => by have c := hw.aj; simp [execOp, Act.eval, go_sem, c]) ?_
      simp only [ap_s, ap_n, ls_z, ls_s]
      refine sl_q (d := some 63) rfl rfl rfl (.int .i64 (d1 - m)) (fun w => by have c := HBd.out.1; simp [execOp, Act.eval, go_sem, c]) ?_
      simp only [ap_s, ap_n, ls_z, ls_s]
      refine sl_q (d := some 64) rfl rfl rfl (.pointer (some ⟨X, xn, none⟩)) (fun w => by obtain ⟨i1, i2, i3, i4⟩ := HIx.out; simp [execOp, Act.eval, go_sem, i1, i2, i3, i4]) ?_
      simp only [ap_s, ap_n, ls_z, ls_s]
      refine sl_skip (d := none) rfl rfl rfl ((wr.drew).setCell ⟨X, xn, none⟩ (.int .i64 (d1 - m))) (by have c := HXf.out.1; have f := HXf.out.2.1; simp [execOp, Act.eval, go_sem, c, f]) (fun h => by cases h) ?_
      simp only [ap_s, ap_n, ls_z, ls_s]
      refine sl_end ?_
      go_upto_region 12 with fail
      refine wp_region_seqL (by kernel_rfl) (S77 yb eg (c * 2 + 1) X ag n zn c (.slice (some ⟨X, 0, none⟩) dn cap) (.slice ya yn yc) d2 m) 15 [(0, 0), (1, 1), (2, 0), (3, 0), (4, 0), (5, 0), (6, 1), (7, 0), (8, 1), (9, 0), (10, 0), (11, 0), (12, 1), (13, 0), (14, 0), (15, 2)] (by kernel_rfl) (⟨HS1.out.yy.drew, HS1.out.ee, HS1.out.dd, HS1.out.aj⟩) ?_
      refine sl_q (d := some 65) rfl rfl rfl (.pointer (some ⟨yb, 1, none⟩)) (fun w => by go_simp) ?_
      simp only [ap_s, ap_n, ls_z, ls_s]
      refine sl_s (d := some 66) rfl rfl rfl (.slice (some ⟨X, 0, none⟩) dn cap) (fun w hw => by have c := hw.yy.at 1 rfl; simp [execOp, Act.eval, go_sem, c]) ?_
      simp only [ap_s, ap_n, ls_z, ls_s]
      refine sl_q (d := some 67) rfl rfl rfl (.slice (some ⟨eg, 0, none⟩) M ec) (fun w => rfl) ?_
      simp only [ap_s, ap_n, ls_z, ls_s]
      refine sl_q (d := some 68) rfl rfl rfl (.int .i64 (c : Int)) (fun w => rfl) ?_
      simp only [ap_s, ap_n, ls_z, ls_s]
      refine sl_q (d := some 69) rfl rfl rfl (.pointer (some ⟨eg, c * 2, none⟩)) (fun w => by obtain ⟨i1, i2, i3, i4⟩ := HIx.out; simp [execOp, Act.eval, go_sem, i1, i2, i3, i4]) ?_
      simp only [ap_s, ap_n, ls_z, ls_s]
      refine sl_q (d := some 70) rfl rfl rfl (.pointer (some ⟨eg, c * 2 + 1, none⟩)) (fun w => by simp [execOp, Act.eval, go_sem]) ?_
      simp only [ap_s, ap_n, ls_z, ls_s]
      refine sl_s (d := some 71) rfl rfl rfl (.int .i64 (zn : Int)) (fun w hw => by have c := hw.ee; simp [execOp, Act.eval, go_sem, c]) ?_
      simp only [ap_s, ap_n, ls_z, ls_s]
      refine sl_q (d := some 72) rfl rfl rfl (.pointer (some ⟨X, zn, none⟩)) (fun w => by obtain ⟨i1, i2, i3, i4⟩ := HIx.out; simp [execOp, Act.eval, go_sem, i1, i2, i3, i4]) ?_
      simp only [ap_s, ap_n, ls_z, ls_s]
      refine sl_s (d := some 73) rfl rfl rfl (.int .i64 d2) (fun w hw => by have c := hw.dd; simp [execOp, Act.eval, go_sem, c]) ?_
      simp only [ap_s, ap_n, ls_z, ls_s]
      refine sl_q (d := some 74) rfl rfl rfl (.slice (some ⟨ag, 0, none⟩) an ac) (fun w => rfl) ?_
      simp only [ap_s, ap_n, ls_z, ls_s]
      refine sl_q (d := some 75) rfl rfl rfl (.int .i64 (c : Int)) (fun w => rfl) ?_
      simp only [ap_s, ap_n, ls_z, ls_s]
      refine sl_q (d := some 76) rfl rfl rfl (.pointer (some ⟨ag, c, none⟩)) (fun w => by obtain ⟨i1, i2, i3, i4⟩ := HIx.out; simp [execOp, Act.eval, go_sem, i1, i2, i3, i4]) ?_
      simp only [ap_s, ap_n, ls_z, ls_s]
      refine sl_s (d := some 77) rfl rfl rfl (.int .i64 m) (fun w hw => by have c := hw.aj; simp [execOp, Act.eval, go_sem, c]) ?_
      simp only [ap_s, ap_n, ls_z, ls_s]
      refine sl_q (d := some 78) rfl rfl rfl (.int .i64 (d2 + m)) (fun w => by have c := HBd.out.2; simp [execOp, Act.eval, go_sem, c]) ?_
      simp only [ap_s, ap_n, ls_z, ls_s]
      refine sl_q (d := some 79) rfl rfl rfl (.pointer (some ⟨X, zn, none⟩)) (fun w => by obtain ⟨i1, i2, i3, i4⟩ := HIx.out; simp [execOp, Act.eval, go_sem, i1, i2, i3, i4]) ?_
      simp only [ap_s, ap_n, ls_z, ls_s]
      refine sl_skip (d := none) rfl rfl rfl (((wr.drew.setCell ⟨X, xn, none⟩ (.int .i64 (d1 - m))).drew).setCell ⟨X, zn, none⟩ (.int .i64 (d2 + m))) (by have c := HXf.out.2.2.1; have f := HXf.out.2.2.2; simp [execOp, Act.eval, go_sem, c, f]) (fun h => by cases h) ?_
      simp only [ap_s, ap_n, ls_z, ls_s]
      refine sl_end ?_
      go_wp2_with fail
      refine ⟨⟨c + 1, by omega, by go_num, HEnd⟩, ?_⟩
      simp [intOf]; omega
    · obtain rfl : c = M := by omega
      have hHs := hs.out
      rw [HM.out, fin_all] at hHs
      have hlD : (mvF (edgesN n) A D (List.finRange (edgesN n).length)).length = D.length := mvF_length _ _ _ _
      have hx := HX5.out
      have hsame : ∀ k, k < w5.heap.size → k ≠ X → wr.heap[k]? = w5.heap[k]? := fun k h1 h2 => hHs.but.block k h1 h2
      have hwX : w.heap.size ≤ X := by omega
      have hYr := HW5.out.1.of_block (hsame _ hx.2.2.2.1 hx.1)
      have hRr := HW5.out.2.1.of_block (hsame _ (by omega) (by omega))
      have hOX : OwnI wr w.heap.size (.slice (some ⟨X, 0, none⟩) D.length cap) (mvN n A D) := by
        have h := hHs.blk.ownB (base := w.heap.size) hwX (by have := HCp.out; unfold maxLen; omega)
        rw [hlD] at h; exact h
      have hOF : OwnI wr w.heap.size (.slice ya yn yc) F := (HW5.out.2.2.1.of_same2 (fun g hg => hsame g (HfX.out g hg).2 (HfX.out g hg).1)).mono (by omega)
      have hBe : Below w.heap.size w wr := HBw.out.trans ((hHs.but.mono HBw.out.size).below hwX)
      have HOut := Lib.hid (rdepths_any _ _ _ wr hOX)
      have HOw := Lib.hid (And.intro hOX (And.intro hOF hBe))
      have c1 := hYr.at 1 rfl
      have HYr := Lib.hid hYr
      have HRr := Lib.hid hRr
      have hrX : w.heap.size + 1 ≠ X := by omega
      have hrF : ∀ g, (Value.slice ya yn yc).ownBlock = some g → g ≠ w.heap.size + 1 := fun g hg => by have := (HW5.out.2.2.1.lt g hg).1; omega
      have HrX := Lib.hid (And.intro hrX hrF)
      clear hs hHs hlD hx hsame hwX hYr hRr hOX hOF hBe hrX hrF
      go_wp2_with fail
      refine HOut.out.mono ?_
      rintro e w9 ⟨rfl, hw9⟩
      obtain rfl := hw9.symm
      have ho : ∀ (u : World) (q : Nat) (v : Value) (k : Nat), k ≠ w.heap.size + 1 → (u.setCell ⟨w.heap.size + 1, q, none⟩ v).heap[k]? = u.heap[k]? := fun u q v k hk => Below.heap_setCell _ _ _ _ (by simpa using hk)
      have Ho := Lib.hid ho
      have hwl : w.heap.size ≤ w.heap.size + 1 := by omega
      have HSet : ∀ v0 v1 v2, Hid (RowAt (((wr.setCell ⟨w.heap.size + 1, 0, none⟩ v0).setCell ⟨w.heap.size + 1, 1, none⟩ v1).setCell ⟨w.heap.size + 1, 2, none⟩ v2) (w.heap.size + 1) [v0, v1, v2] ∧ Below w.heap.size w (((wr.setCell ⟨w.heap.size + 1, 0, none⟩ v0).setCell ⟨w.heap.size + 1, 1, none⟩ v1).setCell ⟨w.heap.size + 1, 2, none⟩ v2) ∧ ∀ k, k ≠ w.heap.size + 1 → (((wr.setCell ⟨w.heap.size + 1, 0, none⟩ v0).setCell ⟨w.heap.size + 1, 1, none⟩ v1).setCell ⟨w.heap.size + 1, 2, none⟩ v2).heap[k]? = wr.heap[k]?) := fun v0 v1 v2 =>
        ⟨((HRr.out.set 0 (by simp) _).set 1 (by simp) _).set 2 (by simp) _, ((HOw.out.2.2.setCell (p := ⟨w.heap.size + 1, 0, none⟩) hwl _).setCell (p := ⟨w.heap.size + 1, 1, none⟩) hwl _).setCell (p := ⟨w.heap.size + 1, 2, none⟩) hwl _, fun k hk => by rw [Ho.out _ _ _ k hk, Ho.out _ _ _ k hk, Ho.out _ _ _ k hk]⟩
      clear ho hwl c1
      have y0 := HYr.out.at 0 rfl
      have y1 := HYr.out.at 1 rfl
      have y2 := HYr.out.at 2 rfl
      have r0 := HRr.out.at 0 rfl
      have r1 := HRr.out.at 1 rfl
      have r2 := HRr.out.at 2 rfl
      have f0 := HRr.out.2.2 0 (by simp)
      have f1 := HRr.out.2.2 1 (by simp)
      have f2 := HRr.out.2.2 2 (by simp)
      cases ho : outB (mvN n A D) 0 16777216 with
      | true =>
        have HO := Lib.hid ho
        have HS3 := HSet (.int .i64 0) (.slice none 0 0) (.slice none 0 0)
        clear ho HSet
        go_wp2_with fail
        exact ret_row2 rfl _ [.int .i64 0, .slice none 0 0, .slice none 0 0] _ HS3.out.1 rowT_st rfl rfl rfl ⟨⟨fun _ => rfl, fun h => by rw [HO.out] at h; cases h⟩, HS3.out.2.1⟩
      | false =>
        have HO := Lib.hid ho
        have HS3 := HSet (.int .i64 (n : Int)) (.slice (some ⟨X, 0, none⟩) D.length cap) (.slice ya yn yc)
        clear ho HSet
        go_wp2_with fail
        refine ret_row2 rfl _ [.int .i64 (n : Int), .slice (some ⟨X, 0, none⟩) D.length cap, .slice ya yn yc] _ HS3.out.1 rowT_st rfl rfl rfl ⟨⟨fun h => (by rw [HO.out] at h; cases h), fun _ => ⟨_, _, rfl, ?_, ?_⟩⟩, HS3.out.2.1⟩
        · exact HOw.out.1.of_same2 (fun g hg => HS3.out.2.2 g (by have : X = g := (by simpa [Value.ownBlock] using hg); have := HrX.out.1; omega))
        · exact HOw.out.2.1.of_same2 (fun g hg => HS3.out.2.2 g (HrX.out.2 g hg))
end Go.Proofs.YtkpgciimhjkajaaGreatDoor
/- The reference's model: Step. -/
namespace Go.Proofs.YtkpgciimhjkajaaGreatDoor
open Go Go.RowKit
theorem new3 (w : World) (T : TypeId) (a0 a1 a2 : Value) (U : World) (hU : U = w.alloc (.cells #[a0, a1, a2] T)) : RowAt U w.heap.size [a0, a1, a2] ∧ Below w.heap.size w U := by
  rw [hU]
  exact ⟨RowAt.new _ [a0, a1, a2] (by simp) _ rfl, (Below.refl _ _).alloc (Nat.le_refl _) _⟩
set_option maxRecDepth 100000 in
set_option maxHeartbeats 16000000 in
theorem rstep_any (n : Nat) (hn : Fq n) (fr sl mv : Int) (hsc : outB [fr, sl, mv] 1 4 = false) (dv fv : Value) (D F : List Int) (B0 : Nat) (w : World) (hok : SOk n D F) (hd : OwnI w B0 dv D) (hf : OwnI w B0 fv F) :
    Calls Tryz.prog 60 #[.agg #[.int .i64 fr, .int .i64 sl, .int .i64 mv], stv n dv fv] w fun e w' => stepPr n fr sl mv D F e w w' ∧ Below w.heap.size w w' := by
  obtain ⟨w1, hw1⟩ : ∃ u, u = ((w.alloc (.cells #[.int .i64 fr, .int .i64 sl, .int .i64 mv] 24)).alloc (.cells #[.int .i64 (n : Int), dv, fv] 36)).alloc (.cells #[.int .i64 0, .slice none 0 0, .slice none 0 0] 36) := ⟨_, rfl⟩
  have hb1 : Below w.heap.size w w1 := by rw [hw1]; exact (((Below.refl _ _).alloc (Nat.le_refl _) _).alloc (by simp) _).alloc (by simp; omega) _
  have hC1 : RowAt w1 w.heap.size [.int .i64 fr, .int .i64 sl, .int .i64 mv] := by rw [hw1]; exact ((RowAt.new _ [.int .i64 fr, .int .i64 sl, .int .i64 mv] (by simp) _ rfl).alloc _).alloc _
  have hS1 : RowAt w1 (w.heap.size + 1) [.int .i64 (n : Int), dv, fv] := by rw [hw1]; exact (RowAt.new _ [.int .i64 (n : Int), dv, fv] (by simp) _ (by simp)).alloc _
  have hR1 : RowAt w1 (w.heap.size + 1 + 1) [.int .i64 0, .slice none 0 0, .slice none 0 0] := by rw [hw1]; exact RowAt.new _ [.int .i64 0, .slice none 0 0, .slice none 0 0] (by simp) _ (by simp)
  have HAc := Lib.hid (raccel_any n hn fr sl mv hsc dv fv D F B0 w1 hok (hd.below hb1) (hf.below hb1))
  have HFix := Lib.hid (And.intro hn (And.intro hsc hok))
  have HB1 := Lib.hid hb1
  have Hw1 := Lib.hid hw1
  have HR1 := Lib.hid (And.intro hC1 (And.intro hS1 hR1))
  obtain ⟨da, dn, dc, rfl⟩ : ∃ a m c, dv = .slice a m c := by obtain ⟨a, c, h⟩ := hd.slice; exact ⟨a, _, c, h⟩
  obtain ⟨fa, fn, fc, rfl⟩ : ∃ a m c, fv = .slice a m c := by obtain ⟨a, c, h⟩ := hf.slice; exact ⟨a, _, c, h⟩
  have c0 := hC1.at 0 rfl
  have c1 := hC1.at 1 rfl
  have c2 := hC1.at 2 rfl
  have s0 := hS1.at 0 rfl
  have s1 := hS1.at 1 rfl
  have s2 := hS1.at 2 rfl
  clear hn hok hb1 hw1 hsc hd hf hC1 hS1 hR1
  unfold stv
  unfold stv at HAc
  go_enter Tryz.func60, Tryz.ntmps60
  go_upto_region 1 with fail
  rw [← Hw1.out]
  go_wp2_with fail
  clear c0 c1 c2 s0 s1 s2
  refine HAc.out.mono ?_
  rintro e w2 ⟨dv1, fv1, rfl, hd1, hf1, hb2⟩
  obtain ⟨pa, pn, pc, rfl⟩ : ∃ a m c, dv1 = .slice a m c := by obtain ⟨a, c, h⟩ := hd1.slice; exact ⟨a, _, c, h⟩
  obtain ⟨qa, qn, qc, rfl⟩ : ∃ a m c, fv1 = .slice a m c := by obtain ⟨a, c, h⟩ := hf1.slice; exact ⟨a, _, c, h⟩
  have HR2 := Lib.hid (And.intro (HR1.out.1.below hb2) (And.intro (HR1.out.2.1.below hb2) (HR1.out.2.2.below hb2)))
  have HB2 := Lib.hid (below_then HB1.out hb2)
  have HO2 := Lib.hid (And.intro hd1 hf1)
  clear hb2 hd1 hf1 HR1 HB1 HAc
  go_upto_region 2 with fail
  obtain ⟨U2, hU2⟩ : ∃ u, u = w2.alloc (.cells #[.int .i64 (n : Int), .slice pa pn pc, .slice qa qn qc] 36) := ⟨_, rfl⟩
  rw [← hU2]
  obtain ⟨hY, hbU⟩ := new3 _ _ _ _ _ U2 hU2
  obtain ⟨yb, hyb⟩ : ∃ x, x = w2.heap.size := ⟨_, rfl⟩
  rw [← hyb] at hY ⊢
  have hOd := HO2.out.1.below hbU
  have hOf := HO2.out.2.below hbU
  have HRU := Lib.hid (And.intro (HR2.out.1.below hbU) (And.intro hY (HR2.out.2.2.below hbU)))
  have HBU := Lib.hid (below_then HB2.out hbU)
  have hok2 := accN_ok (fr := fr) (sl := sl) HFix.out.2.2
  have HAm := Lib.hid (ramounts_any n HFix.out.1 fr sl mv HFix.out.2.1 _ _ D (accN n fr sl D F) w1.heap.size U2 hok2 hOd hOf)
  have HOU := Lib.hid (And.intro hok2 (And.intro hOd hOf))
  have c0 := HRU.out.1.at 0 rfl
  have c1 := HRU.out.1.at 1 rfl
  have c2 := HRU.out.1.at 2 rfl
  have s0 := HRU.out.2.1.at 0 rfl
  have s1 := HRU.out.2.1.at 1 rfl
  have s2 := HRU.out.2.1.at 2 rfl
  clear hU2 hY hbU hOd hOf hok2 HR2 HB2 HO2 hyb
  unfold stv at HAm
  go_wp2_with fail
  clear c0 c1 c2 s0 s1 s2
  refine HAm.out.mono ?_
  rintro e w3 ⟨av, bv, bl, rfl, hav, hbv, hb3⟩
  obtain ⟨xa, xn, xc, rfl⟩ : ∃ a m c, av = .slice a m c := by obtain ⟨a, c, h⟩ := hav.slice; exact ⟨a, _, c, h⟩
  obtain ⟨za, zn, zc, rfl⟩ : ∃ a m c, bv = .slice a m c := by obtain ⟨a, c, h⟩ := hbv.slice; exact ⟨a, _, c, h⟩
  have HR3 := Lib.hid (And.intro (HRU.out.2.1.below hb3) (HRU.out.2.2.below hb3))
  have HB3 := Lib.hid (below_then HBU.out hb3)
  have hAk := amtN_ok HFix.out.1 (mv := mv) HOU.out.1
  have HMo := Lib.hid (rmove_any n HFix.out.1 _ _ _ D (accN n fr sl D F) (amtN n mv D (accN n fr sl D F)) 0 w3 HOU.out.1 ((HOU.out.2.1.below hb3).mono (Nat.zero_le _)) ((HOU.out.2.2.below hb3).mono (Nat.zero_le _)) (hav.mono (Nat.zero_le _)) hAk.1 hAk.2)
  have s0 := HR3.out.1.at 0 rfl
  have s1 := HR3.out.1.at 1 rfl
  have s2 := HR3.out.1.at 2 rfl
  clear hb3 hav hbv hAk HRU HBU HOU HAm
  unfold stv at HMo
  go_wp2_with fail
  clear s0 s1 s2
  refine HMo.out.mono ?_
  rintro e w4 ⟨hm, hb4⟩
  have HR4 := Lib.hid (HR3.out.2.below hb4)
  have HB4 := Lib.hid (below_then HB3.out hb4)
  have hw34 : w.heap.size ≤ w3.heap.size := HB3.out.size
  have hrl : w.heap.size + 1 + 1 < w4.heap.size := HR4.out.lt
  have hRl : w.heap.size + 1 + 1 < w3.heap.size := HR3.out.2.lt
  have HLe := Lib.hid (And.intro hw34 hRl)
  clear hb4 HR3 HB3 HMo hw34 hrl hRl
  obtain ⟨hmT, hmF⟩ := hm
  have hwl : w.heap.size ≤ w.heap.size + 1 + 1 := by omega
  have Hwl := Lib.hid hwl
  clear hwl
  cases ho : outB (mvN n (amtN n mv D (accN n fr sl D F)) D) 0 16777216 with
  | true =>
    have he := hmT ho
    subst he
    have Ho : Hid (outB (stD n fr sl mv D F) 0 16777216 = true) := ho
    clear hmT hmF ho
    unfold stv
    go_upto_region 6 with fail
    obtain ⟨U4, hU4⟩ : ∃ u, u = w4.alloc (.cells #[.int .i64 0, .slice none 0 0, .slice none 0 0] 36) := ⟨_, rfl⟩
    rw [← hU4]
    obtain ⟨hZ, hbU⟩ := new3 _ _ _ _ _ U4 hU4
    have hR5 := HR4.out.below hbU
    have HB5 := Lib.hid (below_then HB4.out hbU)
    have r0 := hR5.at 0 rfl
    have r1 := hR5.at 1 rfl
    have r2 := hR5.at 2 rfl
    have f0 := hR5.2.2 0 (by simp)
    have f1 := hR5.2.2 1 (by simp)
    have f2 := hR5.2.2 2 (by simp)
    obtain ⟨V, hV⟩ : ∃ u, u = ((U4.setCell ⟨w.heap.size + 1 + 1, 0, none⟩ (.int .i64 0)).setCell ⟨w.heap.size + 1 + 1, 1, none⟩ (.slice none 0 0)).setCell ⟨w.heap.size + 1 + 1, 2, none⟩ (.slice none 0 0) := ⟨_, rfl⟩
    obtain ⟨v1, v2, v3⟩ := set3 hR5 V hV w.heap.size Hwl.out
    have HV := Lib.hid (And.intro v1 (HB5.out.trans v3))
    have HVe := Lib.hid hV
    clear hV v1 v2 v3 hZ hbU hU4 hR5
    go_wp2_with fail
    rw [← HVe.out]
    refine ret_row3 rfl _ [.int .i64 0, .slice none 0 0, .slice none 0 0] _ _ HV.out.1 rowT_st rfl rfl rfl rfl ⟨⟨_, _, _, _, _, _, _, _, _, rfl, ⟨fun _ => ⟨rfl, rfl, rfl, rfl⟩, fun h => by rw [Ho.out] at h; cases h⟩⟩, HV.out.2⟩
  | false =>
    obtain ⟨dv2, fv2, he, hd2, hf2⟩ := hmF ho
    subst he
    obtain ⟨pa2, pn2, pc2, rfl⟩ : ∃ a m c, dv2 = .slice a m c := by obtain ⟨a, c, h⟩ := hd2.slice; exact ⟨a, _, c, h⟩
    obtain ⟨qa2, qn2, qc2, rfl⟩ : ∃ a m c, fv2 = .slice a m c := by obtain ⟨a, c, h⟩ := hf2.slice; exact ⟨a, _, c, h⟩
    have Ho : Hid (outB (stD n fr sl mv D F) 0 16777216 = false) := ho
    clear hmT hmF ho
    unfold stv
    have HO4 := Lib.hid (And.intro hd2 hf2)
    clear hd2 hf2
    go_upto_region 6 with fail
    obtain ⟨U4, hU4⟩ : ∃ u, u = w4.alloc (.cells #[.int .i64 (n : Int), .slice pa2 pn2 pc2, .slice qa2 qn2 qc2] 36) := ⟨_, rfl⟩
    rw [← hU4]
    obtain ⟨hZ, hbU⟩ := new3 _ _ _ _ _ U4 hU4
    have hR5 := HR4.out.below hbU
    have HB5 := Lib.hid (below_then HB4.out hbU)
    have HO5 := Lib.hid (And.intro (HO4.out.1.below hbU) (HO4.out.2.below hbU))
    obtain ⟨zb, hzb⟩ : ∃ x, x = w4.heap.size := ⟨_, rfl⟩
    rw [← hzb] at hZ ⊢
    have r0 := hR5.at 0 rfl
    have r1 := hR5.at 1 rfl
    have r2 := hR5.at 2 rfl
    have f0 := hR5.2.2 0 (by simp)
    have f1 := hR5.2.2 1 (by simp)
    have f2 := hR5.2.2 2 (by simp)
    have y0 := hZ.at 0 rfl
    have y1 := hZ.at 1 rfl
    have y2 := hZ.at 2 rfl
    obtain ⟨V, hV⟩ : ∃ u, u = ((U4.setCell ⟨w.heap.size + 1 + 1, 0, none⟩ (.int .i64 (n : Int))).setCell ⟨w.heap.size + 1 + 1, 1, none⟩ (.slice pa2 pn2 pc2)).setCell ⟨w.heap.size + 1 + 1, 2, none⟩ (.slice qa2 qn2 qc2) := ⟨_, rfl⟩
    obtain ⟨v1, v2, v3⟩ := set3 hR5 V hV w.heap.size Hwl.out
    have hne : ∀ g, w3.heap.size ≤ g → g ≠ w.heap.size + 1 + 1 := fun g hg e => by
      have h := HLe.out.2; omega
    have HV := Lib.hid (And.intro v1 (And.intro (HB5.out.trans v3) (And.intro (HO5.out.1.of_same2 (fun g hg => v2 g (hne g (HO5.out.1.lt g hg).1))) (HO5.out.2.of_same2 (fun g hg => v2 g (hne g (HO5.out.2.lt g hg).1))))))
    have HVe := Lib.hid hV
    clear hV v1 v2 v3 hZ hbU hU4 hR5 hzb
    go_wp2_with fail
    rw [← HVe.out]
    refine ret_row3 rfl _ [.int .i64 (n : Int), .slice pa2 pn2 pc2, .slice qa2 qn2 qc2] _ _ HV.out.1 rowT_st rfl rfl rfl rfl ⟨⟨_, _, _, _, _, _, _, _, _, rfl, ⟨fun h => (by rw [Ho.out] at h; cases h), fun _ => ⟨rfl, rfl, HV.out.2.2.1.mono HLe.out.1, HV.out.2.2.2.mono HLe.out.1⟩⟩⟩, HV.out.2.1⟩
end Go.Proofs.YtkpgciimhjkajaaGreatDoor
/- The reference's model: Run. -/
namespace Go.Proofs.YtkpgciimhjkajaaGreatDoor
open Go Go.RowKit
def runP0 (Pb : Nat → Prop) (n : Nat) (r : Option (List Int × List Int)) (e : Ending) (w' : World) : Prop :=
  (r = none → e = .returned (.tuple #[stv 0 (.slice none 0 0) (.slice none 0 0), .int .i64 7])) ∧
  (∀ D F, r = some (D, F) → ∃ dv fv, e = .returned (.tuple #[stv n dv fv, .int .i64 0]) ∧ OwnI w' 0 dv D ∧ OwnI w' 0 fv F ∧ (∀ g, dv.ownBlock = some g → Pb g) ∧ (∀ g, fv.ownBlock = some g → Pb g))
structure Rr (Pb : Nat → Prop) (n : Nat) (w1 wr : World) (yb : Nat) (D F : List Int) (dv fv : Value) : Prop where
  row : RowAt wr yb [.int .i64 (n : Int), dv, fv]
  od : OwnI wr 0 dv D
  of : OwnI wr 0 fv F
  nd : ∀ g, dv.ownBlock = some g → g ≠ yb ∧ g ≠ yb + 1 ∧ Pb g
  nf : ∀ g, fv.ownBlock = some g → g ≠ yb ∧ g ≠ yb + 1 ∧ Pb g
  be : But w1.heap.size yb w1 wr
  ok : SOk n D F
set_option maxRecDepth 100000 in
set_option maxHeartbeats 16000000 in
theorem rrun_any (n : Nat) (hn : Fq n) (fr sl mv : Int) (hsc : outB [fr, sl, mv] 1 4 = false) (dv fv : Value) (D F : List Int) (B0 : Nat) (k : Nat) (hk : k ≤ 400) (w : World) (Pb : Nat → Prop) (hP1 : ∀ g, w.heap.size ≤ g → Pb g) (hP2 : ∀ g, dv.ownBlock = some g → Pb g) (hP3 : ∀ g, fv.ownBlock = some g → Pb g) (hok : SOk n D F) (hd : OwnI w B0 dv D) (hf : OwnI w B0 fv F) :
    Calls Tryz.prog 40 #[.agg #[.int .i64 fr, .int .i64 sl, .int .i64 mv], stv n dv fv, .int .i64 (k : Int)] w fun e w' => runP0 Pb n (runN n fr sl mv k D F) e w' ∧ Below w.heap.size w w' := by
  obtain ⟨da, dn, dc, rfl⟩ : ∃ a m c, dv = .slice a m c := by obtain ⟨a, c, h⟩ := hd.slice; exact ⟨a, _, c, h⟩
  obtain ⟨fa, fn, fc, rfl⟩ : ∃ a m c, fv = .slice a m c := by obtain ⟨a, c, h⟩ := hf.slice; exact ⟨a, _, c, h⟩
  obtain ⟨w1, hw1⟩ : ∃ u, u = ((w.alloc (.cells #[.int .i64 fr, .int .i64 sl, .int .i64 mv] 24)).alloc (.cells #[.int .i64 (n : Int), .slice da dn dc, .slice fa fn fc] 36)).alloc (.cells #[.int .i64 0, .slice none 0 0, .slice none 0 0] 36) := ⟨_, rfl⟩
  have hb1 : Below w.heap.size w w1 := by rw [hw1]; exact (((Below.refl _ _).alloc (Nat.le_refl _) _).alloc (by simp) _).alloc (by simp; omega) _
  have hs1 : w1.heap.size = w.heap.size + 1 + 1 + 1 := by rw [hw1]; simp
  have hC1 : RowAt w1 w.heap.size [.int .i64 fr, .int .i64 sl, .int .i64 mv] := by rw [hw1]; exact ((RowAt.new _ [.int .i64 fr, .int .i64 sl, .int .i64 mv] (by simp) _ rfl).alloc _).alloc _
  have hS1 : RowAt w1 (w.heap.size + 1) [.int .i64 (n : Int), .slice da dn dc, .slice fa fn fc] := by rw [hw1]; exact (RowAt.new _ [.int .i64 (n : Int), .slice da dn dc, .slice fa fn fc] (by simp) _ (by simp)).alloc _
  have hR1 : RowAt w1 (w.heap.size + 1 + 1) [.int .i64 0, .slice none 0 0, .slice none 0 0] := by rw [hw1]; exact RowAt.new _ [.int .i64 0, .slice none 0 0, .slice none 0 0] (by simp) _ (by simp)
  have HAc := Lib.hid (raccel_any n hn fr sl mv hsc _ _ D F B0 w1 hok (hd.below hb1) (hf.below hb1))
  have HFix := Lib.hid (And.intro hn (And.intro hsc hok))
  have HL1 := Lib.hid (And.intro (hd.below hb1) (hf.below hb1))
  have HR1 := Lib.hid (And.intro hC1 (And.intro hS1 hR1))
  have HNb : Hid ((∀ g, (Value.slice da dn dc).ownBlock = some g → g < w.heap.size ∧ Pb g) ∧ (∀ g, (Value.slice fa fn fc).ownBlock = some g → g < w.heap.size ∧ Pb g)) := ⟨fun g h => ⟨(hd.lt g h).2, hP2 g h⟩, fun g h => ⟨(hf.lt g h).2, hP3 g h⟩⟩
  have HPb := Lib.hid hP1
  have HB1 := Lib.hid (And.intro hb1 hs1)
  have Hw1 := Lib.hid hw1
  have k0 : 0 ≤ (k : Int) := by omega
  have k4 : (k : Int) ≤ 400 := by omega
  have c0 := hC1.at 0 rfl
  have c1 := hC1.at 1 rfl
  have c2 := hC1.at 2 rfl
  have s0 := hS1.at 0 rfl
  have s1 := hS1.at 1 rfl
  have s2 := hS1.at 2 rfl
  clear hP1 hP2 hP3 hn hok hd hf hb1 hw1 hsc hC1 hS1 hR1 hs1
  unfold stv
  unfold stv at HAc
  go_enter Tryz.func40, Tryz.ntmps40
  go_upto_region 1 with fail
  rw [← Hw1.out]
  go_wp2_with fail
  clear c0 c1 c2 s0 s1 s2
  refine HAc.out.mono ?_
  rintro e w2 ⟨dv1, fv1, rfl, hd1, hf1, hb2⟩
  obtain ⟨pa, pn, pc, rfl⟩ : ∃ a m c, dv1 = .slice a m c := by obtain ⟨a, c, h⟩ := hd1.slice; exact ⟨a, _, c, h⟩
  obtain ⟨qa, qn, qc, rfl⟩ : ∃ a m c, fv1 = .slice a m c := by obtain ⟨a, c, h⟩ := hf1.slice; exact ⟨a, _, c, h⟩
  have Hb2 := Lib.hid hb2
  clear hb2 hd1 hf1 HAc
  go_upto_region 4 with fail
  obtain ⟨w3, hw3⟩ : ∃ u, u = w2.alloc (.cells #[.int .i64 (n : Int), .slice pa pn pc, .slice qa qn qc] 36) := ⟨_, rfl⟩
  obtain ⟨_, hbU⟩ := new3 _ _ _ _ _ w3 hw3
  rw [← hw3]
  have hb3 : Below w1.heap.size w1 w3 := below_then Hb2.out hbU
  have HRr : Hid (Rr Pb n w1 w3 (w.heap.size + 1) D F (.slice da dn dc) (.slice fa fn fc)) := ⟨HR1.out.2.1.below hb3, (HL1.out.1.below hb3).mono (Nat.zero_le _), (HL1.out.2.below hb3).mono (Nat.zero_le _), fun g h => by have := HNb.out.1 g h; exact ⟨by omega, by omega, this.2⟩, fun g h => by have := HNb.out.2 g h; exact ⟨by omega, by omega, this.2⟩, But.of_below hb3, HFix.out.2.2⟩
  have Hle : Hid (w1.heap.size = w.heap.size + 1 + 1 + 1) := HB1.out.2
  have HR := Lib.hid (And.intro HR1.out.1 HR1.out.2.2)
  have HBw := Lib.hid HB1.out.1
  clear hb3 hbU hw3 Hb2 HR1 HB1 HL1 HNb
  go_wp2_with fail
  go_loopw [10] (fun kv wr => ∃ c : Nat, c ≤ k ∧ kv = .int .i64 c ∧ Hid (∃ D2 F2 a1 n1 c1 a2 n2 c2, Rr Pb n w1 wr (w.heap.size + 1) D2 F2 (.slice a1 n1 c1) (.slice a2 n2 c2) ∧ runN n fr sl mv k D F = runN n fr sl mv (k - c) D2 F2)) (fun kv _ => (1000 - intOf kv).toNat)
  case atStart => exact ⟨0, by omega, rfl, _, _, _, _, _, _, _, _, HRr.out, rfl⟩
  case round =>
    clear HRr
    obtain ⟨c, hc, rfl, hs⟩ := hrel
    obtain ⟨D2, F2, a1, n1, c1, a2, n2, c2, hs, hrn⟩ := hs.out
    have HS := Lib.hid hs
    have hC : RowAt wr w.heap.size [.int .i64 fr, .int .i64 sl, .int .i64 mv] := HR.out.1.of_block (hs.be.block _ HR.out.1.lt (by omega))
    have hR : RowAt wr (w.heap.size + 1 + 1) [.int .i64 0, .slice none 0 0, .slice none 0 0] := HR.out.2.of_block (hs.be.block _ HR.out.2.lt (by omega))
    have hwl : w.heap.size ≤ w.heap.size + 1 := by omega
    have hbw : Below w.heap.size w wr := HBw.out.trans ((hs.be.mono HBw.out.size).below hwl)
    have y0 := hs.row.at 0 rfl
    have y1 := hs.row.at 1 rfl
    have y2 := hs.row.at 2 rfl
    by_cases hlt : c < k
    · have i0 : (c : Int) < (k : Int) := by omega
      have HSt := Lib.hid (rstep_any n HFix.out.1 fr sl mv HFix.out.2.1 _ _ D2 F2 0 wr hs.ok hs.od hs.of)
      unfold stv at HSt
      have hkc : k - c = (k - (c + 1)) + 1 := by omega
      rw [hkc] at hrn
      have Hrn := Lib.hid hrn
      have HRW := Lib.hid (And.intro hR hbw)
      have c0 := hC.at 0 rfl
      have c11 := hC.at 1 rfl
      have c22 := hC.at 2 rfl
      clear hs hrn hC hR hkc hwl hbw
      go_wp2_with fail
      clear y0 y1 y2 c0 c11 c22
      refine HSt.out.mono ?_
      rintro e w6 ⟨⟨m, x1, m1, e1, x2, m2, e2, bv, q, rfl, hst⟩, hb6⟩
      have hY6 := HS.out.row.below hb6
      have y0 := hY6.at 0 rfl
      have y1 := hY6.at 1 rfl
      have y2 := hY6.at 2 rfl
      have f0 := hY6.2.2 0 (by simp)
      have f1 := hY6.2.2 1 (by simp)
      have f2 := hY6.2.2 2 (by simp)
      have hwl : w.heap.size ≤ w.heap.size + 1 := by omega
      obtain ⟨q1, q2, q3⟩ := set3 hY6 _ rfl w.heap.size (a0 := .int .i64 m) (a1 := .slice x1 m1 e1) (a2 := .slice x2 m2 e2) hwl
      have hyr := HS.out.row.lt
      have hrr := HRW.out.1.lt
      have hR6 := (HRW.out.1.below hb6).of_block (q2 _ (by omega))
      have hbe := (below_then HRW.out.2 hb6).trans q3
      cases ho : outB (stD n fr sl mv D2 F2) 0 16777216 with
      | true =>
        obtain ⟨rfl, h1, h2, rfl⟩ := hst.t ho
        injection h1 with h11 h12 h13
        injection h2 with h21 h22 h23
        subst h11 h12 h13 h21 h22 h23
        have HNo : Hid (runN n fr sl mv k D F = none) := by unfold Hid; rw [Hrn.out]; unfold runN; rw [if_pos ho]
        have r0 := hR6.at 0 rfl
        have r1 := hR6.at 1 rfl
        have r2 := hR6.at 2 rfl
        have g0 := hR6.2.2 0 (by simp)
        have g1 := hR6.2.2 1 (by simp)
        have g2 := hR6.2.2 2 (by simp)
        obtain ⟨p1, p2, p3⟩ := set3 hR6 _ rfl w.heap.size (a0 := .int .i64 0) (a1 := .slice none 0 0) (a2 := .slice none 0 0) (by omega)
        have HE := Lib.hid (And.intro p1 (hbe.trans p3))
        clear hst hb6 hY6 q1 q2 q3 hyr hR6 hbe p1 p2 p3 ho HS HRW Hrn HSt hwl hrr
        go_wp2_with fail
        refine ret_row2 rfl _ [.int .i64 0, .slice none 0 0, .slice none 0 0] _ HE.out.1 rowT_st rfl rfl rfl ⟨⟨fun _ => rfl, fun D' F' h => ?_⟩, HE.out.2⟩
        rw [HNo.out] at h; cases h
      | false =>
        obtain ⟨hm, rfl, h1, h2⟩ := hst.f ho
        subst hm
        have hbut := ((HS.out.be.trans (But.of_below (hb6.mono HS.out.be.size))).setCell (p := ⟨w.heap.size + 1, 0, none⟩) (Or.inr rfl) (.int .i64 (n : Int))).setCell (p := ⟨w.heap.size + 1, 1, none⟩) (Or.inr rfl) (.slice x1 m1 e1) |>.setCell (p := ⟨w.heap.size + 1, 2, none⟩) (Or.inr rfl) (.slice x2 m2 e2)
        have hRn : Hid (∃ D3 F3 b1 m1 d1 b2 m2 d2, Rr Pb n w1 _ (w.heap.size + 1) D3 F3 (.slice b1 m1 d1) (.slice b2 m2 d2) ∧ runN n fr sl mv k D F = runN n fr sl mv (k - (c + 1)) D3 F3) :=
          ⟨_, _, _, _, _, _, _, _, ⟨q1, (h1.of_same2 (fun g hg => q2 g (by have := (h1.lt g hg).1; omega))).mono (Nat.zero_le _), (h2.of_same2 (fun g hg => q2 g (by have := (h2.lt g hg).1; omega))).mono (Nat.zero_le _), fun g e => by have := (h1.lt _ e).1; exact ⟨by omega, by omega, HPb.out g (by omega)⟩, fun g e => by have := (h2.lt _ e).1; exact ⟨by omega, by omega, HPb.out g (by omega)⟩, hbut, stD_ok HS.out.ok ho⟩, by rw [Hrn.out]; show (if _ then _ else _) = _; rw [ho]; rfl⟩
        clear hst hb6 hY6 q1 q2 q3 hyr hR6 hbe ho HS HRW Hrn HSt h1 h2 hwl hrr hbut
        go_wp2_with fail
        refine ⟨⟨c + 1, by omega, by go_num, hRn⟩, ?_⟩
        simp [intOf]; omega
    · obtain rfl : c = k := by omega
      have HNo : Hid (runN n fr sl mv c D F = some (D2, F2)) := by unfold Hid; rw [hrn, Nat.sub_self]; rfl
      have r0 := hR.at 0 rfl
      have r1 := hR.at 1 rfl
      have r2 := hR.at 2 rfl
      have g0 := hR.2.2 0 (by simp)
      have g1 := hR.2.2 1 (by simp)
      have g2 := hR.2.2 2 (by simp)
      obtain ⟨p1, p2, p3⟩ := set3 hR _ rfl w.heap.size (a0 := .int .i64 (n : Int)) (a1 := .slice a1 n1 c1) (a2 := .slice a2 n2 c2) (by omega)
      have HE := Lib.hid (And.intro p1 (And.intro (hbw.trans p3) (And.intro (HS.out.od.of_same2 (fun g hg => p2 g (HS.out.nd g hg).2.1)) (And.intro (HS.out.of.of_same2 (fun g hg => p2 g (HS.out.nf g hg).2.1)) (And.intro (fun g hg => (HS.out.nd g hg).2.2) (fun g hg => (HS.out.nf g hg).2.2))))))
      clear hs hrn hC hR p1 p2 p3 hbw hwl HS
      go_wp2_with fail
      refine ret_row2 rfl _ [.int .i64 (n : Int), .slice a1 n1 c1, .slice a2 n2 c2] _ HE.out.1 rowT_st rfl rfl rfl ⟨⟨fun h => ?_, fun D' F' h => ?_⟩, HE.out.2.1⟩
      · rw [HNo.out] at h; cases h
      · rw [HNo.out] at h; injection h with h; injection h with h1 h2; subst h1 h2
        exact ⟨_, _, rfl, HE.out.2.2.1, HE.out.2.2.2.1, HE.out.2.2.2.2.1, HE.out.2.2.2.2.2⟩
end Go.Proofs.YtkpgciimhjkajaaGreatDoor
/- The reference's model: FromField, Rest. -/
namespace Go.Proofs.YtkpgciimhjkajaaGreatDoor
open Go Go.RowKit
theorem rfreqT_any (n : Nat) (hn : Fq n) (w : World) : Calls Tryz.prog 51 #[.int .i64 n] w fun e w' => e = .returned (.bool true) ∧ w' = w := by
  have hn8 : 1 ≤ n ∧ n ≤ 8 := hn
  have h1 : decide (1 ≤ (n : Int) ∧ (n : Int) ≤ 8) = true := by simp; omega
  rw [← h1]; exact rfreq_any n w
set_option maxRecDepth 100000 in
set_option maxHeartbeats 16000000 in
theorem rfield_any (n : Nat) (hn : Fq n) (dv : Value) (D : List Int) (B0 : Nat) (w : World) (hok : SOk n D (List.replicate (edgesN n).length 0)) (hd : OwnI w B0 dv D) :
    Calls Tryz.prog 52 #[.int .i64 n, dv] w fun e w' => ∃ dv' fv', e = .returned (.tuple #[stv n dv' fv', .int .i64 0]) ∧ OwnI w' w.heap.size dv' D ∧ OwnI w' w.heap.size fv' (List.replicate (edgesN n).length 0) ∧ Below w.heap.size w w' := by
  obtain ⟨da, dn, dc, rfl⟩ : ∃ a m c, dv = .slice a m c := by obtain ⟨a, c, h⟩ := hd.slice; exact ⟨a, _, c, h⟩
  have hDl : D.length ≤ 1000000 := by
    have h1 := hok.dl
    have h8 : n ≤ 8 := hn.2
    have := Nat.mul_le_mul (Nat.mul_le_mul_left 10 h8) h8
    omega
  obtain ⟨w1, hw1⟩ : ∃ u, u = w.alloc (.cells #[.int .i64 0, .slice none 0 0, .slice none 0 0] 36) := ⟨_, rfl⟩
  obtain ⟨hR1, hb1⟩ := new3 _ _ _ _ _ w1 hw1
  obtain ⟨v2, w2, hrun, hv2, hb2⟩ := append_li (hd.below hb1) hDl 34
  obtain ⟨pa, pn, pc, rfl⟩ : ∃ a m c, v2 = .slice a m c := by obtain ⟨a, c, h⟩ := hv2.slice; exact ⟨a, _, c, h⟩
  have HApp := Lib.hid hrun
  have HFix := Lib.hid (And.intro hn hok)
  have HR2 := Lib.hid (hR1.below hb2)
  have HB2 := Lib.hid (below_then hb1 hb2)
  have HO2 := Lib.hid (hv2.mono hb1.size)
  have HB1s : Hid (w.heap.size + 1 = w1.heap.size) := by rw [hw1]; simp [Hid]
  have HpY : Hid (∀ g, (Value.slice pa pn pc).ownBlock = some g → w1.heap.size ≤ g) := fun g hg => (hv2.lt g hg).1
  have Hw1 := Lib.hid hw1
  have HEd := Lib.hid (fun w' => edges_n n hn w')
  have HFq := Lib.hid (fun w' => rfreqT_any n hn w')
  clear hn hok hd hDl hw1 hR1 hb1 hrun hv2 hb2
  go_enter Tryz.func52, Tryz.ntmps52
  go_upto_region 1 with fail
  rw [← Hw1.out]
  go_upto_region 2 with (at_builtin; refine wpList_append_run rfl _ _ _ rfl _ _ _ _ rfl rfl HApp.out ?_)
  obtain ⟨w3, hw3⟩ : ∃ u, u = w2.alloc (.cells #[.int .i64 (n : Int), .slice pa pn pc, .slice none 0 0] 36) := ⟨_, rfl⟩
  obtain ⟨hY3, hb3⟩ := new3 _ _ _ _ _ w3 hw3
  rw [← hw3]
  obtain ⟨yb, hyb⟩ : ∃ x, x = w2.heap.size := ⟨_, rfl⟩
  rw [← hyb] at hY3 ⊢
  have HR3 := Lib.hid (And.intro hY3 (HR2.out.below hb3))
  have HB3 := Lib.hid (below_then HB2.out hb3)
  have HO3 := Lib.hid (HO2.out.below hb3)
  have HpY3 : Hid ((∀ g, (Value.slice pa pn pc).ownBlock = some g → g ≠ yb ∧ g ≠ w.heap.size) ∧ w.heap.size < yb) := ⟨fun g hg => ⟨by have := (HO2.out.lt g hg).2; omega, by have := HpY.out g hg; have := HB1s.out; omega⟩, by have := HR2.out.lt; omega⟩
  clear hY3 hb3 hw3 HR2 HB2 HO2 HpY HB1s hyb
  go_wp2_with fail
  refine (HFq.out _).mono ?_
  rintro e w4 ⟨rfl, hw4⟩
  obtain rfl := hw4.symm
  go_wp2_with fail
  refine (HEd.out _).mono ?_
  rintro e w5 ⟨ev, rfl, hE, hb5⟩
  obtain ⟨ea, ec, rfl⟩ := hE.slice
  obtain ⟨M, hM⟩ : ∃ x, x = (edgesN n).length := ⟨_, rfl⟩
  rw [← hM]
  have hM9 : M ≤ 9000 := by rw [hM]; exact edgesN_le HFix.out.1
  have Hmk := Lib.hid (run_make_row' (P := Tryz.prog) 34 3 (.int .i64 0) 8 Tryz.underlying34 iinfoN rfl .i64 .i64 M (by omega) (by omega))
  have HR5 := Lib.hid (And.intro (HR3.out.1.below hb5) (HR3.out.2.below hb5))
  have HB5 := Lib.hid (below_then HB3.out hb5)
  have HO5 := Lib.hid (HO3.out.below hb5)
  have HM := Lib.hid hM
  clear hb5 hE HR3 HB3 HO3 hM
  have hmk := Hmk.out
  have hY5 := HR5.out.1
  obtain ⟨w6, hw6⟩ : ∃ u, u = w5.alloc (.cells (madeCells #[.int .i64 0] M) 3) := ⟨_, rfl⟩
  have hb6 : Below w5.heap.size w5 w6 := by rw [hw6]; exact (Below.refl _ _).alloc (Nat.le_refl _) _
  have hf6 : OwnI w6 w5.heap.size (.slice (some ⟨w5.heap.size, 0, none⟩) M M) (List.replicate M 0) := by rw [hw6]; exact mk_own w5 M (by omega)
  have hY6 := hY5.below hb6
  have c2 := hY6.at 2 rfl
  have f2 := hY6.2.2 2 (by simp)
  have HY6 := Lib.hid hY6
  have HW6 := Lib.hid hw6
  have HF6 := Lib.hid (And.intro hf6 hb6)
  clear hw6 hb6 hf6 hY6 hY5
  rw [HW6.out] at c2 f2
  go_upto_region 5 with fail
  obtain ⟨w7, hw7⟩ : ∃ u, u = w6.setCell ⟨yb, 2, none⟩ (.slice (some ⟨w5.heap.size, 0, none⟩) M M) := ⟨_, rfl⟩
  rw [← HW6.out, ← hw7]
  have ho : ∀ k, k ≠ yb → w7.heap[k]? = w6.heap[k]? := fun k hk => by rw [hw7]; exact Below.heap_setCell _ _ _ _ (by simpa using hk)
  have hY7 : RowAt w7 yb [.int .i64 (n : Int), .slice pa pn pc, .slice (some ⟨w5.heap.size, 0, none⟩) M M] := by rw [hw7]; exact HY6.out.set 2 (by simp) _
  have hwy : w.heap.size ≤ yb := by have := HpY3.out; omega
  have hB7 : Below w.heap.size w w7 := by rw [hw7]; exact (below_then HB5.out HF6.out.2).setCell (p := ⟨yb, 2, none⟩) hwy _
  have hy5 : yb < w5.heap.size := HR5.out.1.lt
  have hO7 : OwnI w7 w.heap.size (.slice pa pn pc) D := ((HO5.out.below HF6.out.2).of_same2 (fun g hg => ho g (HpY3.out.1 g hg).1)).mono (by have := HB5.out.size; have := HpY3.out; omega)
  have hF7 : OwnI w7 w.heap.size (.slice (some ⟨w5.heap.size, 0, none⟩) M M) (List.replicate M 0) := (HF6.out.1.of_same2 (fun g hg => ho g (by have := (HF6.out.1.lt g hg).1; omega))).mono HB5.out.size
  have hR7 : RowAt w7 w.heap.size [.int .i64 0, .slice none 0 0, .slice none 0 0] := (HR5.out.2.below HF6.out.2).of_block (ho _ (by have := HpY3.out; omega))
  have HCk := Lib.hid (rcheck_any n HFix.out.1 (.slice pa pn pc) (.slice (some ⟨w5.heap.size, 0, none⟩) M M) D (List.replicate M 0) w.heap.size w7 (by rw [HM.out]; exact HFix.out.2) hO7 hF7)
  obtain ⟨qb, hqb⟩ : ∃ x, x = w5.heap.size := ⟨_, rfl⟩
  have HW7 := Lib.hid (And.intro hY7 (And.intro hR7 (And.intro hO7 (And.intro hF7 hB7))))
  have Hn7 : Hid (w.heap.size < qb ∧ w.heap.size < yb) := by have := HpY3.out; unfold Hid; omega
  rw [← hqb] at HW7 HCk ⊢
  have y0 := hY7.at 0 rfl
  have y1 := hY7.at 1 rfl
  have y2 := hY7.at 2 rfl
  rw [← hqb] at y2
  clear hw7 ho hY7 hwy hB7 hy5 hO7 hF7 hR7 HF6 HY6 HW6 HR5 HB5 HO5 hqb hmk Hmk c2 f2
  unfold stv at HCk
  go_wp2_with fail
  clear y0 y1 y2
  refine HCk.out.mono ?_
  rintro e w8 ⟨rfl, hb8⟩
  have hY8 := HW7.out.1.below hb8
  have hR8 := HW7.out.2.1.below hb8
  have HE8 := Lib.hid (And.intro (HW7.out.2.2.1.below hb8) (And.intro (HW7.out.2.2.2.1.below hb8) (below_then HW7.out.2.2.2.2 hb8)))
  have y0 := hY8.at 0 rfl
  have y1 := hY8.at 1 rfl
  have y2 := hY8.at 2 rfl
  have r0 := hR8.at 0 rfl
  have r1 := hR8.at 1 rfl
  have r2 := hR8.at 2 rfl
  have f0 := hR8.2.2 0 (by simp)
  have f1 := hR8.2.2 1 (by simp)
  have f2 := hR8.2.2 2 (by simp)
  obtain ⟨p1, p2, p3⟩ := set3 hR8 _ rfl w.heap.size (a0 := .int .i64 (n : Int)) (a1 := .slice pa pn pc) (a2 := .slice (some ⟨qb, 0, none⟩) M M) (Nat.le_refl _)
  have HE := Lib.hid (And.intro p1 (And.intro (HE8.out.1.of_same2 (fun g hg => p2 g (HpY3.out.1 g hg).2)) (And.intro (HE8.out.2.1.of_same2 (fun g hg => p2 g (by have : qb = g := (by simpa [Value.ownBlock] using hg); have := Hn7.out; omega))) (HE8.out.2.2.trans p3))))
  clear hY8 hR8 p1 p2 p3 HE8 HW7 HCk hb8
  go_wp2_with fail
  rw [HM.out] at HE ⊢
  exact ret_row2 rfl _ [.int .i64 (n : Int), .slice pa pn pc, .slice (some ⟨qb, 0, none⟩) (edgesN n).length (edgesN n).length] _ HE.out.1 rowT_st rfl rfl rfl ⟨_, _, rfl, HE.out.2.1, HE.out.2.2.1, HE.out.2.2.2⟩
theorem rep_set (d : Int) (N c : Nat) (h : c < N) : (List.replicate c d ++ List.replicate (N - c) 0).set c d = List.replicate (c + 1) d ++ List.replicate (N - (c + 1)) (0 : Int) := by
  obtain ⟨m, rfl⟩ : ∃ m, N = c + (m + 1) := ⟨N - c - 1, by omega⟩
  have e1 : c + (m + 1) - c = m + 1 := by omega
  have e2 : c + (m + 1) - (c + 1) = m := by omega
  rw [e1, e2, List.replicate_succ, List.set_append_right _ _ (by simp)]
  simp only [List.length_replicate, Nat.sub_self, List.set_cons_zero]
  rw [List.replicate_succ', List.append_assoc]
  rfl
set_option maxRecDepth 100000 in
set_option maxHeartbeats 16000000 in
theorem rrest_any (n : Nat) (hn : Fq n) (d : Int) (hd : 0 ≤ d ∧ d ≤ 16777216) (w : World) :
    Calls Tryz.prog 37 #[.int .i64 n, .int .i64 d] w fun e w' => ∃ dv' fv', e = .returned (.tuple #[stv n dv' fv', .int .i64 0]) ∧ OwnI w' w.heap.size dv' (List.replicate (10 * n * n + 2) d) ∧ OwnI w' w.heap.size fv' (List.replicate (edgesN n).length 0) ∧ Below w.heap.size w w' := by
  obtain ⟨w1, hw1⟩ : ∃ u, u = w.alloc (.cells #[.int .i64 0, .slice none 0 0, .slice none 0 0] 36) := ⟨_, rfl⟩
  obtain ⟨hR1, hb1⟩ := new3 _ _ _ _ _ w1 hw1
  have hs1 : w1.heap.size = w.heap.size + 1 := by rw [hw1]; simp
  obtain ⟨N, hN⟩ : ∃ N, N = 10 * n * n + 2 := ⟨_, rfl⟩
  have hNb : 2 ≤ N ∧ N ≤ 1000 := by
    have := Nat.mul_le_mul (Nat.mul_le_mul_left 10 hn.2) hn.2
    omega
  have HFq := Lib.hid (fun w' => rfreqT_any n hn w')
  have HCo := Lib.hid (fun w' => rnodes_any n hn w')
  rw [← hN] at HCo
  have Hmk := Lib.hid (run_make_row' (P := Tryz.prog) 34 3 (.int .i64 0) 8 Tryz.underlying34 iinfoN rfl .i64 .i64 N (by omega) (by omega))
  have hok : SOk n (List.replicate N d) (List.replicate (edgesN n).length 0) := ⟨by simp [hN], by simp, fun x hx => by rw [List.eq_of_mem_replicate hx]; exact hd, fun x hx => by rw [List.eq_of_mem_replicate hx]; decide⟩
  have HFf := Lib.hid (fun w' v h => rfield_any n hn v _ w.heap.size w' hok h)
  have Hw1 := Lib.hid hw1
  have HR1 := Lib.hid (And.intro hR1 (And.intro hb1 hs1))
  have HNb := Lib.hid hNb
  have hN1 : (N : Int) ≤ 1000 := by omega
  rw [← hN]
  have HN := Lib.hid hN
  clear hw1 hR1 hb1 hs1 hok hNb hN hn hd
  go_enter Tryz.func37, Tryz.ntmps37
  go_upto_region 1 with fail
  rw [← Hw1.out]
  go_wp2_with fail
  refine (HFq.out _).mono ?_
  rintro e w2 ⟨rfl, hw2⟩
  obtain rfl := hw2.symm
  go_wp2_with fail
  refine (HCo.out _).mono ?_
  rintro e w3 ⟨rfl, hw3⟩
  obtain rfl := hw3.symm
  have hmk := Hmk.out
  obtain ⟨w5, hw5⟩ : ∃ u, u = w1.alloc (.cells (madeCells #[.int .i64 0] N) 3) := ⟨_, rfl⟩
  have hB5 : BlkI w5 w1.heap.size (List.replicate 0 d ++ List.replicate (N - 0) 0) N := by rw [hw5]; exact BlkI.new w1 N
  have hb5 : Below w1.heap.size w1 w5 := by rw [hw5]; exact (Below.refl _ _).alloc (Nat.le_refl _) _
  obtain ⟨X, hX⟩ : ∃ x, x = w1.heap.size := ⟨_, rfl⟩
  go_upto_region 4 with fail
  rw [← hw5, ← hX]
  rw [← hX] at hB5 hb5
  have HS0 : Hid (BlkI w5 X (List.replicate 0 d ++ List.replicate (N - 0) 0) N ∧ Below X w1 w5) := And.intro hB5 hb5
  have HXX : Hid (X = w.heap.size + 1 ∧ X = w1.heap.size) := by unfold Hid; rw [hX]; exact ⟨HR1.out.2.2, rfl⟩
  clear hmk hw5 hB5 hb5 hX Hmk
  go_wp2_with fail
  go_loopw [7] (fun kv wr => ∃ c : Nat, c ≤ N ∧ kv = .int .i64 c ∧ Hid (BlkI wr X (List.replicate c d ++ List.replicate (N - c) 0) N ∧ Below X w1 wr)) (fun kv _ => (100000 - intOf kv).toNat)
  case atStart => exact ⟨0, by omega, rfl, HS0⟩
  case round =>
    clear HS0
    obtain ⟨c, hc, rfl, hs⟩ := hrel
    by_cases hlt : c < N
    · have c0 : (c : Int) < (N : Int) := by omega
      have hl : c < (List.replicate c d ++ List.replicate (N - c) (0 : Int)).length := by simp; omega
      have hB := hs.out.1
      have hc1 := hB.at c hl
      have hf1 := hB.free c
      have h2 := hB.set c hl d
      rw [rep_set d N c hlt] at h2
      have HEnd : Hid (BlkI (wr.setCell ⟨X, c, none⟩ (.int .i64 d)) X (List.replicate (c + 1) d ++ List.replicate (N - (c + 1)) 0) N ∧ Below X w1 (wr.setCell ⟨X, c, none⟩ (.int .i64 d))) := ⟨h2, hs.out.2.setCell (p := ⟨X, c, none⟩) (Nat.le_refl _) _⟩
      generalize (List.replicate c d ++ List.replicate (N - c) (0 : Int))[c] = x0 at hc1
      clear hB h2 hs hl
      go_wp2_with fail
      refine ⟨⟨c + 1, by omega, by go_num, HEnd⟩, ?_⟩
      simp [intOf]; omega
    · obtain rfl : c = N := by omega
      have hO : OwnI wr w.heap.size (.slice (some ⟨X, 0, none⟩) c c) (List.replicate c d) := by
        have h := hs.out.1.own (base := w.heap.size) (by have := HXX.out; omega) (by omega)
        simp only [Nat.sub_self, List.replicate_zero, List.append_nil, List.length_replicate] at h
        exact h
      have HO := Lib.hid hO
      have HBw : Hid (Below w.heap.size w wr) := HR1.out.2.1.trans (hs.out.2.mono (by have := HXX.out; omega))
      have hR : RowAt wr w.heap.size [.int .i64 0, .slice none 0 0, .slice none 0 0] := by
        refine HR1.out.1.of_block (hs.out.2.block _ ?_)
        have := HXX.out; omega
      have HR := Lib.hid hR
      clear hs hO hR
      go_wp2_with fail
      refine (HFf.out _ _ HO.out).mono ?_
      rintro e w6 ⟨dv', fv', rfl, hd6, hf6, hb6⟩
      obtain ⟨pa, pn, pc, rfl⟩ : ∃ a m c, dv' = .slice a m c := by obtain ⟨a, c, h⟩ := hd6.slice; exact ⟨a, _, c, h⟩
      obtain ⟨qa, qn, qc, rfl⟩ : ∃ a m c, fv' = .slice a m c := by obtain ⟨a, c, h⟩ := hf6.slice; exact ⟨a, _, c, h⟩
      have hR6 := HR.out.below hb6
      have hwr : w.heap.size < wr.heap.size := HR.out.lt
      have r0 := hR6.at 0 rfl
      have r1 := hR6.at 1 rfl
      have r2 := hR6.at 2 rfl
      have f0 := hR6.2.2 0 (by simp)
      have f1 := hR6.2.2 1 (by simp)
      have f2 := hR6.2.2 2 (by simp)
      obtain ⟨p1, p2, p3⟩ := set3 hR6 _ rfl w.heap.size (a0 := .int .i64 (n : Int)) (a1 := .slice pa pn pc) (a2 := .slice qa qn qc) (Nat.le_refl _)
      have HE := Lib.hid (And.intro p1 (And.intro ((hd6.of_same2 (fun g hg => p2 g (by have := (hd6.lt g hg).1; omega))).mono (B := w.heap.size) (Nat.le_of_lt hwr)) (And.intro ((hf6.of_same2 (fun g hg => p2 g (by have := (hf6.lt g hg).1; omega))).mono (B := w.heap.size) (Nat.le_of_lt hwr)) ((below_then HBw.out hb6).trans p3))))
      clear hR6 p1 p2 p3 hd6 hf6 hb6 hwr
      unfold stv
      go_wp2_with fail
      exact ret_row2 rfl _ [.int .i64 (n : Int), .slice pa pn pc, .slice qa qn qc] _ HE.out.1 rowT_st rfl rfl rfl ⟨_, _, rfl, HE.out.2.1, HE.out.2.2.1, HE.out.2.2.2⟩
end Go.Proofs.YtkpgciimhjkajaaGreatDoor
