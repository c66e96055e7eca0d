/- Part 10 of the proof: laws on memory and what functions of the program return. No conditions but those that each theorem names. -/
import Derived.Test.YtkpgciimhjkajaaGreatDoorR09
set_option linter.unusedVariables false
set_option linter.unusedSimpArgs false
/- The program's model: Slopes. -/
namespace Go.Proofs.YtkpgciimhjkajaaGreatDoor
open Go Go.RowKit
def slN (n : Nat) (D : List Int) : List Int := (edgesN n).map fun e => D.getD e.1 0 - D.getD e.2 0
theorem slN_take {n : Nat} {D : List Int} {c : Nat} (h : c < (edgesN n).length) : (slN n D).take (c + 1) = (slN n D).take c ++ [D.getD (edgesN n)[c].1 0 - D.getD (edgesN n)[c].2 0] := by
  rw [List.take_add_one, List.getElem?_eq_getElem (by simp [slN]; exact h)]
  simp [slN]
structure S11 (sb kb dg n xn yn : Nat) (dv fv : Value) (d1 d2 : Int) (w : World) : Prop where
  s : RowAt w sb [.int .i64 (n : Int), dv, fv]
  k : RowAt w kb [.int .i64 (xn : Int), .int .i64 (yn : Int)]
  d1 : w.cell? ⟨dg, xn, none⟩ = some (.int .i64 d1)
  d2 : w.cell? ⟨dg, yn, none⟩ = some (.int .i64 d2)
theorem S11.below {sb kb dg n xn yn : Nat} {dv fv : Value} {d1 d2 : Int} {w w' : World} (h : S11 sb kb dg n xn yn dv fv d1 d2 w) (hb : Below w.heap.size w w') : S11 sb kb dg n xn yn dv fv d1 d2 w' :=
  ⟨h.s.below hb, h.k.below hb, cell_then hb h.d1, cell_then hb h.d2⟩
set_option maxRecDepth 100000 in
set_option maxHeartbeats 16000000 in
theorem pslopes_any (n : Nat) (hn : Fq n) (dv fv : Value) (D F : List Int) (B0 : Nat) (w : World) (hcr : Crn w) (hg : 0 < w.heap.size) (hok : SOk n D F) (hd : OwnI w B0 dv D) (hf : OwnI w B0 fv F) :
    Calls Tryz.prog 109 #[stv n dv fv] w fun e w' => ∃ v, e = .returned (.tuple #[v, .int .i64 0]) ∧ OwnI w' w.heap.size v (slN n D) ∧ Below w.heap.size w w' := by
  obtain ⟨w1, hw1⟩ : ∃ u, u = w.alloc (.cells #[.int .i64 (n : Int), dv, fv] 36) := ⟨_, rfl⟩
  have hb1 : Below w.heap.size w w1 := by rw [hw1]; exact (Below.refl _ _).alloc (Nat.le_refl _) _
  have hS1 : RowAt w1 w.heap.size [.int .i64 (n : Int), dv, fv] := by rw [hw1]; exact RowAt.new _ [.int .i64 (n : Int), dv, fv] (by simp) _ rfl
  have HCr := Lib.hid (And.intro (hcr.below hb1 hg) (Nat.lt_of_lt_of_le hg hb1.size))
  have HCk := Lib.hid (pcheck_any n hn dv fv D F B0 w1 HCr.out.1 HCr.out.2 hok (hd.below hb1) (hf.below hb1))
  have HFix := Lib.hid (And.intro hn hok)
  have HD1 := Lib.hid (hd.below hb1)
  have HB1 := Lib.hid hb1
  have Hw1 := Lib.hid hw1
  have HS1 := Lib.hid hS1
  clear hcr hg hn hok hb1 hw1
  obtain ⟨da, dn, dc, rfl⟩ : ∃ a m c, dv = .slice a m c := by obtain ⟨a, c, h⟩ := hd.slice; exact ⟨a, _, c, h⟩
  obtain ⟨fa, fn, fc, rfl⟩ : ∃ a m c, fv = .slice a m c := by obtain ⟨a, c, h⟩ := hf.slice; exact ⟨a, _, c, h⟩
  have c0 := hS1.at 0 rfl
  have c1 := hS1.at 1 rfl
  have c2 := hS1.at 2 rfl
  clear hd hf hS1
  unfold stv
  go_enter Tryz.func109, Tryz.ntmps109
  go_upto_region 1 with fail
  rw [← Hw1.out]
  go_wp2_with fail
  clear c0 c1 c2
  refine HCk.out.mono ?_
  rintro e w2 ⟨rfl, hb2⟩
  have HS2 := Lib.hid (HS1.out.below hb2)
  have HB2 := Lib.hid (below_then HB1.out hb2)
  have HD2 := Lib.hid (HD1.out.below hb2)
  have HEd := Lib.hid (pedges_any n HFix.out.1 w2 (HCr.out.1.below hb2 HCr.out.2) (Nat.lt_of_lt_of_le HCr.out.2 hb2.size))
  have c0 := HS2.out.at 0 rfl
  clear hb2 HS1 HB1 HD1 HCr HCk
  go_wp2_with fail
  refine HEd.out.mono ?_
  rintro e w3 ⟨ev, rfl, hE, hb3⟩
  obtain ⟨ea, en, ec, rfl⟩ : ∃ a m c, ev = .slice a m c := by obtain ⟨a, c, h⟩ := hE.slice; exact ⟨a, _, c, h⟩
  have hen : en = (edgesN n).length := by obtain ⟨a, c, h⟩ := hE.slice; injection h with _ h _
  have HS3 := Lib.hid (HS2.out.below hb3)
  have HB3 := Lib.hid (below_then HB2.out hb3)
  have HD3 := Lib.hid (HD2.out.below hb3)
  have HE := Lib.hid (And.intro hE hen)
  clear hb3 HS2 HB2 HD2 HEd c0 hE hen
  go_wp2_with fail
  go_loopw [7, 26] (fun av kv wr => ∃ (c : Nat) (v : Value), v = av ∧ c ≤ en ∧ kv = .int .i64 c ∧ Hid (OwnI wr w3.heap.size v ((slN n D).take c) ∧ Below w3.heap.size w3 wr)) (fun _ kv _ => (10000 - intOf kv).toNat)
  case atStart => exact ⟨0, _, rfl, by omega, rfl, OwnI.nil _ _, Below.refl _ _⟩
  case round =>
    obtain ⟨c, v, rfl, hc, rfl, hs⟩ := hrel
    by_cases hlt : c < en
    · have c0 : (c : Int) < (en : Int) := by omega
      have hcl : c < (edgesN n).length := by rw [← HE.out.2]; exact hlt
      have c9 : (c : Int) ≤ 9000 := by have := edgesN_le HFix.out.1; omega
      obtain ⟨g, cap, e, _, hcp, hcm, hc2⟩ := HE.out.1.at (by omega)
      obtain ⟨rfl, _⟩ : ea = some ⟨g, 0, none⟩ ∧ _ := by
        injection e with e1 e2 e3; exact ⟨e1, e2⟩
      have hce : ec = cap := by injection e with e1 e2 e3
      subst hce
      have hE2 := edgesN_ok HFix.out.1 _ (List.getElem_mem hcl)
      have HStp := Lib.hid (slN_take (D := D) hcl)
      obtain ⟨xn, hxn⟩ : ∃ x, x = (edgesN n)[c].1 := ⟨_, rfl⟩
      obtain ⟨yn, hyn⟩ : ∃ x, x = (edgesN n)[c].2 := ⟨_, rfl⟩
      rw [← hxn, ← hyn] at HStp
      have hg3 : g < w3.heap.size := (HE.out.1.block hcl).elim fun cs h => h.elim fun fr h => (Array.getElem?_eq_some_iff.1 h).1
      have hx : wr.cell? ⟨g, c * 2, none⟩ = some (.int .i64 (xn : Int)) := by rw [hs.out.2.cell (p := ⟨g, c * 2, none⟩) hg3, hxn]; exact hc2 c hcl 0 _ rfl
      have hy : wr.cell? ⟨g, c * 2 + 1, none⟩ = some (.int .i64 (yn : Int)) := by rw [hs.out.2.cell (p := ⟨g, c * 2 + 1, none⟩) hg3, hyn]; exact hc2 c hcl 1 _ rfl
      rw [← hxn, ← hyn] at hE2
      have hdl := HFix.out.2.dl
      obtain ⟨dg, _, ed, _, hdg, hdcp, hdm, hDa⟩ := HD3.out.iat (by omega)
      obtain ⟨rfl, hdn, hdc⟩ : da = some ⟨dg, 0, none⟩ ∧ dn = D.length ∧ _ := by injection ed with e1 e2 e3; exact ⟨e1, e2, e3⟩
      subst hdc
      have hxl : xn < D.length := by omega
      have hyl : yn < D.length := by omega
      have hgd : ∀ (l : List Int) (k : Nat) (h : k < l.length), l.getD k 0 = l[k] := fun l k h => by rw [List.getD_eq_getElem?_getD, List.getElem?_eq_getElem h]; rfl
      rw [hgd _ _ hxl, hgd _ _ hyl] at HStp
      have b1 := HFix.out.2.dr _ (List.getElem_mem hxl)
      have b2 := HFix.out.2.dr _ (List.getElem_mem hyl)
      have q1 : wr.cell? ⟨dg, xn, none⟩ = some (.int .i64 D[xn]) := by rw [hs.out.2.cell (p := ⟨dg, xn, none⟩) hdg]; exact hDa xn hxl
      have q2 : wr.cell? ⟨dg, yn, none⟩ = some (.int .i64 D[yn]) := by rw [hs.out.2.cell (p := ⟨dg, yn, none⟩) hdg]; exact hDa yn hyl
      have HIx : Hid ((xn : Int) < (dn : Int) ∧ (yn : Int) < (dn : Int)) := ⟨by omega, by omega⟩
      have HBd : Hid (IntKind.i64.wrap (D[xn] - D[yn]) = D[xn] - D[yn]) := IntWalk.i64_in _ (by omega)
      have HLt : Hid (((slN n D).take c).length ≤ 1000000) := by unfold Hid; rw [List.length_take]; omega
      have Hdn := Lib.hid hdn
      clear hxn hyn hdn ed e
      go_upto_region 11 with fail
      obtain ⟨kb, hkb⟩ : ∃ x, x = wr.heap.size := ⟨_, rfl⟩
      obtain ⟨w6, hw6⟩ : ∃ u, u = wr.alloc (.cells #[.int .i64 (xn : Int), .int .i64 (yn : Int)] 95) := ⟨_, rfl⟩
      have hb6 : Below wr.heap.size wr w6 := by rw [hw6]; exact (Below.refl _ _).alloc (Nat.le_refl _) _
      have HO6 := Lib.hid (And.intro (hs.out.1.below hb6) (hs.out.2.trans (hb6.mono hs.out.2.size)))
      have HS6 : Hid (S11 w.heap.size kb dg n xn yn (.slice (some ⟨dg, 0, none⟩) dn dc) (.slice fa fn fc) D[xn] D[yn] w6) :=
        ⟨HS3.out.of_block (HO6.out.2.block _ HS3.out.lt), by rw [hw6, hkb]; exact RowAt.new _ [.int .i64 (xn : Int), .int .i64 (yn : Int)] (by simp) _ rfl, cell_then hb6 q1, cell_then hb6 q2⟩
      rw [← hkb, ← hw6]
      obtain ⟨v2, w9, hrun, hO9, hb9⟩ := append_i (HO6.out.1.below (Below.refl _ _).drew) (D[xn] - D[yn]) (by have := HLt.out; omega) (Nat.le_trans HO6.out.2.size (Nat.le_refl _)) 34
      rw [← HStp.out] at hO9
      have HApp := Lib.hid hrun
      have HEnd := Lib.hid (And.intro hO9 ((HO6.out.2.drew).trans hb9))
      generalize D[xn] = d1 at *
      generalize D[yn] = d2 at *
      clear hrun hO9 hb9 hkb hw6 hb6 q1 q2 b1 b2 hgd hxl hyl hdcp hdm hDa hdg hdl hx hy hg3 hE2 hc2 hcp hcm hs hcl HO6
      refine wp_region_seqL (by kernel_rfl) (S11 w.heap.size kb dg n xn yn (.slice (some ⟨dg, 0, none⟩) dn dc) (.slice fa fn fc) d1 d2) 15 [(0, 0), (1, 0), (2, 1), (3, 0), (4, 1), (5, 0), (6, 1), (7, 0), (8, 1), (9, 0), (10, 1), (11, 0), (12, 1), (13, 0), (14, 2), (15, 2), (16, 0)] (by kernel_rfl) (HS6.out.below (Below.refl _ _).drew) ?_
      refine sl_q (d := some 30) rfl rfl rfl (v) (fun w => rfl) ?_
      simp only [ap_s, ap_n, ls_z, ls_s]
      refine sl_q (d := some 31) rfl rfl rfl (.pointer (some ⟨w.heap.size, 1, none⟩)) (fun w => by go_simp) ?_
      simp only [ap_s, ap_n, ls_z, ls_s]
      refine sl_s (d := some 32) rfl rfl rfl (.slice (some ⟨dg, 0, none⟩) dn dc) (fun w hw => by have c := hw.s.at 1 rfl; simp [execOp, Act.eval, go_sem, c]) ?_
      simp only [ap_s, ap_n, ls_z, ls_s]
      refine sl_q (d := some 33) rfl rfl rfl (.pointer (some ⟨kb, 0, none⟩)) (fun w => by go_simp) ?_
      simp only [ap_s, ap_n, ls_z, ls_s]
      refine sl_s (d := some 34) rfl rfl rfl (.int .i64 (xn : Int)) (fun w hw => by have c := hw.k.at 0 rfl; simp [execOp, Act.eval, go_sem, c]) ?_
      simp only [ap_s, ap_n, ls_z, ls_s]
      refine sl_q (d := some 35) rfl rfl rfl (.pointer (some ⟨dg, xn, none⟩)) (fun w => by obtain ⟨i1, i2⟩ := HIx.out; simp [execOp, Act.eval, go_sem, i1, i2]) ?_
      simp only [ap_s, ap_n, ls_z, ls_s]
      refine sl_s (d := some 36) rfl rfl rfl (.int .i64 d1) (fun w hw => by have c := hw.d1; simp [execOp, Act.eval, go_sem, c]) ?_
      simp only [ap_s, ap_n, ls_z, ls_s]
      refine sl_q (d := some 37) rfl rfl rfl (.pointer (some ⟨w.heap.size, 1, none⟩)) (fun w => by go_simp) ?_
      simp only [ap_s, ap_n, ls_z, ls_s]
      refine sl_s (d := some 38) rfl rfl rfl (.slice (some ⟨dg, 0, none⟩) dn dc) (fun w hw => by have c := hw.s.at 1 rfl; simp [execOp, Act.eval, go_sem, c]) ?_
      simp only [ap_s, ap_n, ls_z, ls_s]
      refine sl_q (d := some 39) rfl rfl rfl (.pointer (some ⟨kb, 1, none⟩)) (fun w => by go_simp) ?_
      simp only [ap_s, ap_n, ls_z, ls_s]
      refine sl_s (d := some 40) rfl rfl rfl (.int .i64 (yn : Int)) (fun w hw => by have c := hw.k.at 1 rfl; simp [execOp, Act.eval, go_sem, c]) ?_
      simp only [ap_s, ap_n, ls_z, ls_s]
      refine sl_q (d := some 41) rfl rfl rfl (.pointer (some ⟨dg, yn, none⟩)) (fun w => by obtain ⟨i1, i2⟩ := HIx.out; simp [execOp, Act.eval, go_sem, i1, i2]) ?_
      simp only [ap_s, ap_n, ls_z, ls_s]
      refine sl_s (d := some 42) rfl rfl rfl (.int .i64 d2) (fun w hw => by have c := hw.d2; simp [execOp, Act.eval, go_sem, c]) ?_
      simp only [ap_s, ap_n, ls_z, ls_s]
      refine sl_q (d := some 43) rfl rfl rfl (.int .i64 (d1 - d2)) (fun w => by have c := HBd.out; simp [execOp, Act.eval, go_sem, c]) ?_
      simp only [ap_s, ap_n, ls_z, ls_s]
      refine sl_run (d := some 44) rfl rfl rfl (.slice (some ⟨w6.drew.heap.size, 0, none⟩) 1 1) (w6.drew.alloc (.cells #[.int .i64 (d1 - d2)] 3)) (by simp [execOp, Act.eval, go_sem, Instr.buildSlice]) (fun _ => (HS6.out.below (Below.refl _ _).drew).below ((Below.refl _ _).alloc (Nat.le_refl _) _)) ?_
      simp only [ap_s, ap_n, ls_z, ls_s]
      refine sl_run (d := some 45) rfl rfl rfl v2 w9 (run_append _ _ _ rfl _ _ rfl rfl HApp.out) (fun h => by cases h) ?_
      simp only [ap_s, ap_n, ls_z, ls_s]
      refine sl_q (d := some 7) rfl rfl rfl (v2) (fun w => rfl) ?_
      simp only [ap_s, ap_n, ls_z, ls_s]
      refine sl_end ?_
      go_wp2_with fail
      go_roundw
      case rel => exact ⟨c + 1, v2, rfl, by omega, by go_num, HEnd⟩
      case measure => simp [intOf]; omega
    · obtain rfl : c = en := by omega
      have HT : Hid (OwnI wr w3.heap.size v (slN n D) ∧ Below w3.heap.size w3 wr) := by
        have h := hs.out
        rw [HE.out.2, List.take_of_length_le (by simp [slN])] at h
        exact h
      clear hs
      go_wp2_with fail
      go_ret2
      exact ⟨v, rfl, HT.out.1.mono HB3.out.size, below_then HB3.out HT.out.2⟩
end Go.Proofs.YtkpgciimhjkajaaGreatDoor
/- The program's model: Accelerate. -/
namespace Go.Proofs.YtkpgciimhjkajaaGreatDoor
open Go Go.RowKit
def clipI (x : Int) : Int := min (max x (-16777216)) 16777216
def acc1 (fr sl f d : Int) : Int := clipI (f + (shrI d sl - shrI f fr))
def accN (n : Nat) (fr sl : Int) (D F : List Int) : List Int := List.zipWith (acc1 fr sl) F (slN n D)
theorem accN_take {n : Nat} {fr sl : Int} {D F : List Int} {c : Nat} (h : c < F.length) (h2 : c < (slN n D).length) : (accN n fr sl D F).take (c + 1) = (accN n fr sl D F).take c ++ [acc1 fr sl F[c] (slN n D)[c]] := by
  have hl : c < (accN n fr sl D F).length := by simp [accN]; omega
  rw [List.take_add_one, List.getElem?_eq_getElem hl]
  simp [accN]
theorem clipI_bnd (x : Int) : -16777216 ≤ clipI x ∧ clipI x ≤ 16777216 := by unfold clipI; omega
theorem accN_ok {n : Nat} {fr sl : Int} {D F : List Int} (h : SOk n D F) : SOk n D (accN n fr sl D F) :=
  ⟨h.dl, by simp [accN, slN, h.fl], h.dr, fun x hx => by
    unfold accN at hx
    obtain ⟨i, hi, rfl⟩ := List.getElem_of_mem hx
    rw [List.getElem_zipWith]
    exact clipI_bnd _⟩
theorem slN_bnd {n : Nat} (hn : Fq n) {D F : List Int} (h : SOk n D F) : ∀ x ∈ slN n D, -16777216 ≤ x ∧ x ≤ 16777216 := fun x hx => by
  obtain ⟨e, he, rfl⟩ := List.mem_map.1 hx
  have h1 := edgesN_ok hn e he
  have hl := h.dl
  have hgd : ∀ k, k < D.length → 0 ≤ D.getD k 0 ∧ D.getD k 0 ≤ 16777216 := fun k hk => by rw [List.getD_eq_getElem?_getD, List.getElem?_eq_getElem hk]; exact h.dr _ (List.getElem_mem hk)
  have h2 := hgd e.1 (by omega)
  have h3 := hgd e.2 (by omega)
  omega
structure M7 (n : Nat) (D : List Int) (w3 W : World) (yb : Nat) (dv : Value) : Prop where
  row : RowAt W yb [.int .i64 (n : Int), dv, .slice none 0 0]
  lo : w3.heap.size ≤ yb
  od : OwnI W w3.heap.size dv D
  be : Below w3.heap.size w3 W
  yd : dv.ownBlock ≠ some yb
structure Ac (n : Nat) (w5 wr : World) (yb : Nat) (dv v : Value) (l : List Int) : Prop where
  row : RowAt wr yb [.int .i64 (n : Int), dv, v]
  own : OwnI wr w5.heap.size v l
  but : But w5.heap.size yb w5 wr
set_option maxRecDepth 100000 in
set_option maxHeartbeats 16000000 in
theorem paccel_any (n : Nat) (hn : Fq n) (fr sl mv : Int) (hsc : outB [fr, sl, mv] 1 4 = false) (dv fv : Value) (D F : List Int) (B0 : Nat) (w : World) (hcr : Crn w) (hg : 0 < w.heap.size) (hok : SOk n D F) (hd : OwnI w B0 dv D) (hf : OwnI w B0 fv F) :
    Calls Tryz.prog 90 #[.agg #[.int .i64 fr, .int .i64 sl, .int .i64 mv], stv n dv fv] w fun e w' => ∃ dv' fv', e = .returned (.tuple #[stv n dv' fv', .int .i64 0]) ∧ OwnI w' w.heap.size dv' D ∧ OwnI w' w.heap.size fv' (accN n fr sl D F) ∧ Below w.heap.size w w' := by
  obtain ⟨w1, hw1⟩ : ∃ u, u = ((w.alloc (.cells #[.int .i64 fr, .int .i64 sl, .int .i64 mv] 24)).alloc (.cells #[.int .i64 (n : Int), dv, fv] 36)).alloc (.cells #[.int .i64 0, .slice none 0 0, .slice none 0 0] 36) := ⟨_, rfl⟩
  have hb1 : Below w.heap.size w w1 := by rw [hw1]; exact (((Below.refl _ _).alloc (Nat.le_refl _) _).alloc (by simp) _).alloc (by simp; omega) _
  have hC1 : RowAt w1 w.heap.size [.int .i64 fr, .int .i64 sl, .int .i64 mv] := by rw [hw1]; exact ((RowAt.new _ [.int .i64 fr, .int .i64 sl, .int .i64 mv] (by simp) _ rfl).alloc _).alloc _
  have hS1 : RowAt w1 (w.heap.size + 1) [.int .i64 (n : Int), dv, fv] := by rw [hw1]; exact (RowAt.new _ [.int .i64 (n : Int), dv, fv] (by simp) _ (by simp)).alloc _
  have hR1 : RowAt w1 (w.heap.size + 1 + 1) [.int .i64 0, .slice none 0 0, .slice none 0 0] := by rw [hw1]; exact RowAt.new _ [.int .i64 0, .slice none 0 0, .slice none 0 0] (by simp) _ (by simp)
  have HSh : Hid (0 ≤ fr ∧ 0 ≤ sl) := by unfold Hid; simp [outB, outV] at hsc; omega
  have HSc := Lib.hid (pscheme_any fr sl mv w1)
  rw [hsc] at HSc
  have HCr := Lib.hid (And.intro (hcr.below hb1 hg) (Nat.lt_of_lt_of_le hg hb1.size))
  have HFix := Lib.hid (And.intro hn hok)
  have HL1 := Lib.hid (And.intro (hd.below hb1) (hf.below hb1))
  have HB1 := Lib.hid hb1
  have Hw1 := Lib.hid hw1
  have HR1 := Lib.hid (And.intro hC1 (And.intro hS1 hR1))
  obtain ⟨da, dn, dc, rfl⟩ : ∃ a m c, dv = .slice a m c := by obtain ⟨a, c, h⟩ := hd.slice; exact ⟨a, _, c, h⟩
  obtain ⟨fa, fn, fc, rfl⟩ : ∃ a m c, fv = .slice a m c := by obtain ⟨a, c, h⟩ := hf.slice; exact ⟨a, _, c, h⟩
  have c0 := hC1.at 0 rfl
  have c1 := hC1.at 1 rfl
  have c2 := hC1.at 2 rfl
  clear hcr hg hn hok hb1 hw1 hsc hd hf hC1 hS1 hR1
  unfold stv
  go_enter Tryz.func90, Tryz.ntmps90
  go_upto_region 1 with fail
  rw [← Hw1.out]
  go_wp2_with fail
  clear c0 c1 c2
  refine HSc.out.mono ?_
  rintro e w2 ⟨he, hb2⟩
  obtain rfl : e = .returned (.int .i64 0) := he
  have HR2 := Lib.hid (And.intro (HR1.out.1.below hb2) (And.intro (HR1.out.2.1.below hb2) (HR1.out.2.2.below hb2)))
  have HB2 := Lib.hid (below_then HB1.out hb2)
  have HL2 := Lib.hid (And.intro (HL1.out.1.below hb2) (HL1.out.2.below hb2))
  have HSl := Lib.hid (pslopes_any n HFix.out.1 _ _ D F B0 w2 (HCr.out.1.below hb2 HCr.out.2) (Nat.lt_of_lt_of_le HCr.out.2 hb2.size) HFix.out.2 HL2.out.1 HL2.out.2)
  have c0 := HR2.out.2.1.at 0 rfl
  have c1 := HR2.out.2.1.at 1 rfl
  have c2 := HR2.out.2.1.at 2 rfl
  clear hb2 HR1 HB1 HL1 HCr HSc
  go_wp2_with fail
  clear c0 c1 c2
  refine HSl.out.mono ?_
  rintro e w3 ⟨sv, rfl, hsv, hb3⟩
  obtain ⟨sa, sn, sc, rfl⟩ : ∃ a m c, sv = .slice a m c := by obtain ⟨a, c, h⟩ := hsv.slice; exact ⟨a, _, c, h⟩
  have HR3 := Lib.hid (And.intro (HR2.out.1.below hb3) (And.intro (HR2.out.2.1.below hb3) (HR2.out.2.2.below hb3)))
  have HB3 := Lib.hid (below_then HB2.out hb3)
  have HL3 := Lib.hid (And.intro (HL2.out.1.below hb3) (And.intro (HL2.out.2.below hb3) (hsv.mono (Nat.zero_le _))))
  have HDl : Hid (D.length ≤ 1000000) := by
    have h1 := HFix.out.2.dl
    have h8 : n ≤ 8 := HFix.out.1.2
    have := Nat.mul_le_mul (Nat.mul_le_mul_left 10 h8) h8
    unfold Hid; omega
  clear hb3 hsv HR2 HB2 HL2 HSl
  go_wp2_with fail
  refine region_cut (fun a W => ∃ yb v31, a = { tmps := ([.agg #[.int .i64 fr, .int .i64 sl, .int .i64 mv], .agg #[.int .i64 (n : Int), .slice da dn dc, .slice fa fn fc], .pointer (some ⟨w.heap.size, 0, none⟩), .pointer (some ⟨w.heap.size + 1, 0, none⟩), .pointer (some ⟨w.heap.size + 1 + 1, 0, none⟩), .int .i64 0, .int .i64 0, .slice sa sn sc, .int .i64 0, .pointer (some ⟨yb, 0, none⟩), undef, undef, .agg #[.int .i64 fr, .int .i64 sl, .int .i64 mv]] ++ ([.int .i64 0, .int .i64 0, .bool false, undef, undef, .tuple #[.slice sa sn sc, .int .i64 0], .agg #[.int .i64 (n : Int), .slice da dn dc, .slice fa fn fc], .tuple #[.slice sa sn sc, .int .i64 0], .slice sa sn sc, .int .i64 0, .int .i64 0, .bool false, undef] ++ ([undef, .pointer (some ⟨w.heap.size + 1, 0, none⟩), .int .i64 (n : Int), .pointer (some ⟨w.heap.size + 1, 1, none⟩), .slice da dn dc, v31, .agg #[.int .i64 (n : Int), v31, .slice none 0 0], undef, undef, undef, undef, undef, undef] ++ ([undef, undef, undef, undef, undef, undef, undef, undef, undef, undef, undef, undef, undef] ++ ([undef, undef, undef, undef, undef, undef, undef, undef, undef, undef, undef, undef, undef]))))).toArray, defers := [] } ∧ M7 n D w3 W yb v31) ?_ ?_
  · have HB0 : Hid (Below w3.heap.size w3 w3.drew) := (Below.refl _ _).drew
    refine wp_region_tree (by kernel_rfl) (fun w' => RowAt w' (w.heap.size + 1) [.int .i64 (n : Int), .slice da dn dc, .slice fa fn fc]) 7 (.q 0 0 (.q 1 1 (.q 2 0 (.q 3 1 (.fork (.e 4 (.q 5 0 (.e 6 (.e 7 (.nil))))) (.e 6 (.e 4 (.q 5 0 (.e 7 (.nil)))))))))) (by kernel_rfl) (HR3.out.2.1.drew) ?_
    refine tr_q (d := some 27) rfl rfl rfl (.pointer (some ⟨w.heap.size + 1, 0, none⟩)) (fun w => by go_simp) ?_
    simp only [ap_s, ap_n, ls_z, ls_s]
    refine tr_s (d := some 28) rfl rfl rfl (.int .i64 (n : Int)) (fun w hw => by have c := hw.at 0 rfl; simp [execOp, Act.eval, go_sem, c]) ?_
    simp only [ap_s, ap_n, ls_z, ls_s]
    refine tr_q (d := some 29) rfl rfl rfl (.pointer (some ⟨w.heap.size + 1, 1, none⟩)) (fun w => by go_simp) ?_
    simp only [ap_s, ap_n, ls_z, ls_s]
    refine tr_s (d := some 30) rfl rfl rfl (.slice da dn dc) (fun w hw => by have c := hw.at 1 rfl; simp [execOp, Act.eval, go_sem, c]) ?_
    simp only [ap_s, ap_n, ls_z, ls_s]
    refine tr_fork ?_ ?_
    · refine tr_call (d := some 31) rfl rfl rfl ⟨_, Tryz.func57, by kernel_rfl, by kernel_rfl⟩ _ _ _ rfl rfl [.slice da dn dc] rfl (pclone_any _ D B0 _ (HL3.out.1.below HB0.out) HDl.out) ?_
      rintro e W1 ⟨vv, rfl, hv, hb⟩
      obtain ⟨pa, pc, rfl⟩ := hv.slice
      have HB1 := Lib.hid (below_then HB0.out hb)
      have Hd1 := Lib.hid (hv.mono (B := w3.heap.size) HB0.out.size)
      have HZ1 : Hid (∀ g, (.slice pa D.length pc : Value).ownBlock = some g → w3.drew.heap.size ≤ g ∧ g < W1.heap.size) := hv.lt
      have hz1 : w3.drew.heap.size ≤ W1.heap.size := hb.size
      clear hv hb
      refine ⟨_, rfl, fun _ => HR3.out.2.1.below HB1.out, ?_⟩
      simp only [ap_s, ap_n, ls_z, ls_s]
      refine tr_q (d := some 32) rfl rfl rfl (.agg #[.int .i64 (n : Int), .slice pa D.length pc, .slice none 0 0]) (fun w => by simp [execOp, Act.eval, go_sem]) ?_
      simp only [ap_s, ap_n, ls_z, ls_s]
      obtain ⟨W2, hw⟩ : ∃ u, u = W1.alloc (.cells #[.int .i64 0, .slice none 0 0, .slice none 0 0] 36) := ⟨_, rfl⟩
      obtain ⟨yb, hy⟩ : ∃ u, u = W1.heap.size := ⟨_, rfl⟩
      have hb : Below W1.heap.size W1 W2 := by rw [hw]; exact (Below.refl _ _).alloc (Nat.le_refl _) _
      have HB2 := Lib.hid (below_then HB1.out hb)
      have Hd2 := Lib.hid (Hd1.out.below hb)
      clear Hd1
      have Hy2 : Hid (RowAt W2 yb [.int .i64 0, .slice none 0 0, .slice none 0 0]) := by rw [hw]; exact RowAt.new _ [.int .i64 0, .slice none 0 0, .slice none 0 0] (by simp) _ hy.symm
      have HZ2 : Hid (W1.heap.size ≤ yb ∧ yb < W2.heap.size) := ⟨Nat.le_of_eq hy.symm, Hy2.out.lt⟩
      have hz2 : W1.heap.size ≤ W2.heap.size := hb.size
      refine tr_run (d := some 9) rfl rfl rfl (.pointer (some ⟨yb, 0, none⟩)) W2 (by rw [hw, hy]; simp [execOp, Act.eval, go_sem]) (fun _ => HR3.out.2.1.below HB2.out) ?_
      simp only [ap_s, ap_n, ls_z, ls_s]
      clear hw hy hb
      have q1 := HZ1.out
      have q3 := HZ2.out
      have q0 : w3.heap.size ≤ w3.drew.heap.size := Nat.le_refl _
      have yd : (.slice pa D.length pc : Value).ownBlock ≠ some yb := fun e => by have := q1 yb e; omega
      have ly : w3.heap.size ≤ yb := by omega
      refine tr_rowst (d := none) rfl rfl rfl _ _ rfl yb rfl [.int .i64 0, .slice none 0 0, .slice none 0 0] [.int .i64 (n : Int), .slice pa D.length pc, .slice none 0 0] rfl Hy2.out rfl rowT_st (by intro v hv; simp at hv; rcases hv with rfl | rfl | rfl <;> rfl) ?_
      intro W9 hr ha
      refine ⟨(fun h => by cases h), ?_⟩
      simp only [ap_s, ap_n, ls_z, ls_s]
      refine tr_end ?_
      exact ⟨rfl, yb, _, rfl, hr, ly, Hd2.out.apart ha yd, HB2.out.trans (ha.below ly), yd⟩
    · obtain ⟨W1, hw⟩ : ∃ u, u = w3.drew.alloc (.cells #[.int .i64 0, .slice none 0 0, .slice none 0 0] 36) := ⟨_, rfl⟩
      obtain ⟨yb, hy⟩ : ∃ u, u = w3.drew.heap.size := ⟨_, rfl⟩
      have hb : Below w3.drew.heap.size w3.drew W1 := by rw [hw]; exact (Below.refl _ _).alloc (Nat.le_refl _) _
      have HB1 := Lib.hid (below_then HB0.out hb)
      have Hy1 : Hid (RowAt W1 yb [.int .i64 0, .slice none 0 0, .slice none 0 0]) := by rw [hw]; exact RowAt.new _ [.int .i64 0, .slice none 0 0, .slice none 0 0] (by simp) _ hy.symm
      have HZ1 : Hid (w3.drew.heap.size ≤ yb ∧ yb < W1.heap.size) := ⟨Nat.le_of_eq hy.symm, Hy1.out.lt⟩
      have hz1 : w3.drew.heap.size ≤ W1.heap.size := hb.size
      refine tr_run (d := some 9) rfl rfl rfl (.pointer (some ⟨yb, 0, none⟩)) W1 (by rw [hw, hy]; simp [execOp, Act.eval, go_sem]) (fun _ => HR3.out.2.1.below HB1.out) ?_
      simp only [ap_s, ap_n, ls_z, ls_s]
      clear hw hy hb
      refine tr_call (d := some 31) rfl rfl rfl ⟨_, Tryz.func57, by kernel_rfl, by kernel_rfl⟩ _ _ _ rfl rfl [.slice da dn dc] rfl (pclone_any _ D B0 _ (HL3.out.1.below HB1.out) HDl.out) ?_
      rintro e W2 ⟨vv, rfl, hv, hb⟩
      obtain ⟨pa, pc, rfl⟩ := hv.slice
      have HB2 := Lib.hid (below_then HB1.out hb)
      have Hy2 := Lib.hid (Hy1.out.below hb)
      clear Hy1
      have Hd2 := Lib.hid (hv.mono (B := w3.heap.size) HB1.out.size)
      have HZ2 : Hid (∀ g, (.slice pa D.length pc : Value).ownBlock = some g → W1.heap.size ≤ g ∧ g < W2.heap.size) := hv.lt
      have hz2 : W1.heap.size ≤ W2.heap.size := hb.size
      clear hv hb
      refine ⟨_, rfl, fun _ => HR3.out.2.1.below HB2.out, ?_⟩
      simp only [ap_s, ap_n, ls_z, ls_s]
      refine tr_q (d := some 32) rfl rfl rfl (.agg #[.int .i64 (n : Int), .slice pa D.length pc, .slice none 0 0]) (fun w => by simp [execOp, Act.eval, go_sem]) ?_
      simp only [ap_s, ap_n, ls_z, ls_s]
      have q1 := HZ2.out
      have q3 := HZ1.out
      have q0 : w3.heap.size ≤ w3.drew.heap.size := Nat.le_refl _
      have yd : (.slice pa D.length pc : Value).ownBlock ≠ some yb := fun e => by have := q1 yb e; omega
      have ly : w3.heap.size ≤ yb := by omega
      refine tr_rowst (d := none) rfl rfl rfl _ _ rfl yb rfl [.int .i64 0, .slice none 0 0, .slice none 0 0] [.int .i64 (n : Int), .slice pa D.length pc, .slice none 0 0] rfl Hy2.out rfl rowT_st (by intro v hv; simp at hv; rcases hv with rfl | rfl | rfl <;> rfl) ?_
      intro W9 hr ha
      refine ⟨(fun h => by cases h), ?_⟩
      simp only [ap_s, ap_n, ls_z, ls_s]
      refine tr_end ?_
      exact ⟨rfl, yb, _, rfl, hr, ly, Hd2.out.apart ha yd, HB2.out.trans (ha.below ly), yd⟩
  rintro a w5 ⟨yb, v31, rfl, hM⟩
  simp only [List.cons_append, List.nil_append]
  obtain ⟨ya, yn, yc, rfl⟩ : ∃ a m c, v31 = .slice a m c := by obtain ⟨a, c, h⟩ := hM.od.slice; exact ⟨a, _, c, h⟩
  have HM := Lib.hid hM
  have HR5 := Lib.hid (And.intro (HR3.out.1.below hM.be) (And.intro (HR3.out.2.1.below hM.be) (HR3.out.2.2.below hM.be)))
  have HL5 := Lib.hid (And.intro (HL3.out.2.1.below hM.be) (HL3.out.2.2.below hM.be))
  have HLb : Hid ((∀ g, (Value.slice fa fn fc).ownBlock = some g → g < w3.heap.size) ∧ (∀ g, (Value.slice sa sn sc).ownBlock = some g → g < w3.heap.size) ∧ w.heap.size + 1 + 1 < w3.heap.size) := ⟨fun g hg => (HL3.out.2.1.lt g hg).2, fun g hg => (HL3.out.2.2.lt g hg).2, HR3.out.2.2.lt⟩
  have HAc : Hid (Ac n w5 w5 yb (.slice ya yn yc) (.slice none 0 0) []) := ⟨hM.row, OwnI.nil _ _, But.refl _ _ _⟩
  have hfn : fn = F.length := by obtain ⟨a, c, h⟩ := HL5.out.1.slice; injection h with _ h _
  have HN := Lib.hid hfn
  have c2 := HR5.out.2.1.at 2 rfl
  clear hM hfn HR3 HL3
  go_wp2_with fail
  clear c2
  go_loopw [36] (fun kv wr => ∃ (c : Nat), c ≤ fn ∧ kv = .int .i64 c ∧ Hid (∃ v, Ac n w5 wr yb (.slice ya yn yc) v ((accN n fr sl D F).take c))) (fun kv _ => (10000 - intOf kv).toNat)
  case atStart => exact ⟨0, by omega, rfl, _, HAc.out⟩
  case round =>
    clear HAc
    obtain ⟨c, hc, rfl, hs⟩ := hrel
    by_cases hlt : c < fn
    · obtain ⟨v, hs⟩ := hs.out
      obtain ⟨va, vn, vc, rfl⟩ : ∃ a m c, v = .slice a m c := by obtain ⟨a, c, h⟩ := hs.own.slice; exact ⟨a, _, c, h⟩
      have c0 : (c : Int) < (fn : Int) := by omega
      have hcF : c < F.length := by rw [← HN.out]; exact hlt
      have hcl : c < (edgesN n).length := by rw [← HFix.out.2.fl]; exact hcF
      have c9 : (c : Int) ≤ 9000 := by have := edgesN_le HFix.out.1; omega
      have hsl : c < (slN n D).length := by simp [slN]; exact hcl
      have HStp := Lib.hid (accN_take (fr := fr) (sl := sl) hcF hsl)
      obtain ⟨fg, _, e1, _, hfl, hfc, hfm, hFa⟩ := HL5.out.1.iat (by omega)
      obtain ⟨sg, _, e2, _, hsl2, hsc2, hsm, hSa⟩ := HL5.out.2.iat (by omega)
      obtain ⟨rfl, hfc2⟩ : fa = some ⟨fg, 0, none⟩ ∧ fc = _ := by injection e1 with e1 e2 e3; exact ⟨e1, e3⟩
      obtain ⟨rfl, hsn, hsc3⟩ : sa = some ⟨sg, 0, none⟩ ∧ sn = (slN n D).length ∧ sc = _ := by injection e2 with e1 e2 e3; exact ⟨e1, e2, e3⟩
      have hfb := HLb.out.1 fg rfl
      have hsb := HLb.out.2.1 sg rfl
      have hl3 := HM.out.lo
      have h35 := HM.out.be.size
      have qf : wr.cell? ⟨fg, c, none⟩ = some (.int .i64 F[c]) := by rw [hs.but.cell (p := ⟨fg, c, none⟩) (by simp; omega) (by simp; omega)]; exact hFa c hcF
      have qs : wr.cell? ⟨sg, c, none⟩ = some (.int .i64 (slN n D)[c]) := by rw [hs.but.cell (p := ⟨sg, c, none⟩) (by simp; omega) (by simp; omega)]; exact hSa c hsl
      have hCw : RowAt wr w.heap.size [.int .i64 fr, .int .i64 sl, .int .i64 mv] := HR5.out.1.of_block (hs.but.block _ HR5.out.1.lt (by have := HLb.out.2.2; omega))
      have bf := HFix.out.2.fr _ (List.getElem_mem hcF)
      have bs := slN_bnd HFix.out.1 HFix.out.2 _ (List.getElem_mem hsl)
      have HCs : Hid ((c : Int) < (sn : Int)) := by unfold Hid; omega
      generalize (slN n D)[c] = ds at *
      generalize F[c] = f1 at *
      have b1 := shrI_bnd (s := fr) bf.1 bf.2
      have b2 := shrI_bnd (s := sl) bs.1 bs.2
      have HS11 := Lib.hid (And.intro hCw qs)
      have HSx : Hid ((∀ x, shrI x fr = x.fdiv (2 ^ (min fr.toNat 64))) ∧ (∀ x, shrI x sl = x.fdiv (2 ^ (min sl.toNat 64)))) := ⟨fun _ => rfl, fun _ => rfl⟩
      have HWr : Hid (IntKind.i64.wrap (shrI ds sl - shrI f1 fr) = shrI ds sl - shrI f1 fr ∧ IntKind.i64.wrap (f1 + (shrI ds sl - shrI f1 fr)) = f1 + (shrI ds sl - shrI f1 fr)) := ⟨IntWalk.i64_in _ (by omega), IntWalk.i64_in _ (by omega)⟩
      have HSt := Lib.hid hs
      have hz : (c : Int) < 10000 := by omega
      have HLt : Hid (((accN n fr sl D F).take c).length ≤ 1000000) := by unfold Hid; rw [List.length_take]; omega
      clear hs hCw qs bf bs b1 b2 hsl2 hsc2 hsm hSa hfl hfm hFa e1 e2 hcl hsl hcF hfb hsb hl3 h35 hsn hsc3 hfc2
      go_upto_region 11 with fail
      clear qf
      refine wp_region_seq (by kernel_rfl) (fun w' => RowAt w' w.heap.size [.int .i64 fr, .int .i64 sl, .int .i64 mv] ∧ w'.cell? ⟨sg, c, none⟩ = some (.int .i64 ds)) [(0, true), (1, true), (2, true), (3, true), (4, true), (5, true), (6, true), (7, true), (8, true), (9, true), (10, true), (11, true), (12, true), (13, true), (14, true)] (by kernel_rfl) (⟨HS11.out.1.drew, HS11.out.2⟩) ?_
      refine seq_q (d := some 41) rfl rfl rfl (.int .i64 f1) (fun w hw => rfl) ?_
      simp only [ap_s, ap_n, ls_z, ls_s]
      refine seq_q (d := some 42) rfl rfl rfl (.slice (some ⟨sg, 0, none⟩) sn sc) (fun w hw => rfl) ?_
      simp only [ap_s, ap_n, ls_z, ls_s]
      refine seq_q (d := some 43) rfl rfl rfl (.int .i64 (c : Int)) (fun w hw => rfl) ?_
      simp only [ap_s, ap_n, ls_z, ls_s]
      refine seq_q (d := some 44) rfl rfl rfl (.pointer (some ⟨sg, c, none⟩)) (fun w hw => by have i1 := HCs.out; simp [execOp, Act.eval, go_sem, i1]) ?_
      simp only [ap_s, ap_n, ls_z, ls_s]
      refine seq_q (d := some 45) rfl rfl rfl (.int .i64 ds) (fun w hw => by have c := hw.2; simp [execOp, Act.eval, go_sem, c]) ?_
      simp only [ap_s, ap_n, ls_z, ls_s]
      refine seq_q (d := some 46) rfl rfl rfl (.pointer (some ⟨w.heap.size, 1, none⟩)) (fun w hw => by go_simp) ?_
      simp only [ap_s, ap_n, ls_z, ls_s]
      refine seq_q (d := some 47) rfl rfl rfl (.int .i64 sl) (fun w hw => by have c := hw.1.at 1 rfl; simp [execOp, Act.eval, go_sem, c]) ?_
      simp only [ap_s, ap_n, ls_z, ls_s]
      refine seq_q (d := some 48) rfl rfl rfl (.int .i64 (shrI ds sl)) (fun w hw => by have h1 := HSx.out.2 ds; have h2 : ¬ sl < 0 := (by have := HSh.out; omega); simp [execOp, Act.eval, go_sem, Op.shift, h1, h2]) ?_
      simp only [ap_s, ap_n, ls_z, ls_s]
      refine seq_q (d := some 49) rfl rfl rfl (.int .i64 f1) (fun w hw => rfl) ?_
      simp only [ap_s, ap_n, ls_z, ls_s]
      refine seq_q (d := some 50) rfl rfl rfl (.pointer (some ⟨w.heap.size, 0, none⟩)) (fun w hw => by go_simp) ?_
      simp only [ap_s, ap_n, ls_z, ls_s]
      refine seq_q (d := some 51) rfl rfl rfl (.int .i64 fr) (fun w hw => by have c := hw.1.at 0 rfl; simp [execOp, Act.eval, go_sem, c]) ?_
      simp only [ap_s, ap_n, ls_z, ls_s]
      refine seq_q (d := some 52) rfl rfl rfl (.int .i64 (shrI f1 fr)) (fun w hw => by have h1 := HSx.out.1 f1; have h2 : ¬ fr < 0 := (by have := HSh.out; omega); simp [execOp, Act.eval, go_sem, Op.shift, h1, h2]) ?_
      simp only [ap_s, ap_n, ls_z, ls_s]
      refine seq_q (d := some 53) rfl rfl rfl (.int .i64 (shrI ds sl - shrI f1 fr)) (fun w hw => by have c := HWr.out.1; simp [execOp, Act.eval, go_sem, c]) ?_
      simp only [ap_s, ap_n, ls_z, ls_s]
      refine seq_q (d := some 54) rfl rfl rfl (.int .i64 (f1 + (shrI ds sl - shrI f1 fr))) (fun w hw => by have c := HWr.out.2; simp [execOp, Act.eval, go_sem, c]) ?_
      simp only [ap_s, ap_n, ls_z, ls_s]
      refine seq_q (d := some 11) rfl rfl rfl (.int .i64 (f1 + (shrI ds sl - shrI f1 fr))) (fun w hw => rfl) ?_
      simp only [ap_s, ap_n, ls_z, ls_s]
      refine seq_end ?_
      obtain ⟨f2, hf2⟩ : ∃ x, x = f1 + (shrI ds sl - shrI f1 fr) := ⟨_, rfl⟩
      have HF2 : Hid (acc1 fr sl f1 ds = clipI f2) := by rw [hf2]; rfl
      rw [← hf2]
      have HSt2 : Hid (Ac n w5 wr.drew yb (.slice ya yn yc) (.slice va vn vc) ((accN n fr sl D F).take c)) := ⟨HSt.out.row.drew, HSt.out.own.drew, HSt.out.but.drew⟩
      clear hf2 HSt HS11 HWr
      obtain ⟨wq, hwq⟩ : ∃ u, u = wr.drew := ⟨_, rfl⟩
      rw [← hwq] at HSt2 ⊢
      obtain ⟨y2, hy2⟩ : ∃ x, x = clipI f2 := ⟨_, rfl⟩
      obtain ⟨v2, w9, hrun, hO9, hb9⟩ := append_i HSt2.out.own y2 (by have := HLt.out; omega) (by exact HSt2.out.but.size) 34
      obtain ⟨xa, xn, xc, rfl⟩ : ∃ a m c, v2 = .slice a m c := by obtain ⟨a, c, h⟩ := hO9.slice; exact ⟨a, _, c, h⟩
      have HApp := Lib.hid hrun
      have c2 := HSt2.out.row.at 2 rfl
      have hyl : yb < w5.heap.size := HM.out.row.lt
      have hR9 : RowAt w9 yb [.int .i64 (n : Int), .slice ya yn yc, .slice va vn vc] := HSt2.out.row.of_block (hb9.block _ hyl)
      have c29 := hR9.at 2 rfl
      have f29 := hR9.2.2 2 (by simp)
      have HEnd : Hid (∃ v, Ac n w5 (w9.setCell ⟨yb, 2, none⟩ (.slice xa xn xc)) yb (.slice ya yn yc) v ((accN n fr sl D F).take (c + 1))) := by
        rw [HStp.out, HF2.out, ← hy2]
        refine ⟨_, hR9.set 2 (by simp) _, hO9.of_same2 (fun g hg => Below.heap_setCell _ _ _ _ (by have := (hO9.lt g hg).1; simp; omega)), ?_⟩
        exact (HSt2.out.but.trans (But.of_below hb9)).setCell (p := ⟨yb, 2, none⟩) (Or.inr rfl) _
      have HY2 : Hid (y2 = min (max f2 (-16777216)) 16777216) := hy2
      clear hy2 hrun hO9 hb9 hwq hR9 hyl HStp HF2
      have hyv : min (max f2 (-16777216)) 16777216 = y2 := HY2.out.symm
      go_wp2_with (at_builtin; refine wpList_append_run rfl _ _ _ rfl _ _ _ _ rfl rfl HApp.out ?_)
      exact ⟨⟨c + 1, by omega, by go_num, HEnd⟩, by simp [intOf]; omega⟩
    · obtain rfl : c = fn := by omega
      obtain ⟨v, hs⟩ := hs.out
      obtain ⟨va, vn, vc, rfl⟩ : ∃ a m c, v = .slice a m c := by obtain ⟨a, c, h⟩ := hs.own.slice; exact ⟨a, _, c, h⟩
      have hfull : (accN n fr sl D F).take c = accN n fr sl D F := List.take_of_length_le (by simp [accN]; have := HN.out; omega)
      rw [hfull] at hs
      have hl3 := HM.out.lo
      have hyl : yb < w5.heap.size := HM.out.row.lt
      have h35 := HM.out.be.size
      have hrb := HLb.out.2.2
      have hR : RowAt wr (w.heap.size + 1 + 1) [.int .i64 0, .slice none 0 0, .slice none 0 0] := HR5.out.2.2.of_block (hs.but.block _ HR5.out.2.2.lt (by omega))
      have hod : OwnI wr w3.heap.size (.slice ya yn yc) D := HM.out.od.of_same2 (fun g hg => hs.but.block g (HM.out.od.lt g hg).2 (fun e => HM.out.yd (by rw [hg, e])))
      have hbe : Below w3.heap.size w3 wr := HM.out.be.trans ((hs.but.mono h35).below hl3)
      have y0 := hs.row.at 0 rfl
      have y1 := hs.row.at 1 rfl
      have y2 := hs.row.at 2 rfl
      have r0 := hR.at 0 rfl
      have r1 := hR.at 1 rfl
      have r2 := hR.at 2 rfl
      have f0 := hR.2.2 0 (by simp)
      have f1 := hR.2.2 1 (by simp)
      have f2 := hR.2.2 2 (by simp)
      obtain ⟨U, hU⟩ : ∃ u, u = ((wr.setCell ⟨w.heap.size + 1 + 1, 0, none⟩ (.int .i64 (n : Int))).setCell ⟨w.heap.size + 1 + 1, 1, none⟩ (.slice ya yn yc)).setCell ⟨w.heap.size + 1 + 1, 2, none⟩ (.slice va vn vc) := ⟨_, rfl⟩
      have ho : ∀ (u : World) (q : Nat) (v : Value) (k : Nat), k ≠ w.heap.size + 1 + 1 → (u.setCell ⟨w.heap.size + 1 + 1, q, none⟩ v).heap[k]? = u.heap[k]? := fun u q v k hk => Below.heap_setCell _ _ _ _ (by simpa using hk)
      have hUo : ∀ k, k ≠ w.heap.size + 1 + 1 → U.heap[k]? = wr.heap[k]? := fun k hk => by rw [hU, ho _ _ _ k hk, ho _ _ _ k hk, ho _ _ _ k hk]
      have hUr : RowAt U (w.heap.size + 1 + 1) [.int .i64 (n : Int), .slice ya yn yc, .slice va vn vc] := by rw [hU]; exact ((hR.set 0 (by simp) _).set 1 (by simp) _).set 2 (by simp) _
      have hbw : Below w.heap.size w wr := HB3.out.trans (hbe.mono HB3.out.size)
      have hwl : w.heap.size ≤ w.heap.size + 1 + 1 := by omega
      have hUb : Below w.heap.size w U := by rw [hU]; exact ((hbw.setCell (p := ⟨w.heap.size + 1 + 1, 0, none⟩) hwl _).setCell (p := ⟨w.heap.size + 1 + 1, 1, none⟩) hwl _).setCell (p := ⟨w.heap.size + 1 + 1, 2, none⟩) hwl _
      have HEnd := Lib.hid (And.intro hUr (And.intro ((hod.of_same2 (fun g hg => hUo g (by have := (HM.out.od.lt g hg).1; omega))).mono (B := w.heap.size) HB3.out.size) (And.intro ((hs.own.of_same2 (fun g hg => hUo g (by have := (hs.own.lt g hg).1; omega))).mono (B := w.heap.size) (Nat.le_trans HB3.out.size h35)) hUb)))
      have HU := Lib.hid hU
      clear hU hUo hUr hUb hbw hwl hod hbe hR hs hl3 hyl h35 hrb hfull ho
      go_wp2_with fail
      rw [← HU.out]
      exact ret_row2 rfl _ [.int .i64 (n : Int), .slice ya yn yc, .slice va vn vc] _ HEnd.out.1 rowT_st rfl rfl rfl ⟨_, _, rfl, HEnd.out.2.1, HEnd.out.2.2.1, HEnd.out.2.2.2⟩
end Go.Proofs.YtkpgciimhjkajaaGreatDoor
/- The program's model: the two parts of a step. -/
namespace Go.Proofs.YtkpgciimhjkajaaGreatDoor
open Go Go.RowKit
def prv (n : Int) (dv fv bv : Value) : Value := .agg #[.int .i64 n, dv, fv, bv]
theorem rowT_pr : RowT 129 4 := ⟨by kernel_rfl, _, Tryz.underlying129, rfl⟩
theorem set4 {W : World} {b : Nat} {p q r s a0 a1 a2 a3 : Value} (h : RowAt W b [p, q, r, s]) (U : World) (hU : U = (((W.setCell ⟨b, 0, none⟩ a0).setCell ⟨b, 1, none⟩ a1).setCell ⟨b, 2, none⟩ a2).setCell ⟨b, 3, none⟩ a3) (n0 : Nat) (hn : n0 ≤ b) :
    RowAt U b [a0, a1, a2, a3] ∧ (∀ k, k ≠ b → U.heap[k]? = W.heap[k]?) ∧ Below n0 W U := by
  have ho : ∀ (u : World) (q : Nat) (v : Value) (k : Nat), k ≠ b → (u.setCell ⟨b, q, none⟩ v).heap[k]? = u.heap[k]? := fun u q v k hk => Below.heap_setCell _ _ _ _ (by simpa using hk)
  subst hU
  refine ⟨(((h.set 0 (by simp) _).set 1 (by simp) _).set 2 (by simp) _).set 3 (by simp) _, fun k hk => by rw [ho _ _ _ k hk, ho _ _ _ k hk, ho _ _ _ k hk, ho _ _ _ k hk], ?_⟩
  exact ((((Below.refl n0 W).setCell (p := ⟨b, 0, none⟩) hn _).setCell (p := ⟨b, 1, none⟩) hn _).setCell (p := ⟨b, 2, none⟩) hn _).setCell (p := ⟨b, 3, none⟩) hn _
theorem set3 {W : World} {b : Nat} {p q r a0 a1 a2 : Value} (h : RowAt W b [p, q, r]) (U : World) (hU : U = ((W.setCell ⟨b, 0, none⟩ a0).setCell ⟨b, 1, none⟩ a1).setCell ⟨b, 2, none⟩ a2) (n0 : Nat) (hn : n0 ≤ b) :
    RowAt U b [a0, a1, a2] ∧ (∀ k, k ≠ b → U.heap[k]? = W.heap[k]?) ∧ Below n0 W U := by
  have ho : ∀ (u : World) (q : Nat) (v : Value) (k : Nat), k ≠ b → (u.setCell ⟨b, q, none⟩ v).heap[k]? = u.heap[k]? := fun u q v k hk => Below.heap_setCell _ _ _ _ (by simpa using hk)
  subst hU
  refine ⟨((h.set 0 (by simp) _).set 1 (by simp) _).set 2 (by simp) _, fun k hk => by rw [ho _ _ _ k hk, ho _ _ _ k hk, ho _ _ _ k hk], ?_⟩
  exact (((Below.refl n0 W).setCell (p := ⟨b, 0, none⟩) hn _).setCell (p := ⟨b, 1, none⟩) hn _).setCell (p := ⟨b, 2, none⟩) hn _
set_option maxRecDepth 100000 in
set_option maxHeartbeats 16000000 in
theorem pacc_any (n : Nat) (hn : Fq n) (fr sl mv : Int) (hsc : outB [fr, sl, mv] 1 4 = false) (cb : Nat) (dv fv bv : Value) (hbv : ∃ a m c, bv = .slice a m c) (D F : List Int) (B0 : Nat) (w : World) (hcb : RowAt w cb [.int .i64 fr, .int .i64 sl, .int .i64 mv]) (hcr : Crn w) (hg : 0 < w.heap.size) (hok : SOk n D F) (hd : OwnI w B0 dv D) (hf : OwnI w B0 fv F) :
    Calls Tryz.prog 89 #[prv n dv fv bv, .pointer (some ⟨cb, 0, none⟩)] w fun e w' => ∃ dv' fv', e = .returned (.tuple #[prv n dv' fv' bv, .int .i64 0]) ∧ OwnI w' w.heap.size dv' D ∧ OwnI w' w.heap.size fv' (accN n fr sl D F) ∧ Below w.heap.size w w' := by
  obtain ⟨da, dn, dc, rfl⟩ : ∃ a m c, dv = .slice a m c := by obtain ⟨a, c, h⟩ := hd.slice; exact ⟨a, _, c, h⟩
  obtain ⟨fa, fn, fc, rfl⟩ : ∃ a m c, fv = .slice a m c := by obtain ⟨a, c, h⟩ := hf.slice; exact ⟨a, _, c, h⟩
  obtain ⟨ba, bn, bc, rfl⟩ := hbv
  obtain ⟨w1, hw1⟩ : ∃ u, u = (w.alloc (.cells #[.int .i64 (n : Int), .slice da dn dc, .slice fa fn fc, .slice ba bn bc] 129)).alloc (.cells #[.int .i64 0, .slice none 0 0, .slice none 0 0, .slice none 0 0] 129) := ⟨_, rfl⟩
  have hb1 : Below w.heap.size w w1 := by rw [hw1]; exact ((Below.refl _ _).alloc (Nat.le_refl _) _).alloc (by simp) _
  have hP1 : RowAt w1 w.heap.size [.int .i64 (n : Int), .slice da dn dc, .slice fa fn fc, .slice ba bn bc] := by rw [hw1]; exact (RowAt.new _ [.int .i64 (n : Int), .slice da dn dc, .slice fa fn fc, .slice ba bn bc] (by simp) _ rfl).alloc _
  have hR1 : RowAt w1 (w.heap.size + 1) [.int .i64 0, .slice none 0 0, .slice none 0 0, .slice none 0 0] := by rw [hw1]; exact RowAt.new _ [.int .i64 0, .slice none 0 0, .slice none 0 0, .slice none 0 0] (by simp) _ (by simp)
  have HAc := Lib.hid (paccel_any n hn fr sl mv hsc _ _ D F B0 w1 (hcr.below hb1 hg) (Nat.lt_of_lt_of_le hg hb1.size) hok (hd.below hb1) (hf.below hb1))
  have HB1 := Lib.hid hb1
  have HPR := Lib.hid (And.intro hP1 hR1)
  have Hw1 := Lib.hid hw1
  have hC1 := hcb.below hb1
  have s0 := hC1.at 0 rfl
  have s1 := hC1.at 1 rfl
  have s2 := hC1.at 2 rfl
  have p0 := hP1.at 0 rfl
  have p1 := hP1.at 1 rfl
  have p2 := hP1.at 2 rfl
  clear hn hsc hcb hcr hg hok hd hf hb1 hw1 hP1 hR1 hC1
  unfold prv stv at *
  go_enter Tryz.func89, Tryz.ntmps89
  go_upto_region 1 with fail
  rw [← Hw1.out]
  go_wp2_with fail
  clear s0 s1 s2 p0 p1 p2
  refine HAc.out.mono ?_
  rintro e w2 ⟨dv', fv', rfl, h1, h2, hb2⟩
  obtain ⟨xa, xn, xc, rfl⟩ : ∃ a m c, dv' = .slice a m c := by obtain ⟨a, c, h⟩ := h1.slice; exact ⟨a, _, c, h⟩
  obtain ⟨ya, yn, yc, rfl⟩ : ∃ a m c, fv' = .slice a m c := by obtain ⟨a, c, h⟩ := h2.slice; exact ⟨a, _, c, h⟩
  have HR2 := Lib.hid (And.intro (HPR.out.1.below hb2) (HPR.out.2.below hb2))
  obtain ⟨w3, hw3⟩ : ∃ u, u = w2.alloc (.cells #[.int .i64 (n : Int), .slice xa xn xc, .slice ya yn yc] 36) := ⟨_, rfl⟩
  have hb3 : Below w2.heap.size w2 w3 := by rw [hw3]; exact (Below.refl _ _).alloc (Nat.le_refl _) _
  have hX3 : RowAt w3 w2.heap.size [.int .i64 (n : Int), .slice xa xn xc, .slice ya yn yc] := by rw [hw3]; exact RowAt.new _ [.int .i64 (n : Int), .slice xa xn xc, .slice ya yn yc] (by simp) _ rfl
  have hP3 := HR2.out.1.below hb3
  have hR3 := HR2.out.2.below hb3
  have x0 := hX3.at 0 rfl
  have x1 := hX3.at 1 rfl
  have x2 := hX3.at 2 rfl
  have b3 := hP3.at 3 rfl
  have r0 := hR3.at 0 rfl
  have r1 := hR3.at 1 rfl
  have r2 := hR3.at 2 rfl
  have r3 := hR3.at 3 rfl
  have f0 := hR3.2.2 0 (by simp)
  have f1 := hR3.2.2 1 (by simp)
  have f2 := hR3.2.2 2 (by simp)
  have f3 := hR3.2.2 3 (by simp)
  have Hw3 := Lib.hid hw3
  obtain ⟨q1, q2, q3⟩ := set4 hR3 _ rfl w.heap.size (a0 := .int .i64 (n : Int)) (a1 := .slice xa xn xc) (a2 := .slice ya yn yc) (a3 := .slice ba bn bc) (by omega)
  have hlo := HB1.out.size
  have hs1 : w1.heap.size = w.heap.size + 1 + 1 := by rw [Hw1.out]; simp
  have HE := Lib.hid (And.intro q1 (And.intro ((h1.below hb3).of_same2 (fun g hg => q2 g (by have := ((h1.below hb3).lt g hg).1; omega))) (And.intro ((h2.below hb3).of_same2 (fun g hg => q2 g (by have := ((h2.below hb3).lt g hg).1; omega))) ((below_then (below_then HB1.out hb2) hb3).trans q3))))
  have HZ := Lib.hid hlo
  clear hb3 hw3 hX3 hP3 hR3 h1 h2 hb2 q1 q2 q3 hlo hs1 HPR HR2 HAc
  go_upto_region 2 with fail
  rw [← Hw3.out]
  go_wp2_with fail
  exact ret_row2 rfl _ [.int .i64 (n : Int), .slice xa xn xc, .slice ya yn yc, .slice ba bn bc] _ HE.out.1 rowT_pr rfl rfl rfl ⟨_, _, rfl, HE.out.2.1.mono HZ.out, HE.out.2.2.1.mono HZ.out, HE.out.2.2.2⟩
end Go.Proofs.YtkpgciimhjkajaaGreatDoor
/- The program's model: the second part of a step. -/
namespace Go.Proofs.YtkpgciimhjkajaaGreatDoor
open Go Go.RowKit
theorem degN_pos {n : Nat} (hn : Fq n) (i : Fin (edgesN n).length) : 1 ≤ (degN n).getD (edgesN n)[i.1].1 0 ∧ 1 ≤ (degN n).getD (edgesN n)[i.1].2 0 := by
  have hdgb := degF_bnd (edgesN n) (fun e he => (edgesN_ok hn e he).1) (List.finRange _) (List.replicate (10 * n * n + 2) 0)
  have hx := (hdgb (edgesN n)[i.1].1 (fun e he => by simpa using (edgesN_ok hn e he).2)).2.2 ⟨i, List.mem_finRange i, Or.inl rfl⟩
  have hy := (hdgb (edgesN n)[i.1].2 (fun e he => by simpa using (edgesN_ok hn e he).2)).2.2 ⟨i, List.mem_finRange i, Or.inr rfl⟩
  have hg0 : ∀ b, (List.replicate (10 * n * n + 2) (0 : Int)).getD b 0 = 0 := fun b => by simp [List.getD_eq_getElem?_getD, List.getElem?_replicate]; split <;> rfl
  rw [hg0] at hx hy
  exact ⟨hx, hy⟩
theorem getD_bnd {l : List Int} {lo hi : Int} (h : ∀ x ∈ l, lo ≤ x ∧ x ≤ hi) (h0 : lo ≤ 0 ∧ 0 ≤ hi) (k : Nat) : lo ≤ l.getD k 0 ∧ l.getD k 0 ≤ hi := by
  by_cases hk : k < l.length
  · rw [List.getD_eq_getElem?_getD, List.getElem?_eq_getElem hk]; exact h _ (List.getElem_mem hk)
  · rw [List.getD_eq_getElem?_getD, List.getElem?_eq_none (by omega)]; exact h0
theorem amtN_ok {n : Nat} (hn : Fq n) {mv : Int} {D F : List Int} (h : SOk n D F) : (amtN n mv D F).length = F.length ∧ ∀ x ∈ amtN n mv D F, -16777216 ≤ x ∧ x ≤ 16777216 := by
  refine ⟨by simp [amtN, h.fl], fun x hx => ?_⟩
  obtain ⟨i, _, rfl⟩ := List.mem_map.1 hx
  obtain ⟨p1, p2⟩ := degN_pos hn i
  have d1 := getD_bnd h.dr (by omega) (edgesN n)[i.1].1
  have d2 := getD_bnd h.dr (by omega) (edgesN n)[i.1].2
  have f1 := getD_bnd h.fr (by omega) i.1
  have q1 := tdiv_bnd d1.1 d1.2 p1
  have q2 := tdiv_bnd d2.1 d2.2 p2
  have w1 := shrI_bnd (s := mv) f1.1 f1.2
  unfold amtI amt1 qAt
  split
  · omega
  · split <;> omega
def mvPr (n : Nat) (A D F : List Int) (e : Ending) (w w' : World) : Prop :=
  ∃ bv bl, OwnI w' w.heap.size bv bl ∧
  (outB (mvN n A D) 0 16777216 = true → e = .returned (.tuple #[prv 0 (.slice none 0 0) (.slice none 0 0) bv, .int .i64 7])) ∧
  (outB (mvN n A D) 0 16777216 = false → ∃ dv fv, e = .returned (.tuple #[prv n dv fv bv, .int .i64 0]) ∧ OwnI w' w.heap.size dv (mvN n A D) ∧ OwnI w' w.heap.size fv F)
set_option maxRecDepth 100000 in
set_option maxHeartbeats 16000000 in
theorem pmv_any (n : Nat) (hn : Fq n) (fr sl mv : Int) (hsc : outB [fr, sl, mv] 1 4 = false) (cb : Nat) (dv fv bv : Value) (hbv : ∃ a m c, bv = .slice a m c) (D F : List Int) (B0 : Nat) (w : World) (hcb : RowAt w cb [.int .i64 fr, .int .i64 sl, .int .i64 mv]) (hcr : Crn w) (hg : 0 < w.heap.size) (hok : SOk n D F) (hd : OwnI w B0 dv D) (hf : OwnI w B0 fv F) :
    Calls Tryz.prog 91 #[prv n dv fv bv, .pointer (some ⟨cb, 0, none⟩)] w fun e w' => mvPr n (amtN n mv D F) D F e w w' ∧ Below w.heap.size w w' := by
  obtain ⟨da, dn, dc, rfl⟩ : ∃ a m c, dv = .slice a m c := by obtain ⟨a, c, h⟩ := hd.slice; exact ⟨a, _, c, h⟩
  obtain ⟨fa, fn, fc, rfl⟩ : ∃ a m c, fv = .slice a m c := by obtain ⟨a, c, h⟩ := hf.slice; exact ⟨a, _, c, h⟩
  obtain ⟨ba, bn, bc, rfl⟩ := hbv
  obtain ⟨w1, hw1⟩ : ∃ u, u = (w.alloc (.cells #[.int .i64 (n : Int), .slice da dn dc, .slice fa fn fc, .slice ba bn bc] 129)).alloc (.cells #[.int .i64 0, .slice none 0 0, .slice none 0 0, .slice none 0 0] 129) := ⟨_, rfl⟩
  have hb1 : Below w.heap.size w w1 := by rw [hw1]; exact ((Below.refl _ _).alloc (Nat.le_refl _) _).alloc (by simp) _
  have hP1 : RowAt w1 w.heap.size [.int .i64 (n : Int), .slice da dn dc, .slice fa fn fc, .slice ba bn bc] := by rw [hw1]; exact (RowAt.new _ [.int .i64 (n : Int), .slice da dn dc, .slice fa fn fc, .slice ba bn bc] (by simp) _ rfl).alloc _
  have hR1 : RowAt w1 (w.heap.size + 1) [.int .i64 0, .slice none 0 0, .slice none 0 0, .slice none 0 0] := by rw [hw1]; exact RowAt.new _ [.int .i64 0, .slice none 0 0, .slice none 0 0, .slice none 0 0] (by simp) _ (by simp)
  have hcr1 := hcr.below hb1 hg
  have hg1 := Nat.lt_of_lt_of_le hg hb1.size
  have HAm := Lib.hid (pamounts_any n hn fr sl mv hsc _ _ D F B0 w1 hcr1 hg1 hok (hd.below hb1) (hf.below hb1))
  obtain ⟨hA1, hA2⟩ := amtN_ok hn (mv := mv) hok
  have HMv := Lib.hid (fun av w2 (hb : Below w1.heap.size w1 w2) (ha : OwnI w2 0 av (amtN n mv D F)) => pmove_any n hn _ _ av D F (amtN n mv D F) 0 w2 (hcr1.below hb hg1) (Nat.lt_of_lt_of_le hg1 hb.size) hok (((hd.below hb1).below hb).mono (Nat.zero_le _)) (((hf.below hb1).below hb).mono (Nat.zero_le _)) ha hA1 hA2)
  have HB1 := Lib.hid hb1
  have HPR := Lib.hid (And.intro hP1 hR1)
  have Hw1 := Lib.hid hw1
  have hC1 := hcb.below hb1
  have s0 := hC1.at 0 rfl
  have s1 := hC1.at 1 rfl
  have s2 := hC1.at 2 rfl
  have p0 := hP1.at 0 rfl
  have p1 := hP1.at 1 rfl
  have p2 := hP1.at 2 rfl
  clear hn hsc hcb hcr hg hok hd hf hb1 hw1 hP1 hR1 hC1 hcr1 hg1 hA1 hA2
  unfold prv stv at *
  go_enter Tryz.func91, Tryz.ntmps91
  go_upto_region 1 with fail
  rw [← Hw1.out]
  go_wp2_with fail
  clear s0 s1 s2 p0 p1 p2
  refine HAm.out.mono ?_
  rintro e w2 ⟨av, bv', bl, rfl, h1, h2, hb2⟩
  obtain ⟨aa, an, ac, rfl⟩ : ∃ a m c, av = .slice a m c := by obtain ⟨a, c, h⟩ := h1.slice; exact ⟨a, _, c, h⟩
  obtain ⟨za, zn, zc, rfl⟩ : ∃ a m c, bv' = .slice a m c := by obtain ⟨a, c, h⟩ := h2.slice; exact ⟨a, _, c, h⟩
  have HM2 := Lib.hid (HMv.out _ w2 hb2 (h1.mono (Nat.zero_le _)))
  have HR2 := Lib.hid (And.intro (HPR.out.1.below hb2) (HPR.out.2.below hb2))
  have HB2 := Lib.hid (And.intro h2 (below_then HB1.out hb2))
  have hs1 : w1.heap.size = w.heap.size + 1 + 1 := by rw [Hw1.out]; simp
  have Hs1 : Hid (w.heap.size + 1 + 1 ≤ w1.heap.size ∧ w1.heap.size ≤ w2.heap.size) := ⟨by omega, hb2.size⟩
  have p0 := HR2.out.1.at 0 rfl
  have p1 := HR2.out.1.at 1 rfl
  have p2 := HR2.out.1.at 2 rfl
  clear h1 h2 hb2 HPR HMv HAm hs1
  go_wp2_with fail
  clear p0 p1 p2
  refine HM2.out.mono ?_
  rintro e w3 ⟨⟨hT, hF⟩, hb3⟩
  have HR3 := Lib.hid (And.intro (HR2.out.1.below hb3) (HR2.out.2.below hb3))
  have HB3 := Lib.hid (And.intro (HB2.out.1.below hb3) (And.intro (below_then HB2.out.2 hb3) (Nat.le_trans Hs1.out.2 hb3.size)))
  have hsz3 : w2.heap.size ≤ w3.heap.size := hb3.size
  clear HM2 hb3
  have key : ∀ (m : Int) (xv yv : Value) (q : Int), (∃ a k c, xv = .slice a k c) → (∃ a k c, yv = .slice a k c) → e = .returned (.tuple #[.agg #[.int .i64 m, xv, yv], .int .i64 q]) → ∃ w4, RowAt w4 (w.heap.size + 1) [.int .i64 m, xv, yv, .slice za zn zc] ∧ (∀ k, k ≠ w.heap.size + 1 → k < w3.heap.size → w4.heap[k]? = w3.heap[k]?) ∧ Below w.heap.size w3 w4 := fun m xv yv q _ _ _ => by
    have hb4 : Below w3.heap.size w3 (w3.alloc (.cells #[.int .i64 m, xv, yv] 36)) := (Below.refl _ _).alloc (Nat.le_refl _) _
    obtain ⟨q1, q2, q3⟩ := set4 (HR3.out.2.below hb4) _ rfl w.heap.size (a0 := .int .i64 m) (a1 := xv) (a2 := yv) (a3 := .slice za zn zc) (by omega)
    exact ⟨_, q1, fun k h1 h2 => (q2 k h1).trans (hb4.block k h2), (hb4.mono (by have := Hs1.out; omega)).trans q3⟩
  clear key
  cases ho : outB (mvN n (amtN n mv D F) D) 0 16777216 with
  | true =>
    obtain rfl := hT ho
    clear hT hF
    unfold stv
    obtain ⟨w4, hw4⟩ : ∃ u, u = w3.alloc (.cells #[.int .i64 0, .slice none 0 0, .slice none 0 0] 36) := ⟨_, rfl⟩
    have hb4 : Below w3.heap.size w3 w4 := by rw [hw4]; exact (Below.refl _ _).alloc (Nat.le_refl _) _
    have hX4 : RowAt w4 w3.heap.size [.int .i64 0, .slice none 0 0, .slice none 0 0] := by rw [hw4]; exact RowAt.new _ [.int .i64 0, .slice none 0 0, .slice none 0 0] (by simp) _ rfl
    have hR4 := HR3.out.2.below hb4
    have x0 := hX4.at 0 rfl
    have x1 := hX4.at 1 rfl
    have x2 := hX4.at 2 rfl
    have r0 := hR4.at 0 rfl
    have r1 := hR4.at 1 rfl
    have r2 := hR4.at 2 rfl
    have r3 := hR4.at 3 rfl
    have f0 := hR4.2.2 0 (by simp)
    have f1 := hR4.2.2 1 (by simp)
    have f2 := hR4.2.2 2 (by simp)
    have f3 := hR4.2.2 3 (by simp)
    obtain ⟨q1, q2, q3⟩ := set4 hR4 _ rfl w.heap.size (a0 := .int .i64 0) (a1 := .slice none 0 0) (a2 := .slice none 0 0) (a3 := .slice za zn zc) (by omega)
    have HE := Lib.hid (And.intro q1 (And.intro (((HB3.out.1.below hb4).of_same2 (fun g hg => q2 g (by have := ((HB3.out.1.below hb4).lt g hg).1; have := Hs1.out; omega))).mono (B := w.heap.size) (by have := Hs1.out; omega)) ((below_then HB3.out.2.1 hb4).trans q3)))
    have Hw4 := Lib.hid hw4
    have Ho := Lib.hid ho
    clear hb4 hw4 hX4 hR4 q1 q2 q3 HR3 HB3 ho HR2 HB2
    go_upto_region 5 with fail
    rw [← Hw4.out]
    go_wp2_with fail
    refine ret_row2 rfl _ [.int .i64 0, .slice none 0 0, .slice none 0 0, .slice za zn zc] _ HE.out.1 rowT_pr rfl rfl rfl ⟨⟨_, bl, HE.out.2.1, fun _ => rfl, fun h => ?_⟩, HE.out.2.2⟩
    rw [Ho.out] at h; cases h
  | false =>
    obtain ⟨dv', fv', rfl, k1, k2⟩ := hF ho
    clear hT hF
    obtain ⟨xa, xn, xc, rfl⟩ : ∃ a m c, dv' = .slice a m c := by obtain ⟨a, c, h⟩ := k1.slice; exact ⟨a, _, c, h⟩
    obtain ⟨ya, yn, yc, rfl⟩ : ∃ a m c, fv' = .slice a m c := by obtain ⟨a, c, h⟩ := k2.slice; exact ⟨a, _, c, h⟩
    unfold stv
    obtain ⟨w4, hw4⟩ : ∃ u, u = w3.alloc (.cells #[.int .i64 (n : Int), .slice xa xn xc, .slice ya yn yc] 36) := ⟨_, rfl⟩
    have hb4 : Below w3.heap.size w3 w4 := by rw [hw4]; exact (Below.refl _ _).alloc (Nat.le_refl _) _
    have hX4 : RowAt w4 w3.heap.size [.int .i64 (n : Int), .slice xa xn xc, .slice ya yn yc] := by rw [hw4]; exact RowAt.new _ [.int .i64 (n : Int), .slice xa xn xc, .slice ya yn yc] (by simp) _ rfl
    have hR4 := HR3.out.2.below hb4
    have x0 := hX4.at 0 rfl
    have x1 := hX4.at 1 rfl
    have x2 := hX4.at 2 rfl
    have r0 := hR4.at 0 rfl
    have r1 := hR4.at 1 rfl
    have r2 := hR4.at 2 rfl
    have r3 := hR4.at 3 rfl
    have f0 := hR4.2.2 0 (by simp)
    have f1 := hR4.2.2 1 (by simp)
    have f2 := hR4.2.2 2 (by simp)
    have f3 := hR4.2.2 3 (by simp)
    obtain ⟨q1, q2, q3⟩ := set4 hR4 _ rfl w.heap.size (a0 := .int .i64 (n : Int)) (a1 := .slice xa xn xc) (a2 := .slice ya yn yc) (a3 := .slice za zn zc) (by omega)
    have HE := Lib.hid (And.intro q1 (And.intro (((HB3.out.1.below hb4).of_same2 (fun g hg => q2 g (by have := ((HB3.out.1.below hb4).lt g hg).1; have := Hs1.out; omega))).mono (B := w.heap.size) (by have := Hs1.out; omega)) (And.intro ((below_then HB3.out.2.1 hb4).trans q3)
      (And.intro (((k1.below hb4).of_same2 (fun g hg => q2 g (by have := ((k1.below hb4).lt g hg).1; have := Hs1.out; omega))).mono (B := w.heap.size) (by have := Hs1.out; omega)) (((k2.below hb4).of_same2 (fun g hg => q2 g (by have := ((k2.below hb4).lt g hg).1; have := Hs1.out; omega))).mono (B := w.heap.size) (by have := Hs1.out; omega))))))
    have Hw4 := Lib.hid hw4
    have Ho := Lib.hid ho
    clear hb4 hw4 hX4 hR4 q1 q2 q3 HR3 HB3 ho HR2 HB2 k1 k2
    go_upto_region 5 with fail
    rw [← Hw4.out]
    go_wp2_with fail
    refine ret_row2 rfl _ [.int .i64 (n : Int), .slice xa xn xc, .slice ya yn yc, .slice za zn zc] _ HE.out.1 rowT_pr rfl rfl rfl ⟨⟨_, bl, HE.out.2.1, fun h => ?_, fun _ => ⟨_, _, rfl, HE.out.2.2.2⟩⟩, HE.out.2.2.1⟩
    rw [Ho.out] at h; cases h
end Go.Proofs.YtkpgciimhjkajaaGreatDoor
/- The program's model: a chain of two parts. -/
namespace Go.Proofs.YtkpgciimhjkajaaGreatDoor
open Go Go.RowKit
def stA (n : Nat) (fr sl mv : Int) (D F : List Int) : List Int := amtN n mv D (accN n fr sl D F)
def stD (n : Nat) (fr sl mv : Int) (D F : List Int) : List Int := mvN n (stA n fr sl mv D F) D
def stpPr (n : Nat) (fr sl mv : Int) (D F : List Int) (e : Ending) (w w' : World) : Prop :=
  (outB (stD n fr sl mv D F) 0 16777216 = true → e = .returned (.tuple #[prv 0 (.slice none 0 0) (.slice none 0 0) (.slice none 0 0), .int .i64 7])) ∧
  (outB (stD n fr sl mv D F) 0 16777216 = false → ∃ dv fv bv bl, e = .returned (.tuple #[prv n dv fv bv, .int .i64 0]) ∧ OwnI w' w.heap.size dv (stD n fr sl mv D F) ∧ OwnI w' w.heap.size fv (accN n fr sl D F) ∧ OwnI w' w.heap.size bv bl)
structure Chn (n : Nat) (w : World) (pb rb : Nat) (B : Nat) (D F : List Int) (wr : World) (dv fv bv : Value) : Prop where
  p : RowAt wr pb [.int .i64 (n : Int), dv, fv, bv]
  r : RowAt wr rb [.int .i64 0, .slice none 0 0, .slice none 0 0, .slice none 0 0]
  d : OwnI wr B dv D
  f : OwnI wr B fv F
  b : ∃ bl, OwnI wr B bv bl
  be : Below w.heap.size w wr
set_option maxRecDepth 100000 in
set_option maxHeartbeats 16000000 in
theorem pchain_any (n : Nat) (hn : Fq n) (fr sl mv : Int) (hsc : outB [fr, sl, mv] 1 4 = false) (kb c1 c2 : Nat) (dv fv : Value) (D F : List Int) (B0 : Nat) (w : World) (hcr : Crn w) (hg : 0 < w.heap.size)
    (hk : RowAt w kb [.func (.func 89) #[] #[.pointer (some ⟨c1, 0, none⟩)], .func (.func 91) #[] #[.pointer (some ⟨c2, 0, none⟩)]])
    (hc1 : RowAt w c1 [.int .i64 fr, .int .i64 sl, .int .i64 mv]) (hc2 : RowAt w c2 [.int .i64 fr, .int .i64 sl, .int .i64 mv]) (hok : SOk n D F) (hd : OwnI w B0 dv D) (hf : OwnI w B0 fv F) :
    Calls Tryz.prog 74 #[.slice (some ⟨kb, 0, none⟩) 2 2, prv n dv fv (.slice none 0 0)] w fun e w' => stpPr n fr sl mv D F e w w' ∧ Below w.heap.size w w' := by
  obtain ⟨da, dn, dc, rfl⟩ : ∃ a m c, dv = .slice a m c := by obtain ⟨a, c, h⟩ := hd.slice; exact ⟨a, _, c, h⟩
  obtain ⟨fa, fn, fc, rfl⟩ : ∃ a m c, fv = .slice a m c := by obtain ⟨a, c, h⟩ := hf.slice; exact ⟨a, _, c, h⟩
  obtain ⟨w1, hw1⟩ : ∃ u, u = (w.alloc (.cells #[.int .i64 (n : Int), .slice da dn dc, .slice fa fn fc, .slice none 0 0] 129)).alloc (.cells #[.int .i64 0, .slice none 0 0, .slice none 0 0, .slice none 0 0] 129) := ⟨_, rfl⟩
  have hb1 : Below w.heap.size w w1 := by rw [hw1]; exact ((Below.refl _ _).alloc (Nat.le_refl _) _).alloc (by simp) _
  have hP1 : RowAt w1 w.heap.size [.int .i64 (n : Int), .slice da dn dc, .slice fa fn fc, .slice none 0 0] := by rw [hw1]; exact (RowAt.new _ [.int .i64 (n : Int), .slice da dn dc, .slice fa fn fc, .slice none 0 0] (by simp) _ rfl).alloc _
  have hR1 : RowAt w1 (w.heap.size + 1) [.int .i64 0, .slice none 0 0, .slice none 0 0, .slice none 0 0] := by rw [hw1]; exact RowAt.new _ [.int .i64 0, .slice none 0 0, .slice none 0 0, .slice none 0 0] (by simp) _ (by simp)
  have hs1 : w1.heap.size = w.heap.size + 1 + 1 := by rw [hw1]; simp
  have HCh : Hid (Chn n w w.heap.size (w.heap.size + 1) 0 D F w1 (.slice da dn dc) (.slice fa fn fc) (.slice none 0 0)) := ⟨hP1, hR1, (hd.below hb1).mono (Nat.zero_le _), (hf.below hb1).mono (Nat.zero_le _), ⟨[], OwnI.nil _ _⟩, hb1⟩
  have HFix := Lib.hid (And.intro hn (And.intro hsc (And.intro hok (And.intro hcr hg))))
  have HK := Lib.hid (And.intro hk (And.intro hc1 hc2))
  have Hw1 := Lib.hid (And.intro hw1 hs1)
  have k0 := (hk.below hb1).at 0 rfl
  clear hn hsc hok hcr hg hk hc1 hc2 hd hf hb1 hw1 hP1 hR1 hs1
  unfold prv
  go_enter Tryz.func74, Tryz.ntmps74
  go_upto_region 1 with fail
  rw [← Hw1.out.1]
  clear k0
  go_wp2_with fail
  go_loopw [12] (fun kv wr => ∃ c : Nat, c ≤ 2 ∧ kv = .int .i64 c ∧ Hid ((c = 0 → ∃ a b x y z u, Chn n w w.heap.size (w.heap.size + 1) 0 D F wr (.slice a b x) (.slice y z u) (.slice none 0 0)) ∧
      (c = 1 → ∃ a b x y z u, Chn n w w.heap.size (w.heap.size + 1) (w.heap.size + 1 + 1) D (accN n fr sl D F) wr (.slice a b x) (.slice y z u) (.slice none 0 0)) ∧
      (c = 2 → outB (stD n fr sl mv D F) 0 16777216 = false ∧ ∃ a b x y z u p q r, Chn n w w.heap.size (w.heap.size + 1) (w.heap.size + 1 + 1) (stD n fr sl mv D F) (accN n fr sl D F) wr (.slice a b x) (.slice y z u) (.slice p q r)))) (fun kv _ => (10 - intOf kv).toNat)
  case atStart => exact ⟨0, by omega, rfl, fun _ => ⟨_, _, _, _, _, _, HCh.out⟩, fun h => by omega, fun h => by omega⟩
  case round =>
    clear HCh
    obtain ⟨c, hc, rfl, hs⟩ := hrel
    rcases (show c = 0 ∨ c = 1 ∨ c = 2 by omega) with rfl | rfl | rfl
    · obtain ⟨a, b, x, y, z, u, h⟩ := hs.out.1 rfl
      have H := Lib.hid h
      have k0 := (HK.out.1.below h.be).at 0 rfl
      have p0 := h.p.at 0 rfl
      have p1 := h.p.at 1 rfl
      have p2 := h.p.at 2 rfl
      have p3 := h.p.at 3 rfl
      have HAc := Lib.hid (pacc_any n HFix.out.1 fr sl mv HFix.out.2.1 c1 _ _ (.slice none 0 0) ⟨_, _, _, rfl⟩ D F 0 wr (HK.out.2.1.below h.be) (HFix.out.2.2.2.1.below h.be HFix.out.2.2.2.2) (Nat.lt_of_lt_of_le HFix.out.2.2.2.2 h.be.size) HFix.out.2.2.1 h.d h.f)
      unfold prv at HAc
      clear h hs
      go_wp2_with fail
      clear k0 p0 p1 p2 p3
      refine HAc.out.mono ?_
      rintro e w2 ⟨dv', fv', rfl, h1, h2, hb2⟩
      obtain ⟨xa, xn, xc, rfl⟩ : ∃ a m c, dv' = .slice a m c := by obtain ⟨a, c, h⟩ := h1.slice; exact ⟨a, _, c, h⟩
      obtain ⟨ya, yn, yc, rfl⟩ : ∃ a m c, fv' = .slice a m c := by obtain ⟨a, c, h⟩ := h2.slice; exact ⟨a, _, c, h⟩
      have hP2 := H.out.p.below hb2
      have hR2 := H.out.r.below hb2
      have hlt := H.out.p.lt
      have hlr := H.out.r.lt
      obtain ⟨q1, q2, q3⟩ := set4 hP2 _ rfl w.heap.size (a0 := .int .i64 (n : Int)) (a1 := .slice xa xn xc) (a2 := .slice ya yn yc) (a3 := .slice none 0 0) (Nat.le_refl _)
      have r0 := hP2.at 0 rfl
      have r1 := hP2.at 1 rfl
      have r2 := hP2.at 2 rfl
      have r3 := hP2.at 3 rfl
      have f0 := hP2.2.2 0 (by simp)
      have f1 := hP2.2.2 1 (by simp)
      have f2 := hP2.2.2 2 (by simp)
      have f3 := hP2.2.2 3 (by simp)
      have HE : Hid (Chn n w w.heap.size (w.heap.size + 1) (w.heap.size + 1 + 1) D (accN n fr sl D F) _ _ _ _) := ⟨q1, hR2.of_block (q2 _ (by omega)), (h1.of_same2 (fun g hg => q2 g (by have := (h1.lt g hg).1; omega))).mono H.out.r.lt, (h2.of_same2 (fun g hg => q2 g (by have := (h2.lt g hg).1; omega))).mono H.out.r.lt, ⟨[], OwnI.nil _ _⟩, (below_then H.out.be hb2).trans q3⟩
      clear h1 h2 hb2 hP2 hR2 hlt hlr q1 q2 q3 H HAc
      go_wp2_with fail
      refine ⟨⟨1, by omega, rfl, fun h => by omega, fun _ => ⟨_, _, _, _, _, _, HE.out⟩, fun h => by omega⟩, ?_⟩
      simp [intOf]
    · obtain ⟨a, b, x, y, z, u, h⟩ := hs.out.2.1 rfl
      have H := Lib.hid h
      have k0 := (HK.out.1.below h.be).at 1 rfl
      have p0 := h.p.at 0 rfl
      have p1 := h.p.at 1 rfl
      have p2 := h.p.at 2 rfl
      have p3 := h.p.at 3 rfl
      have HAc := Lib.hid (pmv_any n HFix.out.1 fr sl mv HFix.out.2.1 c2 _ _ (.slice none 0 0) ⟨_, _, _, rfl⟩ D (accN n fr sl D F) (w.heap.size + 1 + 1) wr (HK.out.2.2.below h.be) (HFix.out.2.2.2.1.below h.be HFix.out.2.2.2.2) (Nat.lt_of_lt_of_le HFix.out.2.2.2.2 h.be.size) (accN_ok HFix.out.2.2.1) h.d h.f)
      unfold prv at HAc
      clear h hs
      go_wp2_with fail
      clear k0 p0 p1 p2 p3
      refine HAc.out.mono ?_
      rintro e w2 ⟨⟨bv, bl, hbo, hT, hF⟩, hb2⟩
      obtain ⟨za, zn, zc, rfl⟩ : ∃ a m c, bv = .slice a m c := by obtain ⟨a, c, h⟩ := hbo.slice; exact ⟨a, _, c, h⟩
      have hP2 := H.out.p.below hb2
      have hR2 := H.out.r.below hb2
      have hlr : w.heap.size + 1 < wr.heap.size := H.out.r.lt
      have r0 := hP2.at 0 rfl
      have r1 := hP2.at 1 rfl
      have r2 := hP2.at 2 rfl
      have r3 := hP2.at 3 rfl
      have f0 := hP2.2.2 0 (by simp)
      have f1 := hP2.2.2 1 (by simp)
      have f2 := hP2.2.2 2 (by simp)
      have f3 := hP2.2.2 3 (by simp)
      cases ho : outB (mvN n (amtN n mv D (accN n fr sl D F)) D) 0 16777216 with
      | true =>
        obtain rfl := hT ho
        have Ho : Hid (outB (stD n fr sl mv D F) 0 16777216 = true) := ho
        obtain ⟨w3, hw3⟩ : ∃ u, u = (((w2.setCell ⟨w.heap.size, 0, none⟩ (.int .i64 0)).setCell ⟨w.heap.size, 1, none⟩ (.slice none 0 0)).setCell ⟨w.heap.size, 2, none⟩ (.slice none 0 0)).setCell ⟨w.heap.size, 3, none⟩ (.slice za zn zc) := ⟨_, rfl⟩
        obtain ⟨q1, q2, q3⟩ := set4 hP2 w3 hw3 w.heap.size (Nat.le_refl _)
        have hR3 := hR2.of_block (q2 _ (by omega))
        have HB3 := Lib.hid ((below_then H.out.be hb2).trans q3)
        have HR3 := Lib.hid hR3
        have Hw3 := Lib.hid hw3
        clear hT hF ho hP2 hR2 hlr q1 q2 q3 hR3 hw3 hbo hb2 H HAc
        unfold prv
        go_upto_region 7 with fail
        rw [← Hw3.out]
        clear r0 r1 r2 r3 f0 f1 f2 f3
        have hb4 : Below w3.heap.size w3 (w3.alloc (.cells #[.int .i64 0, .slice none 0 0, .slice none 0 0, .slice none 0 0] 129)) := (Below.refl _ _).alloc (Nat.le_refl _) _
        have hZ4 : RowAt (w3.alloc (.cells #[.int .i64 0, .slice none 0 0, .slice none 0 0, .slice none 0 0] 129)) w3.heap.size [.int .i64 0, .slice none 0 0, .slice none 0 0, .slice none 0 0] := RowAt.new _ [.int .i64 0, .slice none 0 0, .slice none 0 0, .slice none 0 0] (by simp) _ rfl
        have hR4 := HR3.out.below hb4
        have z0 := hZ4.at 0 rfl
        have z1 := hZ4.at 1 rfl
        have z2 := hZ4.at 2 rfl
        have z3 := hZ4.at 3 rfl
        have r0 := hR4.at 0 rfl
        have r1 := hR4.at 1 rfl
        have r2 := hR4.at 2 rfl
        have r3 := hR4.at 3 rfl
        have f0 := hR4.2.2 0 (by simp)
        have f1 := hR4.2.2 1 (by simp)
        have f2 := hR4.2.2 2 (by simp)
        have f3 := hR4.2.2 3 (by simp)
        obtain ⟨q1, q2, q3⟩ := set4 hR4 _ rfl w.heap.size (a0 := .int .i64 0) (a1 := .slice none 0 0) (a2 := .slice none 0 0) (a3 := .slice none 0 0) (by omega)
        have HE := Lib.hid (And.intro q1 ((below_then HB3.out hb4).trans q3))
        clear hb4 hZ4 hR4 q1 q2 q3
        go_wp2_with fail
        refine ret_row2 rfl _ [.int .i64 0, .slice none 0 0, .slice none 0 0, .slice none 0 0] _ HE.out.1 rowT_pr rfl rfl rfl ⟨⟨fun _ => rfl, fun h => ?_⟩, HE.out.2⟩
        rw [Ho.out] at h; cases h
      | false =>
        obtain ⟨dv', fv', rfl, h1, h2⟩ := hF ho
        have Ho : Hid (outB (stD n fr sl mv D F) 0 16777216 = false) := ho
        obtain ⟨xa, xn, xc, rfl⟩ : ∃ a m c, dv' = .slice a m c := by obtain ⟨a, c, h⟩ := h1.slice; exact ⟨a, _, c, h⟩
        obtain ⟨ya, yn, yc, rfl⟩ : ∃ a m c, fv' = .slice a m c := by obtain ⟨a, c, h⟩ := h2.slice; exact ⟨a, _, c, h⟩
        obtain ⟨q1, q2, q3⟩ := set4 hP2 _ rfl w.heap.size (a0 := .int .i64 (n : Int)) (a1 := .slice xa xn xc) (a2 := .slice ya yn yc) (a3 := .slice za zn zc) (Nat.le_refl _)
        have HE : Hid (Chn n w w.heap.size (w.heap.size + 1) (w.heap.size + 1 + 1) (stD n fr sl mv D F) (accN n fr sl D F) _ _ _ _) := ⟨q1, hR2.of_block (q2 _ (by omega)), (h1.of_same2 (fun g hg => q2 g (by have := (h1.lt g hg).1; omega))).mono H.out.r.lt, (h2.of_same2 (fun g hg => q2 g (by have := (h2.lt g hg).1; omega))).mono H.out.r.lt, ⟨bl, (hbo.of_same2 (fun g hg => q2 g (by have := (hbo.lt g hg).1; omega))).mono H.out.r.lt⟩, (below_then H.out.be hb2).trans q3⟩
        clear h1 h2 hb2 hP2 hR2 hlr q1 q2 q3 H HAc hT hF ho hbo
        unfold prv
        go_wp2_with fail
        refine ⟨⟨2, by omega, rfl, fun h => by omega, fun h => by omega, fun _ => ⟨Ho.out, _, _, _, _, _, _, _, _, _, HE.out⟩⟩, ?_⟩
        simp [intOf]
    · obtain ⟨ho, a, b, x, y, z, u, p, q, r, h⟩ := hs.out.2.2 rfl
      have Ho := Lib.hid ho
      have p0 := h.p.at 0 rfl
      have p1 := h.p.at 1 rfl
      have p2 := h.p.at 2 rfl
      have p3 := h.p.at 3 rfl
      have r0 := h.r.at 0 rfl
      have r1 := h.r.at 1 rfl
      have r2 := h.r.at 2 rfl
      have r3 := h.r.at 3 rfl
      have f0 := h.r.2.2 0 (by simp)
      have f1 := h.r.2.2 1 (by simp)
      have f2 := h.r.2.2 2 (by simp)
      have f3 := h.r.2.2 3 (by simp)
      obtain ⟨q1, q2, q3⟩ := set4 h.r _ rfl w.heap.size (a0 := .int .i64 (n : Int)) (a1 := .slice a b x) (a2 := .slice y z u) (a3 := .slice p q r) (by omega)
      obtain ⟨bl, hbl⟩ := h.b
      have hnr : ∀ (v : Value) (l : List Int), OwnI wr (w.heap.size + 1 + 1) v l → v.ownBlock ≠ some (w.heap.size + 1) := fun v l hv e => by have := (hv.lt _ e).1; omega
      have HE := Lib.hid (And.intro q1 (And.intro (h.d.of_same2 (fun g hg => q2 g (fun e => hnr _ _ h.d (by rw [hg, e])))) (And.intro (h.f.of_same2 (fun g hg => q2 g (fun e => hnr _ _ h.f (by rw [hg, e])))) (And.intro (hbl.of_same2 (fun g hg => q2 g (fun e => hnr _ _ hbl (by rw [hg, e])))) (h.be.trans q3)))))
      clear ho hs h q1 q2 q3 hbl hnr
      go_wp2_with fail
      refine ret_row2 rfl _ [.int .i64 (n : Int), .slice a b x, .slice y z u, .slice p q r] _ HE.out.1 rowT_pr rfl rfl rfl ⟨⟨fun h => ?_, fun _ => ⟨_, _, _, bl, rfl, HE.out.2.1.mono (by omega), HE.out.2.2.1.mono (by omega), HE.out.2.2.2.1.mono (by omega)⟩⟩, HE.out.2.2.2.2⟩
      rw [Ho.out] at h; cases h
end Go.Proofs.YtkpgciimhjkajaaGreatDoor
