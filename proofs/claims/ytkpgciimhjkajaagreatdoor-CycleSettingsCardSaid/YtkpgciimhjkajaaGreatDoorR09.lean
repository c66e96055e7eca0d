/- Part 9 of the proof: laws on memory and what functions of the program return. No conditions but those that each theorem names. -/
import Derived.Test.YtkpgciimhjkajaaGreatDoorR08
set_option linter.unusedVariables false
set_option linter.unusedSimpArgs false
/- The program's flux: Amounts. -/
namespace Go.Proofs.YtkpgciimhjkajaaGreatDoor
open Go Go.RowKit Go.Shelf
attribute [local go_sem] Oper.semAt_some
def shrI (x s : Int) : Int := x.fdiv (2 ^ (min s.toNat 64))
def qAt (D G : List Int) (a : Nat) : Int := (D.getD a 0).tdiv (G.getD a 0)
def amt1 (want la lb : Int) : Int := if la < want then la else if want < -lb then -lb else want
def amtI (n : Nat) (mv : Int) (D F : List Int) (i : Fin (edgesN n).length) : Int := amt1 (shrI (F.getD i.1 0) mv) (qAt D (degN n) (edgesN n)[i.1].1) (qAt D (degN n) (edgesN n)[i.1].2)
def amtN (n : Nat) (mv : Int) (D F : List Int) : List Int := (List.finRange _).map (amtI n mv D F)
theorem rowT_2i : RowT 62 2 := ⟨by kernel_rfl, _, Tryz.underlying62, rfl⟩
theorem shrI_bnd {x s : Int} (h1 : -16777216 ≤ x) (h2 : x ≤ 16777216) : -16777216 ≤ shrI x s ∧ shrI x s ≤ 16777216 := by
  unfold shrI
  have hp : (0 : Int) < 2 ^ (min s.toNat 64) := Int.pow_pos (by omega)
  generalize (2 : Int) ^ (min s.toNat 64) = p at *
  rw [Int.fdiv_eq_ediv_of_nonneg _ (by omega)]
  constructor
  · rw [Int.le_ediv_iff_mul_le hp]
    have : (-16777216) * p ≤ (-16777216) * 1 := Int.mul_le_mul_of_nonpos_left (by omega) (by omega)
    omega
  · refine Int.ediv_le_of_le_mul hp ?_
    have : 16777216 * 1 ≤ 16777216 * p := Int.mul_le_mul_of_nonneg_left (by omega) (by omega)
    omega
theorem tdiv_bnd {x y : Int} (h1 : 0 ≤ x) (h2 : x ≤ 16777216) (hy : 1 ≤ y) : 0 ≤ x.tdiv y ∧ x.tdiv y ≤ 16777216 := by
  rw [Int.tdiv_eq_ediv_of_nonneg h1]
  refine ⟨Int.ediv_nonneg h1 (by omega), Int.le_trans (Int.ediv_le_self _ h1) h2⟩
structure S15 (sb cb eb H dg gg fg n xn yn i : Nat) (dv fv gv : Value) (fr sl mv d1 d2 g1 g2 f1 : Int) (w : World) : Prop where
  s : RowAt w sb [.int .i64 (n : Int), dv, fv]
  c : RowAt w cb [.int .i64 fr, .int .i64 sl, .int .i64 mv]
  e : RowAt w eb [.int .i64 (xn : Int), .int .i64 (yn : Int)]
  g : w.cell? ⟨H, 0, none⟩ = some gv
  d1 : w.cell? ⟨dg, xn, none⟩ = some (.int .i64 d1)
  d2 : w.cell? ⟨dg, yn, none⟩ = some (.int .i64 d2)
  g1 : w.cell? ⟨gg, xn, none⟩ = some (.int .i64 g1)
  g2 : w.cell? ⟨gg, yn, none⟩ = some (.int .i64 g2)
  f1 : w.cell? ⟨fg, i, none⟩ = some (.int .i64 f1)
theorem S15.below {sb cb eb H dg gg fg n xn yn i : Nat} {dv fv gv : Value} {fr sl mv d1 d2 g1 g2 f1 : Int} {w w' : World} (h : S15 sb cb eb H dg gg fg n xn yn i dv fv gv fr sl mv d1 d2 g1 g2 f1 w) (hb : Below w.heap.size w w') : S15 sb cb eb H dg gg fg n xn yn i dv fv gv fr sl mv d1 d2 g1 g2 f1 w' :=
  ⟨h.s.below hb, h.c.below hb, h.e.below hb, cell_then hb h.g, cell_then hb h.d1, cell_then hb h.d2, cell_then hb h.g1, cell_then hb h.g2, cell_then hb h.f1⟩
set_option maxRecDepth 100000 in
set_option maxHeartbeats 16000000 in
theorem pamounts_any (n : Nat) (hn : Fq n) (fr sl mv : Int) (hsc : outB [fr, sl, mv] 1 4 = false) (dv fv : Value) (D F : List Int) (B0 : Nat) (w : World) (hcr : Crn w) (hg : 0 < w.heap.size) (hok : SOk n D F) (hd : OwnI w B0 dv D) (hf : OwnI w B0 fv F) :
    Calls Tryz.prog 92 #[.agg #[.int .i64 fr, .int .i64 sl, .int .i64 mv], stv n dv fv] w fun e w' => ∃ av bv bl, e = .returned (.tuple #[av, bv, .int .i64 0]) ∧ OwnI w' w.heap.size av (amtN n mv D F) ∧ OwnI w' w.heap.size bv bl ∧ Below w.heap.size w w' := by
  obtain ⟨cb, hcb⟩ : ∃ x, x = w.heap.size := ⟨_, rfl⟩
  obtain ⟨w1, hw1⟩ : ∃ u, u = (w.alloc (.cells #[.int .i64 fr, .int .i64 sl, .int .i64 mv] 24)).alloc (.cells #[.int .i64 (n : Int), dv, fv] 36) := ⟨_, rfl⟩
  have hb1 : Below w.heap.size w w1 := by rw [hw1]; exact ((Below.refl _ _).alloc (Nat.le_refl _) _).alloc (by simp) _
  have hs1 : w1.heap.size = cb + 1 + 1 := by rw [hw1, hcb]; simp
  have hC1 : RowAt w1 cb [.int .i64 fr, .int .i64 sl, .int .i64 mv] := by rw [hw1, hcb]; exact (RowAt.new _ [.int .i64 fr, .int .i64 sl, .int .i64 mv] (by simp) _ rfl).alloc _
  have hS1 : RowAt w1 (cb + 1) [.int .i64 (n : Int), dv, fv] := by rw [hw1]; exact RowAt.new _ [.int .i64 (n : Int), dv, fv] (by simp) _ (by rw [hcb]; simp)
  have HSc := Lib.hid (fun w' => pscheme_any fr sl mv w')
  have HMv : Hid (0 ≤ mv) := by unfold Hid; simp [outB, outV] at hsc; omega
  rw [hsc] at HSc
  have HB1 := Lib.hid hb1
  have HFix := Lib.hid (And.intro hn (And.intro hok (And.intro (hd.below hb1) (hf.below hb1))))
  have HCr := Lib.hid (And.intro (hcr.below hb1 hg) (Nat.lt_of_lt_of_le hg hb1.size))
  have Hw1 := Lib.hid hw1
  subst hcb
  have HS1 := Lib.hid hS1
  have HC1 := Lib.hid hC1
  clear hcr hg hn hok hd hf hb1 hsc
  obtain ⟨da, dn, dc, rfl⟩ : ∃ a m c, dv = .slice a m c := by obtain ⟨a, c, h⟩ := HFix.out.2.2.1.slice; exact ⟨a, _, c, h⟩
  obtain ⟨fa, fn, fc, rfl⟩ : ∃ a m c, fv = .slice a m c := by obtain ⟨a, c, h⟩ := HFix.out.2.2.2.slice; exact ⟨a, _, c, h⟩
  have c0 := hS1.at 0 rfl
  have c1 := hS1.at 1 rfl
  have c2 := hS1.at 2 rfl
  have d0 := hC1.at 0 rfl
  have d1 := hC1.at 1 rfl
  have d2 := hC1.at 2 rfl
  clear hw1 hs1 hC1 hS1
  unfold stv
  refine callsIn_wide (n := 10) |>.1 ?_
  refine callsIn_of_wp_marks Tryz.func92 rfl trivial ?_ rfl
  simp only [Tryz.ntmps92, List.size_toArray, List.length_cons, List.length_nil, Nat.reduceAdd, Nat.reduceSub, Array.replicate_succ, Array.replicate_zero, List.push_toArray, List.append_toArray, List.nil_append, List.cons_append]
  gi_wp2
  refine ⟨trivial, ?_⟩
  gi_at_call 31
  rw [← Hw1.out]
  clear c0 c1 c2 d0 d1 d2
  refine (callsIn_wide.2 (HSc.out _)).mono ?_
  rintro e w2 ⟨he, hb2⟩
  obtain rfl : e = .returned (.int .i64 0) := he
  have HS2 := Lib.hid (HS1.out.below hb2)
  have HC2 := Lib.hid (HC1.out.below hb2)
  have HB2 := Lib.hid (below_then HB1.out hb2)
  have HCr2 := Lib.hid (And.intro (HCr.out.1.below hb2 HCr.out.2) (Nat.lt_of_lt_of_le HCr.out.2 hb2.size))
  have HDF2 := Lib.hid (And.intro (HFix.out.2.2.1.below hb2) (HFix.out.2.2.2.below hb2))
  have HCk := Lib.hid (pcheck_any n HFix.out.1 _ _ D F B0 w2 HCr2.out.1 HCr2.out.2 HFix.out.2.1 HDF2.out.1 HDF2.out.2)
  have c0 := HS2.out.at 0 rfl
  have c1 := HS2.out.at 1 rfl
  have c2 := HS2.out.at 2 rfl
  clear hb2 HS1 HC1 HB1 HCr HSc
  gi_wp2
  refine ⟨trivial, ?_⟩
  gi_at_call 66
  clear c0 c1 c2
  refine (callsIn_wide.2 HCk.out).mono ?_
  rintro e w3 ⟨rfl, hb3⟩
  have HS3 := Lib.hid (HS2.out.below hb3)
  have HC3 := Lib.hid (HC2.out.below hb3)
  have HB3 := Lib.hid (below_then HB2.out hb3)
  have HCr3 := Lib.hid (And.intro (HCr2.out.1.below hb3 HCr2.out.2) (Nat.lt_of_lt_of_le HCr2.out.2 hb3.size))
  have HDF3 := Lib.hid (And.intro (HDF2.out.1.below hb3) (HDF2.out.2.below hb3))
  have HDg := Lib.hid (pdegrees_any n HFix.out.1 w3 HCr3.out.1 HCr3.out.2)
  have c0 := HS3.out.at 0 rfl
  clear hb3 HS2 HC2 HB2 HCr2 HDF2 HCk
  gi_wp2
  refine ⟨trivial, ?_⟩
  gi_at_call 110
  clear c0
  refine (callsIn_wide.2 HDg.out).mono ?_
  rintro e w4 ⟨gv, rfl, hgv, hb4⟩
  obtain ⟨ga, gn, gc, rfl⟩ : ∃ a m c, gv = .slice a m c := by obtain ⟨a, c, h⟩ := hgv.slice; exact ⟨a, _, c, h⟩
  have HS4 := Lib.hid (HS3.out.below hb4)
  have HC4 := Lib.hid (HC3.out.below hb4)
  have HB4 := Lib.hid (below_then HB3.out hb4)
  have HCr4 := Lib.hid (And.intro (HCr3.out.1.below hb4 HCr3.out.2) (Nat.lt_of_lt_of_le HCr3.out.2 hb4.size))
  have HDF4 := Lib.hid (And.intro (HDF3.out.1.below hb4) (HDF3.out.2.below hb4))
  have HG4 := Lib.hid (hgv.mono (Nat.zero_le _))
  have c0 := HS4.out.at 0 rfl
  clear hb4 hgv HS3 HC3 HB3 HCr3 HDF3 HDg
  have c05 := (((HS4.out.alloc (.cells #[.slice ga gn gc] 34)).alloc (.cells #[.slice none 0 0] 34)).alloc (.cells #[.slice none 0 0] 106)).at 0 rfl
  gi_wp2_with (refine ⟨trivial, ?_⟩; gi_at_call 111; refine (callsIn_wide.2 (pedgesF_any (n : Int) _)).mono ?_; rintro e w5 ⟨rfl, rfl⟩)
  clear c0 c05
  obtain ⟨sb, hsb⟩ : ∃ x, x = w.heap.size + 1 := ⟨_, rfl⟩
  obtain ⟨H, hH⟩ : ∃ x, x = w4.heap.size := ⟨_, rfl⟩
  obtain ⟨W0, hW0⟩ : ∃ u, u = (((w4.alloc (.cells #[.slice ga gn gc] 34)).alloc (.cells #[.slice none 0 0] 34)).alloc (.cells #[.slice none 0 0] 106)).alloc (.cells #[.int .i64 n] 3) := ⟨_, rfl⟩
  have hB0 : Below w4.heap.size w4 W0 := by rw [hW0]; exact ((((Below.refl _ _).alloc (Nat.le_refl _) _).alloc (by simp) _).alloc (by simp; omega) _).alloc (by simp; omega) _
  have hsz : W0.heap.size = H + 1 + 1 + 1 + 1 := by rw [hW0, hH]; simp
  have hGb : Boxed W0 H 34 (.slice ga gn gc) := by
    rw [hW0, hH]; exact (((Boxed.new w4 _ _).alloc _).alloc _).alloc _
  have hAb : Boxed W0 (H + 1) 34 (.slice none 0 0) := by
    rw [hW0]
    have h := ((Boxed.new (w4.alloc (.cells #[.slice ga gn gc] 34)) 34 (.slice none 0 0)).alloc (.cells #[.slice none 0 0] 106)).alloc (.cells #[.int .i64 n] 3)
    rw [World.size_alloc, ← hH] at h; exact h
  have hBb : Boxed W0 (H + 1 + 1) 106 (.slice none 0 0) := by
    rw [hW0]
    have h := (Boxed.new ((w4.alloc (.cells #[.slice ga gn gc] 34)).alloc (.cells #[.slice none 0 0] 34)) 106 (.slice none 0 0)).alloc (.cells #[.int .i64 n] 3)
    rw [World.size_alloc, World.size_alloc, ← hH] at h; exact h
  have hBs : W0.cell? ⟨H + 1 + 1 + 1, 0, none⟩ = some (.int .i64 n) := by
    rw [hW0]
    have h := (Boxed.new (((w4.alloc (.cells #[.slice ga gn gc] 34)).alloc (.cells #[.slice none 0 0] 34)).alloc (.cells #[.slice none 0 0] 106)) 3 (.int .i64 n)).cell
    rw [World.size_alloc, World.size_alloc, World.size_alloc, ← hH] at h; exact h
  rw [← hW0, ← hH]
  have hcr0 := HCr4.out.1.below hB0 HCr4.out.2
  have hg0 := Nat.lt_of_lt_of_le HCr4.out.2 hB0.size
  have hS0 := HS4.out.below hB0
  have hC0 := HC4.out.below hB0
  have hdl := HDF4.out.1.below hB0
  have hfl := HDF4.out.2.below hB0
  have hgl := HG4.out.below hB0
  have hB1 := below_then HB4.out hB0
  have hs4 : w.heap.size + 1 < H := by rw [hH]; exact HS4.out.lt
  have hbk : ∀ (v : Value) (l : List Int), OwnI w4 0 v l → ∀ g, v.ownBlock = some g → g < H := fun v l hv g hg => by rw [hH]; exact (hv.lt g hg).2
  have hdb := hbk _ _ (HDF4.out.1.mono (Nat.zero_le _))
  have hfb := hbk _ _ (HDF4.out.2.mono (Nat.zero_le _))
  have hgb := hbk _ _ HG4.out
  clear hbk HS4 HC4 HDF4 HG4 HCr4
  rw [← hsb] at hS0 ⊢
  have hM0 : Md 34 106 W0 W0.heap.size (H + 1) (H + 1 + 1) (.slice none 0 0) (.slice none 0 0) (.slice none 0 0) (.slice none 0 0) [] [] :=
    ⟨hAb, hBb, OwnI.nil _ _, OwnI.nil _ _, fun g h => by simp [Value.ownBlock] at h, by omega, by omega, by omega, Nat.le_refl _⟩
  obtain ⟨base, hbase⟩ : ∃ x, x = W0.heap.size := ⟨_, rfl⟩
  rw [← hbase] at hM0
  have HK := Lib.hid (And.intro hS0 (And.intro hC0 (And.intro hGb (And.intro hdl (And.intro hfl hgl)))))
  have HKb := Lib.hid (And.intro hdb (And.intro hfb hgb))
  have HN := Lib.hid (And.intro hbase (And.intro hsz (And.intro hsb hs4)))
  have HB1 := Lib.hid hB1
  clear hS0 hC0 hGb hdl hfl hgl hdb hfb hgb hAb hBb hW0 hB0 hB1 HB4
  refine range_edges2 HFix.out.1 (by omega) (Bs := H + 1 + 1 + 1) rfl ⟨rfl, rfl, rfl⟩ ⟨rfl, rfl, rfl⟩ ⟨rfl, rfl, rfl⟩ ⟨by simp, by simp, by decide⟩ ⟨by simp, by decide, by decide⟩ (by omega) hBs hcr0 hg0
    (fun pre W => (∃ av bv bl, Md 34 106 W base (H + 1) (H + 1 + 1) av bv av bv (pre.map (amtI n mv D F)) bl ∧ bl.length = (pre.map (amtI n mv D F)).length) ∧ Kp2 base (H + 1) (H + 1 + 1) W0 W ∧ Below w.heap.size W0 W)
    (by rw [← hbase]; exact OwnFrom.and (Md.from (by omega)) (OwnFrom.and (Kp2.from hbase.symm) (ownFrom_below (by omega) (by omega)))) (fun pre W h => h.2.2.size) ⟨⟨_, _, _, hM0, rfl⟩, ⟨KOth.refl _, fun _ _ _ _ => rfl⟩, Below.refl _ _⟩ ?body ?done
  case body =>
    clear hM0 hBs hcr0 hg0
    rintro l pre i eb W heb hR ⟨⟨av, bv, bl, hM, hbl⟩, hK, hb⟩ hlt
    have hE := edgesN_ok HFix.out.1 _ (List.getElem_mem i.2)
    have hdgb := degF_bnd (edgesN n) (fun e he => (edgesN_ok HFix.out.1 e he).1) (List.finRange _) (List.replicate (10 * n * n + 2) 0)
    have hgl : (degN n).length = 10 * n * n + 2 := by unfold degN; rw [degF_length]; simp
    have hxg := (hdgb (edgesN n)[i.1].1 (fun e he => by simpa using (edgesN_ok HFix.out.1 e he).2)).2.2 ⟨i, List.mem_finRange i, Or.inl rfl⟩
    have hyg := (hdgb (edgesN n)[i.1].2 (fun e he => by simpa using (edgesN_ok HFix.out.1 e he).2)).2.2 ⟨i, List.mem_finRange i, Or.inr rfl⟩
    have hg0 : ∀ b, (List.replicate (10 * n * n + 2) (0 : Int)).getD b 0 = 0 := fun b => by simp [List.getD_eq_getElem?_getD, List.getElem?_replicate]; split <;> rfl
    rw [hg0] at hxg hyg
    have hamt : amtI n mv D F i = amt1 (shrI (F.getD i.1 0) mv) (qAt D (degN n) (edgesN n)[i.1].1) (qAt D (degN n) (edgesN n)[i.1].2) := rfl
    unfold qAt at hamt
    change 0 + 1 ≤ (degN n).getD _ 0 at hxg hyg
    have hdl := HFix.out.2.1.dl
    have hfl := HFix.out.2.1.fl
    have hdr := HFix.out.2.1.dr
    have hfr := HFix.out.2.1.fr
    obtain ⟨xn, hxn⟩ : ∃ x, x = (edgesN n)[i.1].1 := ⟨_, rfl⟩
    obtain ⟨yn, hyn⟩ : ∃ x, x = (edgesN n)[i.1].2 := ⟨_, rfl⟩
    rw [← hxn, ← hyn] at hR hE hamt ⊢
    rw [← hxn] at hxg
    rw [← hyn] at hyg
    obtain ⟨j, hj⟩ : ∃ x, x = i.1 := ⟨_, rfl⟩
    have hjl : j < F.length := by rw [hj, hfl]; exact i.2
    rw [← hj] at hamt ⊢
    obtain ⟨q1, q2, q3, q4, q5, q6⟩ := HK.out
    obtain ⟨dg, _, e1, _, _, hdc, hdm, hDa⟩ := q4.iat (by omega)
    obtain ⟨fg, _, e2, _, _, hfc, hfm, hFa⟩ := q5.iat (by omega)
    obtain ⟨gg, _, e3, _, _, hgc, hgm, hGa⟩ := q6.iat (by omega)
    injection e1 with e1 e1b e1c
    injection e2 with e2 e2b e2c
    injection e3 with e3 e3b e3c
    subst e1 e1b e1c e2 e2b e2c e3 e3b e3c
    have hxl : xn < D.length := by omega
    have hyl : yn < D.length := by omega
    have hsame : ∀ g, g < H → W.heap[g]? = W0.heap[g]? := fun g hg => hK.same g (by have := HN.out.1; have := HN.out.2.1; omega) (by omega) (by omega)
    have hcl : ∀ {g k : Nat} {v : Value}, g < H → W0.cell? ⟨g, k, none⟩ = some v → W.cell? ⟨g, k, none⟩ = some v := fun hg h => by rw [World.cell?_of_block (w := W0) (hsame _ hg)]; exact h
    have hdH := HKb.out.1 dg rfl
    have hfH := HKb.out.2.1 fg rfl
    have hgH := HKb.out.2.2 gg rfl
    have hsH : sb < H ∧ w.heap.size < H := by have := HN.out.2.2; omega
    have HS15 : Hid (S15 sb w.heap.size eb H dg gg fg n xn yn j (.slice (some ⟨dg, 0, none⟩) D.length dc) (.slice (some ⟨fg, 0, none⟩) F.length fc) (.slice (some ⟨gg, 0, none⟩) (degN n).length gc) fr sl mv D[xn] D[yn] (degN n)[xn] (degN n)[yn] F[j] W) :=
      ⟨q1.of_block (hsame _ hsH.1), q2.of_block (hsame _ hsH.2), hR, (Boxed.cell ((hK.same H (by have := HN.out.1; have := HN.out.2.1; omega) (by omega) (by omega)).trans q3)), hcl hdH (hDa xn hxl), hcl hdH (hDa yn hyl), hcl hgH (hGa xn (by omega)), hcl hgH (hGa yn (by omega)), hcl hfH (hFa j hjl)⟩
    have hgd : ∀ (l : List Int) (k : Nat) (h : k < l.length), l.getD k 0 = l[k] := fun l k h => by rw [List.getD_eq_getElem?_getD, List.getElem?_eq_getElem h]; rfl
    rw [hgd _ _ hjl, hgd _ _ hxl, hgd _ _ hyl, hgd _ _ (by omega), hgd _ _ (by omega)] at hamt
    rw [hgd _ _ (by omega)] at hxg hyg
    have b1 := hdr _ (List.getElem_mem hxl)
    have b2 := hdr _ (List.getElem_mem hyl)
    have b3 := hfr _ (List.getElem_mem hjl)
    have hbl2 : bl.length ≤ 9000 ∧ (pre.map (amtI n mv D F)).length ≤ 9000 := by
      have := edgesN_le HFix.out.1
      rw [hbl]
      simp at *
      omega
    have hmap : (pre ++ [i]).map (amtI n mv D F) = pre.map (amtI n mv D F) ++ [amtI n mv D F i] := by simp
    obtain ⟨FP, hFP⟩ : ∃ p : World → Prop, p = fun W' => KOth W W' ∧ (∃ av bv bl, Md 34 106 W' base (H + 1) (H + 1 + 1) av bv av bv ((pre ++ [i]).map (amtI n mv D F)) bl ∧ bl.length = ((pre ++ [i]).map (amtI n mv D F)).length) ∧ Kp2 base (H + 1) (H + 1 + 1) W0 W' ∧ Below w.heap.size W0 W' := ⟨_, rfl⟩
    refine wpIn_mono (Q := fun e _ W' => e = .normal ∧ FP W') ?_ (by rintro e a W' ⟨rfl, hk⟩; rw [hFP] at hk; exact KOth.post hk.1 hk.2)
    have hFP := Lib.hid (fun W' => congrFun hFP W')
    rw [hmap, hamt] at hFP
    generalize pre.map (amtI n mv D F) = al at *
    generalize D[xn] = d1 at *
    generalize D[yn] = d2 at *
    generalize (degN n)[xn] = g1 at *
    generalize (degN n)[yn] = g2 at *
    generalize F[j] = f1 at *
    have hxi : (xn : Int) < (D.length : Int) := by omega
    have hyi : (yn : Int) < (D.length : Int) := by omega
    have hxi2 : (xn : Int) < ((degN n).length : Int) := by omega
    have hyi2 : (yn : Int) < ((degN n).length : Int) := by omega
    have hji : (j : Int) < (F.length : Int) := by omega
    have hla := tdiv_bnd b1.1 b1.2 (y := g1) (by omega)
    have hlb := tdiv_bnd b2.1 b2.2 (y := g2) (by omega)
    have hwt := shrI_bnd (s := mv) b3.1 b3.2
    have hwa := IntWalk.i64_quo' d1 g1 ⟨by omega, by omega, by omega⟩
    have hwb := IntWalk.i64_quo' d2 g2 ⟨by omega, by omega, by omega⟩
    generalize hlae : d1.tdiv g1 = la at *
    generalize hlbe : d2.tdiv g2 = lb at *
    generalize hwte : shrI f1 mv = wt at *
    have HGe := Lib.hid (And.intro hlae (And.intro hlbe (And.intro hwte (And.intro hwa hwb))))
    have HG0 : Hid (g1 ≠ 0 ∧ g2 ≠ 0) := ⟨by omega, by omega⟩
    have HM := Lib.hid (And.intro hM (And.intro hbl hbl2))
    have HIx := Lib.hid (And.intro hxi (And.intro hyi (And.intro hxi2 (And.intro hyi2 hji))))
    have HKW := Lib.hid (And.intro hK hb)
    have HLo := Lib.hid hsH
    have HBd := Lib.hid (And.intro hla (And.intro hlb hwt))
    obtain ⟨cb, hcb⟩ : ∃ x, x = w.heap.size := ⟨_, rfl⟩
    rw [← hcb] at HS15
    rw [← hcb]
    clear hj hxn hyn hmap hamt q1 q2 q3 q4 q5 q6 hDa hFa hGa hdH hfH hgH hsame hcl hdr hfr hdl hfl hgl hgd hxg hyg hg0 hdgb hE b1 b2 b3 hla hlb hwt hwa hwb hlae hlbe hwte hM hbl hbl2 hK hb hxi hyi hxi2 hyi2 hji hsH hR hxl hyl hjl hdc hdm hfc hfm hgc hgm hcb hH hsb hsz hbase hs4
    generalize D.length = dn at HS15 HIx ⊢
    generalize (degN n).length = gn at HS15 HIx ⊢
    generalize F.length = fn at HS15 HIx ⊢
    simp only [List.setIfInBounds_toArray, List.set_cons_zero, List.set_cons_succ]
    refine wpIn_block (wpIn_seq ?_)
    refine wpIn_region_seqL (by kernel_rfl) (S15 sb cb eb H dg gg fg n xn yn j (.slice (some ⟨dg, 0, none⟩) dn dc) (.slice (some ⟨fg, 0, none⟩) fn fc) (.slice (some ⟨gg, 0, none⟩) gn gc) fr sl mv d1 d2 g1 g2 f1) 26 [(0, 0), (1, 1), (2, 0), (3, 1), (4, 0), (5, 1), (6, 1), (7, 0), (8, 1), (9, 0), (10, 1), (11, 0), (12, 0), (13, 1), (14, 0), (15, 1), (16, 0), (17, 1), (18, 1), (19, 0), (20, 1), (21, 0), (22, 1), (23, 0), (24, 0), (25, 2), (26, 2)] (by kernel_rfl) (HS15.out.below (Below.refl _ _).drew) ?_
    refine sl_q (d := some 41) rfl rfl rfl (.pointer (some ⟨sb, 1, none⟩)) (fun w => by go_simp) ?_
    simp only [ap_s, ap_n, ls_z, ls_s]
    refine sl_s (d := some 42) rfl rfl rfl (.slice (some ⟨dg, 0, none⟩) dn dc) (fun w hw => by have c := hw.s.at 1 rfl; simp [execOp, Act.eval, go_sem, c]) ?_
    simp only [ap_s, ap_n, ls_z, ls_s]
    refine sl_q (d := some 43) rfl rfl rfl (.pointer (some ⟨eb, 0, none⟩)) (fun w => by go_simp) ?_
    simp only [ap_s, ap_n, ls_z, ls_s]
    refine sl_s (d := some 44) rfl rfl rfl (.int .i64 (xn : Int)) (fun w hw => by have c := hw.e.at 0 rfl; simp [execOp, Act.eval, go_sem, c]) ?_
    simp only [ap_s, ap_n, ls_z, ls_s]
    refine sl_q (d := some 45) rfl rfl rfl (.pointer (some ⟨dg, xn, none⟩)) (fun w => by obtain ⟨i1, i2, i3, i4, i5⟩ := HIx.out; simp [execOp, Act.eval, go_sem, i1, i2, i3, i4, i5]) ?_
    simp only [ap_s, ap_n, ls_z, ls_s]
    refine sl_s (d := some 46) rfl rfl rfl (.int .i64 d1) (fun w hw => by have c := hw.d1; simp [execOp, Act.eval, go_sem, c]) ?_
    simp only [ap_s, ap_n, ls_z, ls_s]
    refine sl_s (d := some 47) rfl rfl rfl (.slice (some ⟨gg, 0, none⟩) gn gc) (fun w hw => by have c := hw.g; simp [execOp, Act.eval, go_sem, c]) ?_
    simp only [ap_s, ap_n, ls_z, ls_s]
    refine sl_q (d := some 48) rfl rfl rfl (.pointer (some ⟨eb, 0, none⟩)) (fun w => by go_simp) ?_
    simp only [ap_s, ap_n, ls_z, ls_s]
    refine sl_s (d := some 49) rfl rfl rfl (.int .i64 (xn : Int)) (fun w hw => by have c := hw.e.at 0 rfl; simp [execOp, Act.eval, go_sem, c]) ?_
    simp only [ap_s, ap_n, ls_z, ls_s]
    refine sl_q (d := some 50) rfl rfl rfl (.pointer (some ⟨gg, xn, none⟩)) (fun w => by obtain ⟨i1, i2, i3, i4, i5⟩ := HIx.out; simp [execOp, Act.eval, go_sem, i1, i2, i3, i4, i5]) ?_
    simp only [ap_s, ap_n, ls_z, ls_s]
    refine sl_s (d := some 51) rfl rfl rfl (.int .i64 g1) (fun w hw => by have c := hw.g1; simp [execOp, Act.eval, go_sem, c]) ?_
    simp only [ap_s, ap_n, ls_z, ls_s]
    refine sl_q (d := some 52) rfl rfl rfl (.int .i64 la) (fun w => by obtain ⟨k1, k2⟩ := HG0.out; obtain ⟨k3, k4, k5, k6, k7⟩ := HGe.out; simp [execOp, Act.eval, go_sem, k1, k2, k3, k4, k6, k7]) ?_
    simp only [ap_s, ap_n, ls_z, ls_s]
    refine sl_q (d := some 53) rfl rfl rfl (.pointer (some ⟨sb, 1, none⟩)) (fun w => by go_simp) ?_
    simp only [ap_s, ap_n, ls_z, ls_s]
    refine sl_s (d := some 54) rfl rfl rfl (.slice (some ⟨dg, 0, none⟩) dn dc) (fun w hw => by have c := hw.s.at 1 rfl; simp [execOp, Act.eval, go_sem, c]) ?_
    simp only [ap_s, ap_n, ls_z, ls_s]
    refine sl_q (d := some 55) rfl rfl rfl (.pointer (some ⟨eb, 1, none⟩)) (fun w => by go_simp) ?_
    simp only [ap_s, ap_n, ls_z, ls_s]
    refine sl_s (d := some 56) rfl rfl rfl (.int .i64 (yn : Int)) (fun w hw => by have c := hw.e.at 1 rfl; simp [execOp, Act.eval, go_sem, c]) ?_
    simp only [ap_s, ap_n, ls_z, ls_s]
    refine sl_q (d := some 57) rfl rfl rfl (.pointer (some ⟨dg, yn, none⟩)) (fun w => by obtain ⟨i1, i2, i3, i4, i5⟩ := HIx.out; simp [execOp, Act.eval, go_sem, i1, i2, i3, i4, i5]) ?_
    simp only [ap_s, ap_n, ls_z, ls_s]
    refine sl_s (d := some 58) rfl rfl rfl (.int .i64 d2) (fun w hw => by have c := hw.d2; simp [execOp, Act.eval, go_sem, c]) ?_
    simp only [ap_s, ap_n, ls_z, ls_s]
    refine sl_s (d := some 59) rfl rfl rfl (.slice (some ⟨gg, 0, none⟩) gn gc) (fun w hw => by have c := hw.g; simp [execOp, Act.eval, go_sem, c]) ?_
    simp only [ap_s, ap_n, ls_z, ls_s]
    refine sl_q (d := some 60) rfl rfl rfl (.pointer (some ⟨eb, 1, none⟩)) (fun w => by go_simp) ?_
    simp only [ap_s, ap_n, ls_z, ls_s]
    refine sl_s (d := some 61) rfl rfl rfl (.int .i64 (yn : Int)) (fun w hw => by have c := hw.e.at 1 rfl; simp [execOp, Act.eval, go_sem, c]) ?_
    simp only [ap_s, ap_n, ls_z, ls_s]
    refine sl_q (d := some 62) rfl rfl rfl (.pointer (some ⟨gg, yn, none⟩)) (fun w => by obtain ⟨i1, i2, i3, i4, i5⟩ := HIx.out; simp [execOp, Act.eval, go_sem, i1, i2, i3, i4, i5]) ?_
    simp only [ap_s, ap_n, ls_z, ls_s]
    refine sl_s (d := some 63) rfl rfl rfl (.int .i64 g2) (fun w hw => by have c := hw.g2; simp [execOp, Act.eval, go_sem, c]) ?_
    simp only [ap_s, ap_n, ls_z, ls_s]
    refine sl_q (d := some 64) rfl rfl rfl (.int .i64 lb) (fun w => by obtain ⟨k1, k2⟩ := HG0.out; obtain ⟨k3, k4, k5, k6, k7⟩ := HGe.out; simp [execOp, Act.eval, go_sem, k1, k2, k3, k4, k6, k7]) ?_
    simp only [ap_s, ap_n, ls_z, ls_s]
    refine sl_q (d := some 65) rfl rfl rfl (.agg #[.int .i64 la, .int .i64 lb]) (fun w => by simp [execOp, Act.eval, go_sem]) ?_
    simp only [ap_s, ap_n, ls_z, ls_s]
    refine sl_run (d := some 15) rfl rfl rfl (.pointer (some ⟨W.drew.heap.size, 0, none⟩)) (W.drew.alloc (.cells #[.int .i64 0, .int .i64 0] 62)) (by simp [execOp, Act.eval, go_sem]) (fun _ => (HS15.out.below (Below.refl _ _).drew).below ((Below.refl _ _).alloc (Nat.le_refl _) _)) ?_
    simp only [ap_s, ap_n, ls_z, ls_s]
    refine sl_rowst (d := none) rfl rfl rfl _ _ rfl W.drew.heap.size rfl [.int .i64 0, .int .i64 0] [.int .i64 la, .int .i64 lb] rfl (RowAt.new _ [.int .i64 0, .int .i64 0] (by simp) _ rfl) rfl rowT_2i (by intro v hv; simp at hv; rcases hv with rfl | rfl <;> rfl) ?_
    intro V1 hlm hap
    refine ⟨(fun h => by cases h), ?_⟩
    simp only [ap_s, ap_n, ls_z, ls_s]
    refine sl_endN ?_
    obtain ⟨lm, hlmd⟩ : ∃ x, x = W.drew.heap.size := ⟨_, rfl⟩
    rw [← hlmd] at hlm hap ⊢
    have hbw : Below W.heap.size W V1 := by
      have h := ((Below.refl W.heap.size W).drew.alloc (Nat.le_refl _) (.cells #[.int .i64 0, .int .i64 0] 62)).trans (hap.below (by rw [hlmd]; exact Nat.le_refl _))
      exact h
    have HS16 := Lib.hid (HS15.out.below hbw)
    have hlmn : ∀ v l, OwnI W base v l → v.ownBlock ≠ some lm := fun v l hv e => by have := (hv.lt lm e).2; have h2 : lm = W.heap.size := hlmd; omega
    have hRd := Rd.start (HM.out.1.below hbw) hlm (hlmn _ _ HM.out.1.oa) (hlmn _ _ HM.out.1.ob)
    have HRd := Lib.hid (hRd.below (Below.refl _ _).drew)
    have HKV : Hid (KOth W V1 ∧ Kp2 base (H + 1) (H + 1 + 1) W0 V1 ∧ Below w.heap.size W0 V1) := ⟨KOth.below hbw, HKW.out.1.trans (Kp2.below hbw HM.out.1.lo.2.2.2), HKW.out.2.trans (hbw.mono (by have := HM.out.1.lo.2.2.2; have := HN.out.1; have := HN.out.2.1; have := HN.out.2.2.2; omega))⟩
    have hmx : 0 ≤ mv := HMv.out
    have HMx : Hid (∀ x, shrI x mv = x.fdiv (2 ^ (min mv.toNat 64))) := fun x => rfl
    clear hbw hRd hlmn hlmd hlm hap HS15 HKW
    show Code.wpIn _ _ _ _ _ _ _
    refine wpIn_seq ?_
    refine wpIn_region_seq (by kernel_rfl) (S15 sb cb eb H dg gg fg n xn yn j (.slice (some ⟨dg, 0, none⟩) dn dc) (.slice (some ⟨fg, 0, none⟩) fn fc) (.slice (some ⟨gg, 0, none⟩) gn gc) fr sl mv d1 d2 g1 g2 f1) [(0, true), (1, true), (2, true), (3, true), (4, true), (5, true), (6, true), (7, true), (8, true)] (by kernel_rfl) (HS16.out.below (Below.refl _ _).drew) ?_
    refine seq_q (d := some 66) rfl rfl rfl (.pointer (some ⟨sb, 2, none⟩)) (fun w hw => by go_simp) ?_
    simp only [ap_s, ap_n, ls_z, ls_s]
    refine seq_q (d := some 67) rfl rfl rfl (.slice (some ⟨fg, 0, none⟩) fn fc) (fun w hw => by have c := hw.s.at 2 rfl; simp [execOp, Act.eval, go_sem, c]) ?_
    simp only [ap_s, ap_n, ls_z, ls_s]
    refine seq_q (d := some 68) rfl rfl rfl (.int .i64 (j : Int)) (fun w hw => rfl) ?_
    simp only [ap_s, ap_n, ls_z, ls_s]
    refine seq_q (d := some 69) rfl rfl rfl (.pointer (some ⟨fg, j, none⟩)) (fun w hw => by obtain ⟨i1, i2, i3, i4, i5⟩ := HIx.out; simp [execOp, Act.eval, go_sem, i1, i2, i3, i4, i5]) ?_
    simp only [ap_s, ap_n, ls_z, ls_s]
    refine seq_q (d := some 70) rfl rfl rfl (.int .i64 f1) (fun w hw => by have c := hw.f1; simp [execOp, Act.eval, go_sem, c]) ?_
    simp only [ap_s, ap_n, ls_z, ls_s]
    refine seq_q (d := some 71) rfl rfl rfl (.pointer (some ⟨cb, 2, none⟩)) (fun w hw => by go_simp) ?_
    simp only [ap_s, ap_n, ls_z, ls_s]
    refine seq_q (d := some 72) rfl rfl rfl (.int .i64 mv) (fun w hw => by have c := hw.c.at 2 rfl; simp [execOp, Act.eval, go_sem, c]) ?_
    simp only [ap_s, ap_n, ls_z, ls_s]
    refine seq_q (d := some 73) rfl rfl rfl (.int .i64 wt) (fun w hw => by have h1 := HMx.out f1; have h2 : ¬ mv < 0 := (by omega); rw [HGe.out.2.2.1] at h1; simp [execOp, Act.eval, go_sem, Op.shift, h1, h2]) ?_
    simp only [ap_s, ap_n, ls_z, ls_s]
    refine seq_q (d := some 16) rfl rfl rfl (.int .i64 wt) (fun w hw => rfl) ?_
    simp only [ap_s, ap_n, ls_z, ls_s]
    refine seq_endN ?_
    show Code.wpIn _ _ _ _ _ _ _
    obtain ⟨V2, hV2⟩ : ∃ u, u = V1.drew := ⟨_, rfl⟩
    rw [← hV2] at HRd ⊢
    have HKV2 : Hid (KOth W V2 ∧ Kp2 base (H + 1) (H + 1 + 1) W0 V2 ∧ Below w.heap.size W0 V2) := by rw [hV2]; exact ⟨⟨HKV.out.1.size, HKV.out.1.same⟩, ⟨⟨HKV.out.2.1.oth.size, HKV.out.2.1.oth.same⟩, HKV.out.2.1.same⟩, HKV.out.2.2.drew⟩
    have HRd2 : Hid (Rd 34 106 V2 V2 base (H + 1) (H + 1 + 1) lm av bv av bv al bl la lb none none) := Rd.start HRd.out.md HRd.out.lr.1 HRd.out.lr.2.1 HRd.out.lr.2.2
    have cl0 := HRd2.out.lr.1.at 0 rfl
    have cl1 := HRd2.out.lr.1.at 1 rfl
    have HLen : Hid (al.length ≤ 1000000 ∧ bl.length ≤ 1000000 ∧ bl.length = al.length ∧ w.heap.size ≤ H + 1) := ⟨by have := HM.out.2.2; omega, by have := HM.out.2.2; omega, HM.out.2.1, by have := HN.out.2.2.2; omega⟩
    have hb10 := HBd.out.2.1
    clear hV2 HRd HKV HS16 HM HMx hmx
    by_cases h1 : la < wt
    · have HAm : Hid (amt1 wt la lb = la) := by unfold Hid amt1; rw [if_pos h1]
      gi_wp2
      refine region_cutIn FP ?_ (fun a w' h => by gi_wp2; exact ⟨trivial, h⟩)
      have HRd3 := Lib.hid (HRd2.out.below (Below.refl _ _).drew)
      refine wpIn_region_treeU (by kernel_rfl) (S19 (H + 1) (H + 1 + 1) lm av bv la lb) 8 (.q 0 1 (.q 1 0 (.q 2 1 (.q 5 1 (.fork (.e 3 (.fork (.e 4 (.e 6 (.e 7 (.e 8 (.e 9 (.nil)))))) (.e 6 (.e 4 (.e 7 (.e 8 (.e 9 (.nil)))))))) (.e 6 (.e 3 (.e 4 (.e 7 (.e 8 (.e 9 (.nil)))))))))))) (by kernel_rfl) ((HRd2.out.below (Below.refl _ _).drew).s) ?_
      refine tu_s (d := some 86) rfl rfl rfl (av) (fun w hw => by have c := hw.1; simp [execOp, Act.eval, go_sem, c]) ?_
      simp only [ap_s, ap_n, ls_z, ls_s]
      refine tu_q (d := some 87) rfl rfl rfl (.pointer (some ⟨lm, 0, none⟩)) (fun w => by simp [execOp, Act.eval, go_sem]) ?_
      simp only [ap_s, ap_n, ls_z, ls_s]
      refine tu_s (d := some 88) rfl rfl rfl (.int .i64 la) (fun w hw => by have c := hw.2.2.at 0 rfl; simp [execOp, Act.eval, go_sem, c]) ?_
      simp only [ap_s, ap_n, ls_z, ls_s]
      refine tu_s (d := some 91) rfl rfl rfl (bv) (fun w hw => by have c := hw.2.1; simp [execOp, Act.eval, go_sem, c]) ?_
      simp only [ap_s, ap_n, ls_z, ls_s]
      refine tu_fork ?_ ?_
      · have HU0 := Lib.hid (HRd3.out.lita (la))
        obtain ⟨u0, hu0⟩ : ∃ u, u = V2.drew.alloc (.cells #[.int .i64 (la)] 3) := ⟨_, rfl⟩
        obtain ⟨ka, hka⟩ : ∃ k, k = V2.drew.heap.size := ⟨_, rfl⟩
        rw [← hu0, ← hka] at HU0
        refine tu_run (d := some 89) rfl rfl rfl (.slice (some ⟨ka, 0, none⟩) 1 1) u0 (by rw [hu0, hka]; simp [execOp, Act.eval, go_sem, Instr.buildSlice]) (fun _ => HU0.out.s) ?_
        simp only [ap_s, ap_n, ls_z, ls_s]
        clear hu0 hka HRd3
        refine tu_fork ?_ ?_
        · obtain ⟨xaa, xna, xca, u1, hr, hR⟩ := HU0.out.appa 34 34 Tryz.underlying34 HLen.out.1
          have HU1 := Lib.hid hR
          have HApp := Lib.hid hr
          clear hr hR HU0
          refine tu_run (d := some 90) rfl rfl rfl (.slice xaa xna xca) u1 (run_append _ _ _ rfl _ _ rfl rfl HApp.out) (fun _ => HU1.out.s) ?_
          simp only [ap_s, ap_n, ls_z, ls_s]
          clear HApp
          have HU2 := Lib.hid (HU1.out.litb (1))
          obtain ⟨u2, hu2⟩ : ∃ u, u = u1.alloc (.cells #[.int .i64 (1)] 3) := ⟨_, rfl⟩
          obtain ⟨kb, hkb⟩ : ∃ k, k = u1.heap.size := ⟨_, rfl⟩
          rw [← hu2, ← hkb] at HU2
          refine tu_run (d := some 92) rfl rfl rfl (.slice (some ⟨kb, 0, none⟩) 1 1) u2 (by rw [hu2, hkb]; simp [execOp, Act.eval, go_sem, Instr.buildSlice]) (fun _ => HU2.out.s) ?_
          simp only [ap_s, ap_n, ls_z, ls_s]
          clear hu2 hkb HU1
          obtain ⟨xab, xnb, xcb, u3, hr, hR⟩ := HU2.out.appb 106 106 Tryz.underlying106 HLen.out.2.1
          have HU3 := Lib.hid hR
          have HApp := Lib.hid hr
          clear hr hR HU2
          refine tu_run (d := some 93) rfl rfl rfl (.slice xab xnb xcb) u3 (run_append _ _ _ rfl _ _ rfl rfl HApp.out) (fun _ => HU3.out.s) ?_
          simp only [ap_s, ap_n, ls_z, ls_s]
          clear HApp
          refine tu_skip (d := none) rfl rfl rfl (u3.setCell ⟨H + 1, 0, none⟩ (.slice xaa xna xca)) (by have c := HU3.out.md.xa.cell; have f := HU3.out.md.xa.frozen; simp [execOp, Act.eval, go_sem, c, f]) (fun h => absurd h (by decide)) ?_
          simp only [ap_s, ap_n, ls_z, ls_s]
          have HSb := Lib.hid (HU3.out.md.store (by decide) (.slice xaa xna xca)).1
          refine tu_skip (d := none) rfl rfl rfl ((u3.setCell ⟨H + 1, 0, none⟩ (.slice xaa xna xca)).setCell ⟨H + 1 + 1, 0, none⟩ (.slice xab xnb xcb)) (by have c := HSb.out.xb.cell; have f := HSb.out.xb.frozen; simp [execOp, Act.eval, go_sem, c, f]) (fun h => absurd h (by decide)) ?_
          simp only [ap_s, ap_n, ls_z, ls_s]
          refine tu_endN ?_
          have HF := Lib.hid (HU3.out.fin ⟨by decide, by decide⟩ w.heap.size ⟨HLen.out.2.2.2, by have := HLen.out.2.2.2; omega⟩ rfl rfl)
          clear HSb HU3
          obtain ⟨f1, f2, f3⟩ := HF.out
          refine ⟨rfl, ?_⟩
          rw [hFP.out]
          exact ⟨HKV2.out.1.trans f2.oth, ⟨_, _, _, (by rw [HAm.out]; exact f1), by simp [HLen.out.2.2.1]⟩, HKV2.out.2.1.trans f2, HKV2.out.2.2.trans f3⟩
        · have HU1 := Lib.hid (HU0.out.litb (1))
          obtain ⟨u1, hu1⟩ : ∃ u, u = u0.alloc (.cells #[.int .i64 (1)] 3) := ⟨_, rfl⟩
          obtain ⟨kb, hkb⟩ : ∃ k, k = u0.heap.size := ⟨_, rfl⟩
          rw [← hu1, ← hkb] at HU1
          refine tu_run (d := some 92) rfl rfl rfl (.slice (some ⟨kb, 0, none⟩) 1 1) u1 (by rw [hu1, hkb]; simp [execOp, Act.eval, go_sem, Instr.buildSlice]) (fun _ => HU1.out.s) ?_
          simp only [ap_s, ap_n, ls_z, ls_s]
          clear hu1 hkb HU0
          obtain ⟨xaa, xna, xca, u2, hr, hR⟩ := HU1.out.appa 34 34 Tryz.underlying34 HLen.out.1
          have HU2 := Lib.hid hR
          have HApp := Lib.hid hr
          clear hr hR HU1
          refine tu_run (d := some 90) rfl rfl rfl (.slice xaa xna xca) u2 (run_append _ _ _ rfl _ _ rfl rfl HApp.out) (fun _ => HU2.out.s) ?_
          simp only [ap_s, ap_n, ls_z, ls_s]
          clear HApp
          obtain ⟨xab, xnb, xcb, u3, hr, hR⟩ := HU2.out.appb 106 106 Tryz.underlying106 HLen.out.2.1
          have HU3 := Lib.hid hR
          have HApp := Lib.hid hr
          clear hr hR HU2
          refine tu_run (d := some 93) rfl rfl rfl (.slice xab xnb xcb) u3 (run_append _ _ _ rfl _ _ rfl rfl HApp.out) (fun _ => HU3.out.s) ?_
          simp only [ap_s, ap_n, ls_z, ls_s]
          clear HApp
          refine tu_skip (d := none) rfl rfl rfl (u3.setCell ⟨H + 1, 0, none⟩ (.slice xaa xna xca)) (by have c := HU3.out.md.xa.cell; have f := HU3.out.md.xa.frozen; simp [execOp, Act.eval, go_sem, c, f]) (fun h => absurd h (by decide)) ?_
          simp only [ap_s, ap_n, ls_z, ls_s]
          have HSb := Lib.hid (HU3.out.md.store (by decide) (.slice xaa xna xca)).1
          refine tu_skip (d := none) rfl rfl rfl ((u3.setCell ⟨H + 1, 0, none⟩ (.slice xaa xna xca)).setCell ⟨H + 1 + 1, 0, none⟩ (.slice xab xnb xcb)) (by have c := HSb.out.xb.cell; have f := HSb.out.xb.frozen; simp [execOp, Act.eval, go_sem, c, f]) (fun h => absurd h (by decide)) ?_
          simp only [ap_s, ap_n, ls_z, ls_s]
          refine tu_endN ?_
          have HF := Lib.hid (HU3.out.fin ⟨by decide, by decide⟩ w.heap.size ⟨HLen.out.2.2.2, by have := HLen.out.2.2.2; omega⟩ rfl rfl)
          clear HSb HU3
          obtain ⟨f1, f2, f3⟩ := HF.out
          refine ⟨rfl, ?_⟩
          rw [hFP.out]
          exact ⟨HKV2.out.1.trans f2.oth, ⟨_, _, _, (by rw [HAm.out]; exact f1), by simp [HLen.out.2.2.1]⟩, HKV2.out.2.1.trans f2, HKV2.out.2.2.trans f3⟩
      · have HU0 := Lib.hid (HRd3.out.litb (1))
        obtain ⟨u0, hu0⟩ : ∃ u, u = V2.drew.alloc (.cells #[.int .i64 (1)] 3) := ⟨_, rfl⟩
        obtain ⟨kb, hkb⟩ : ∃ k, k = V2.drew.heap.size := ⟨_, rfl⟩
        rw [← hu0, ← hkb] at HU0
        refine tu_run (d := some 92) rfl rfl rfl (.slice (some ⟨kb, 0, none⟩) 1 1) u0 (by rw [hu0, hkb]; simp [execOp, Act.eval, go_sem, Instr.buildSlice]) (fun _ => HU0.out.s) ?_
        simp only [ap_s, ap_n, ls_z, ls_s]
        clear hu0 hkb HRd3
        have HU1 := Lib.hid (HU0.out.lita (la))
        obtain ⟨u1, hu1⟩ : ∃ u, u = u0.alloc (.cells #[.int .i64 (la)] 3) := ⟨_, rfl⟩
        obtain ⟨ka, hka⟩ : ∃ k, k = u0.heap.size := ⟨_, rfl⟩
        rw [← hu1, ← hka] at HU1
        refine tu_run (d := some 89) rfl rfl rfl (.slice (some ⟨ka, 0, none⟩) 1 1) u1 (by rw [hu1, hka]; simp [execOp, Act.eval, go_sem, Instr.buildSlice]) (fun _ => HU1.out.s) ?_
        simp only [ap_s, ap_n, ls_z, ls_s]
        clear hu1 hka HU0
        obtain ⟨xaa, xna, xca, u2, hr, hR⟩ := HU1.out.appa 34 34 Tryz.underlying34 HLen.out.1
        have HU2 := Lib.hid hR
        have HApp := Lib.hid hr
        clear hr hR HU1
        refine tu_run (d := some 90) rfl rfl rfl (.slice xaa xna xca) u2 (run_append _ _ _ rfl _ _ rfl rfl HApp.out) (fun _ => HU2.out.s) ?_
        simp only [ap_s, ap_n, ls_z, ls_s]
        clear HApp
        obtain ⟨xab, xnb, xcb, u3, hr, hR⟩ := HU2.out.appb 106 106 Tryz.underlying106 HLen.out.2.1
        have HU3 := Lib.hid hR
        have HApp := Lib.hid hr
        clear hr hR HU2
        refine tu_run (d := some 93) rfl rfl rfl (.slice xab xnb xcb) u3 (run_append _ _ _ rfl _ _ rfl rfl HApp.out) (fun _ => HU3.out.s) ?_
        simp only [ap_s, ap_n, ls_z, ls_s]
        clear HApp
        refine tu_skip (d := none) rfl rfl rfl (u3.setCell ⟨H + 1, 0, none⟩ (.slice xaa xna xca)) (by have c := HU3.out.md.xa.cell; have f := HU3.out.md.xa.frozen; simp [execOp, Act.eval, go_sem, c, f]) (fun h => absurd h (by decide)) ?_
        simp only [ap_s, ap_n, ls_z, ls_s]
        have HSb := Lib.hid (HU3.out.md.store (by decide) (.slice xaa xna xca)).1
        refine tu_skip (d := none) rfl rfl rfl ((u3.setCell ⟨H + 1, 0, none⟩ (.slice xaa xna xca)).setCell ⟨H + 1 + 1, 0, none⟩ (.slice xab xnb xcb)) (by have c := HSb.out.xb.cell; have f := HSb.out.xb.frozen; simp [execOp, Act.eval, go_sem, c, f]) (fun h => absurd h (by decide)) ?_
        simp only [ap_s, ap_n, ls_z, ls_s]
        refine tu_endN ?_
        have HF := Lib.hid (HU3.out.fin ⟨by decide, by decide⟩ w.heap.size ⟨HLen.out.2.2.2, by have := HLen.out.2.2.2; omega⟩ rfl rfl)
        clear HSb HU3
        obtain ⟨f1, f2, f3⟩ := HF.out
        refine ⟨rfl, ?_⟩
        rw [hFP.out]
        exact ⟨HKV2.out.1.trans f2.oth, ⟨_, _, _, (by rw [HAm.out]; exact f1), by simp [HLen.out.2.2.1]⟩, HKV2.out.2.1.trans f2, HKV2.out.2.2.trans f3⟩
    · by_cases h2 : wt < -lb
      · have HAm : Hid (amt1 wt la lb = -lb) := by unfold Hid amt1; rw [if_neg h1, if_pos h2]
        gi_wp2
        refine region_cutIn FP ?_ (fun a w' h => by gi_wp2; exact ⟨trivial, h⟩)
        have HRd3 := Lib.hid (HRd2.out.below (Below.refl _ _).drew)
        refine wpIn_region_treeU (by kernel_rfl) (S19 (H + 1) (H + 1 + 1) lm av bv la lb) 9 (.q 0 1 (.q 1 0 (.q 2 1 (.q 3 0 (.q 6 1 (.fork (.e 4 (.fork (.e 5 (.e 7 (.e 8 (.e 9 (.e 10 (.nil)))))) (.e 7 (.e 5 (.e 8 (.e 9 (.e 10 (.nil)))))))) (.e 7 (.e 4 (.e 5 (.e 8 (.e 9 (.e 10 (.nil))))))))))))) (by kernel_rfl) ((HRd2.out.below (Below.refl _ _).drew).s) ?_
        refine tu_s (d := some 100) rfl rfl rfl (av) (fun w hw => by have c := hw.1; simp [execOp, Act.eval, go_sem, c]) ?_
        simp only [ap_s, ap_n, ls_z, ls_s]
        refine tu_q (d := some 101) rfl rfl rfl (.pointer (some ⟨lm, 1, none⟩)) (fun w => by simp [execOp, Act.eval, go_sem]) ?_
        simp only [ap_s, ap_n, ls_z, ls_s]
        refine tu_s (d := some 102) rfl rfl rfl (.int .i64 lb) (fun w hw => by have c := hw.2.2.at 1 rfl; simp [execOp, Act.eval, go_sem, c]) ?_
        simp only [ap_s, ap_n, ls_z, ls_s]
        refine tu_q (d := some 103) rfl rfl rfl (.int .i64 (-lb)) (fun w => by obtain ⟨l1, l2⟩ := hb10; have c := IntWalk.i64_in (-lb) (by omega); simp [execOp, Act.eval, go_sem, c]) ?_
        simp only [ap_s, ap_n, ls_z, ls_s]
        refine tu_s (d := some 106) rfl rfl rfl (bv) (fun w hw => by have c := hw.2.1; simp [execOp, Act.eval, go_sem, c]) ?_
        simp only [ap_s, ap_n, ls_z, ls_s]
        refine tu_fork ?_ ?_
        · have HU0 := Lib.hid (HRd3.out.lita (-lb))
          obtain ⟨u0, hu0⟩ : ∃ u, u = V2.drew.alloc (.cells #[.int .i64 (-lb)] 3) := ⟨_, rfl⟩
          obtain ⟨ka, hka⟩ : ∃ k, k = V2.drew.heap.size := ⟨_, rfl⟩
          rw [← hu0, ← hka] at HU0
          refine tu_run (d := some 104) rfl rfl rfl (.slice (some ⟨ka, 0, none⟩) 1 1) u0 (by rw [hu0, hka]; simp [execOp, Act.eval, go_sem, Instr.buildSlice]) (fun _ => HU0.out.s) ?_
          simp only [ap_s, ap_n, ls_z, ls_s]
          clear hu0 hka HRd3
          refine tu_fork ?_ ?_
          · obtain ⟨xaa, xna, xca, u1, hr, hR⟩ := HU0.out.appa 34 34 Tryz.underlying34 HLen.out.1
            have HU1 := Lib.hid hR
            have HApp := Lib.hid hr
            clear hr hR HU0
            refine tu_run (d := some 105) rfl rfl rfl (.slice xaa xna xca) u1 (run_append _ _ _ rfl _ _ rfl rfl HApp.out) (fun _ => HU1.out.s) ?_
            simp only [ap_s, ap_n, ls_z, ls_s]
            clear HApp
            have HU2 := Lib.hid (HU1.out.litb (-1))
            obtain ⟨u2, hu2⟩ : ∃ u, u = u1.alloc (.cells #[.int .i64 (-1)] 3) := ⟨_, rfl⟩
            obtain ⟨kb, hkb⟩ : ∃ k, k = u1.heap.size := ⟨_, rfl⟩
            rw [← hu2, ← hkb] at HU2
            refine tu_run (d := some 107) rfl rfl rfl (.slice (some ⟨kb, 0, none⟩) 1 1) u2 (by rw [hu2, hkb]; simp [execOp, Act.eval, go_sem, Instr.buildSlice]) (fun _ => HU2.out.s) ?_
            simp only [ap_s, ap_n, ls_z, ls_s]
            clear hu2 hkb HU1
            obtain ⟨xab, xnb, xcb, u3, hr, hR⟩ := HU2.out.appb 106 106 Tryz.underlying106 HLen.out.2.1
            have HU3 := Lib.hid hR
            have HApp := Lib.hid hr
            clear hr hR HU2
            refine tu_run (d := some 108) rfl rfl rfl (.slice xab xnb xcb) u3 (run_append _ _ _ rfl _ _ rfl rfl HApp.out) (fun _ => HU3.out.s) ?_
            simp only [ap_s, ap_n, ls_z, ls_s]
            clear HApp
            refine tu_skip (d := none) rfl rfl rfl (u3.setCell ⟨H + 1, 0, none⟩ (.slice xaa xna xca)) (by have c := HU3.out.md.xa.cell; have f := HU3.out.md.xa.frozen; simp [execOp, Act.eval, go_sem, c, f]) (fun h => absurd h (by decide)) ?_
            simp only [ap_s, ap_n, ls_z, ls_s]
            have HSb := Lib.hid (HU3.out.md.store (by decide) (.slice xaa xna xca)).1
            refine tu_skip (d := none) rfl rfl rfl ((u3.setCell ⟨H + 1, 0, none⟩ (.slice xaa xna xca)).setCell ⟨H + 1 + 1, 0, none⟩ (.slice xab xnb xcb)) (by have c := HSb.out.xb.cell; have f := HSb.out.xb.frozen; simp [execOp, Act.eval, go_sem, c, f]) (fun h => absurd h (by decide)) ?_
            simp only [ap_s, ap_n, ls_z, ls_s]
            refine tu_endN ?_
            have HF := Lib.hid (HU3.out.fin ⟨by decide, by decide⟩ w.heap.size ⟨HLen.out.2.2.2, by have := HLen.out.2.2.2; omega⟩ rfl rfl)
            clear HSb HU3
            obtain ⟨f1, f2, f3⟩ := HF.out
            refine ⟨rfl, ?_⟩
            rw [hFP.out]
            exact ⟨HKV2.out.1.trans f2.oth, ⟨_, _, _, (by rw [HAm.out]; exact f1), by simp [HLen.out.2.2.1]⟩, HKV2.out.2.1.trans f2, HKV2.out.2.2.trans f3⟩
          · have HU1 := Lib.hid (HU0.out.litb (-1))
            obtain ⟨u1, hu1⟩ : ∃ u, u = u0.alloc (.cells #[.int .i64 (-1)] 3) := ⟨_, rfl⟩
            obtain ⟨kb, hkb⟩ : ∃ k, k = u0.heap.size := ⟨_, rfl⟩
            rw [← hu1, ← hkb] at HU1
            refine tu_run (d := some 107) rfl rfl rfl (.slice (some ⟨kb, 0, none⟩) 1 1) u1 (by rw [hu1, hkb]; simp [execOp, Act.eval, go_sem, Instr.buildSlice]) (fun _ => HU1.out.s) ?_
            simp only [ap_s, ap_n, ls_z, ls_s]
            clear hu1 hkb HU0
            obtain ⟨xaa, xna, xca, u2, hr, hR⟩ := HU1.out.appa 34 34 Tryz.underlying34 HLen.out.1
            have HU2 := Lib.hid hR
            have HApp := Lib.hid hr
            clear hr hR HU1
            refine tu_run (d := some 105) rfl rfl rfl (.slice xaa xna xca) u2 (run_append _ _ _ rfl _ _ rfl rfl HApp.out) (fun _ => HU2.out.s) ?_
            simp only [ap_s, ap_n, ls_z, ls_s]
            clear HApp
            obtain ⟨xab, xnb, xcb, u3, hr, hR⟩ := HU2.out.appb 106 106 Tryz.underlying106 HLen.out.2.1
            have HU3 := Lib.hid hR
            have HApp := Lib.hid hr
            clear hr hR HU2
            refine tu_run (d := some 108) rfl rfl rfl (.slice xab xnb xcb) u3 (run_append _ _ _ rfl _ _ rfl rfl HApp.out) (fun _ => HU3.out.s) ?_
            simp only [ap_s, ap_n, ls_z, ls_s]
            clear HApp
            refine tu_skip (d := none) rfl rfl rfl (u3.setCell ⟨H + 1, 0, none⟩ (.slice xaa xna xca)) (by have c := HU3.out.md.xa.cell; have f := HU3.out.md.xa.frozen; simp [execOp, Act.eval, go_sem, c, f]) (fun h => absurd h (by decide)) ?_
            simp only [ap_s, ap_n, ls_z, ls_s]
            have HSb := Lib.hid (HU3.out.md.store (by decide) (.slice xaa xna xca)).1
            refine tu_skip (d := none) rfl rfl rfl ((u3.setCell ⟨H + 1, 0, none⟩ (.slice xaa xna xca)).setCell ⟨H + 1 + 1, 0, none⟩ (.slice xab xnb xcb)) (by have c := HSb.out.xb.cell; have f := HSb.out.xb.frozen; simp [execOp, Act.eval, go_sem, c, f]) (fun h => absurd h (by decide)) ?_
            simp only [ap_s, ap_n, ls_z, ls_s]
            refine tu_endN ?_
            have HF := Lib.hid (HU3.out.fin ⟨by decide, by decide⟩ w.heap.size ⟨HLen.out.2.2.2, by have := HLen.out.2.2.2; omega⟩ rfl rfl)
            clear HSb HU3
            obtain ⟨f1, f2, f3⟩ := HF.out
            refine ⟨rfl, ?_⟩
            rw [hFP.out]
            exact ⟨HKV2.out.1.trans f2.oth, ⟨_, _, _, (by rw [HAm.out]; exact f1), by simp [HLen.out.2.2.1]⟩, HKV2.out.2.1.trans f2, HKV2.out.2.2.trans f3⟩
        · have HU0 := Lib.hid (HRd3.out.litb (-1))
          obtain ⟨u0, hu0⟩ : ∃ u, u = V2.drew.alloc (.cells #[.int .i64 (-1)] 3) := ⟨_, rfl⟩
          obtain ⟨kb, hkb⟩ : ∃ k, k = V2.drew.heap.size := ⟨_, rfl⟩
          rw [← hu0, ← hkb] at HU0
          refine tu_run (d := some 107) rfl rfl rfl (.slice (some ⟨kb, 0, none⟩) 1 1) u0 (by rw [hu0, hkb]; simp [execOp, Act.eval, go_sem, Instr.buildSlice]) (fun _ => HU0.out.s) ?_
          simp only [ap_s, ap_n, ls_z, ls_s]
          clear hu0 hkb HRd3
          have HU1 := Lib.hid (HU0.out.lita (-lb))
          obtain ⟨u1, hu1⟩ : ∃ u, u = u0.alloc (.cells #[.int .i64 (-lb)] 3) := ⟨_, rfl⟩
          obtain ⟨ka, hka⟩ : ∃ k, k = u0.heap.size := ⟨_, rfl⟩
          rw [← hu1, ← hka] at HU1
          refine tu_run (d := some 104) rfl rfl rfl (.slice (some ⟨ka, 0, none⟩) 1 1) u1 (by rw [hu1, hka]; simp [execOp, Act.eval, go_sem, Instr.buildSlice]) (fun _ => HU1.out.s) ?_
          simp only [ap_s, ap_n, ls_z, ls_s]
          clear hu1 hka HU0
          obtain ⟨xaa, xna, xca, u2, hr, hR⟩ := HU1.out.appa 34 34 Tryz.underlying34 HLen.out.1
          have HU2 := Lib.hid hR
          have HApp := Lib.hid hr
          clear hr hR HU1
          refine tu_run (d := some 105) rfl rfl rfl (.slice xaa xna xca) u2 (run_append _ _ _ rfl _ _ rfl rfl HApp.out) (fun _ => HU2.out.s) ?_
          simp only [ap_s, ap_n, ls_z, ls_s]
          clear HApp
          obtain ⟨xab, xnb, xcb, u3, hr, hR⟩ := HU2.out.appb 106 106 Tryz.underlying106 HLen.out.2.1
          have HU3 := Lib.hid hR
          have HApp := Lib.hid hr
          clear hr hR HU2
          refine tu_run (d := some 108) rfl rfl rfl (.slice xab xnb xcb) u3 (run_append _ _ _ rfl _ _ rfl rfl HApp.out) (fun _ => HU3.out.s) ?_
          simp only [ap_s, ap_n, ls_z, ls_s]
          clear HApp
          refine tu_skip (d := none) rfl rfl rfl (u3.setCell ⟨H + 1, 0, none⟩ (.slice xaa xna xca)) (by have c := HU3.out.md.xa.cell; have f := HU3.out.md.xa.frozen; simp [execOp, Act.eval, go_sem, c, f]) (fun h => absurd h (by decide)) ?_
          simp only [ap_s, ap_n, ls_z, ls_s]
          have HSb := Lib.hid (HU3.out.md.store (by decide) (.slice xaa xna xca)).1
          refine tu_skip (d := none) rfl rfl rfl ((u3.setCell ⟨H + 1, 0, none⟩ (.slice xaa xna xca)).setCell ⟨H + 1 + 1, 0, none⟩ (.slice xab xnb xcb)) (by have c := HSb.out.xb.cell; have f := HSb.out.xb.frozen; simp [execOp, Act.eval, go_sem, c, f]) (fun h => absurd h (by decide)) ?_
          simp only [ap_s, ap_n, ls_z, ls_s]
          refine tu_endN ?_
          have HF := Lib.hid (HU3.out.fin ⟨by decide, by decide⟩ w.heap.size ⟨HLen.out.2.2.2, by have := HLen.out.2.2.2; omega⟩ rfl rfl)
          clear HSb HU3
          obtain ⟨f1, f2, f3⟩ := HF.out
          refine ⟨rfl, ?_⟩
          rw [hFP.out]
          exact ⟨HKV2.out.1.trans f2.oth, ⟨_, _, _, (by rw [HAm.out]; exact f1), by simp [HLen.out.2.2.1]⟩, HKV2.out.2.1.trans f2, HKV2.out.2.2.trans f3⟩
      · have HAm : Hid (amt1 wt la lb = wt) := by unfold Hid amt1; rw [if_neg h1, if_neg h2]
        gi_wp2
        refine region_cutIn FP ?_ (fun a w' h => by gi_wp2; exact ⟨trivial, h⟩)
        have HRd3 := Lib.hid (HRd2.out.below (Below.refl _ _).drew)
        refine wpIn_region_treeU (by kernel_rfl) (S19 (H + 1) (H + 1 + 1) lm av bv la lb) 7 (.q 0 1 (.q 1 0 (.q 4 1 (.fork (.e 2 (.fork (.e 3 (.e 5 (.e 6 (.e 7 (.e 8 (.nil)))))) (.e 5 (.e 3 (.e 6 (.e 7 (.e 8 (.nil)))))))) (.e 5 (.e 2 (.e 3 (.e 6 (.e 7 (.e 8 (.nil))))))))))) (by kernel_rfl) ((HRd2.out.below (Below.refl _ _).drew).s) ?_
        refine tu_s (d := some 74) rfl rfl rfl (av) (fun w hw => by have c := hw.1; simp [execOp, Act.eval, go_sem, c]) ?_
        simp only [ap_s, ap_n, ls_z, ls_s]
        refine tu_q (d := some 75) rfl rfl rfl (.int .i64 wt) (fun w => rfl) ?_
        simp only [ap_s, ap_n, ls_z, ls_s]
        refine tu_s (d := some 78) rfl rfl rfl (bv) (fun w hw => by have c := hw.2.1; simp [execOp, Act.eval, go_sem, c]) ?_
        simp only [ap_s, ap_n, ls_z, ls_s]
        refine tu_fork ?_ ?_
        · have HU0 := Lib.hid (HRd3.out.lita (wt))
          obtain ⟨u0, hu0⟩ : ∃ u, u = V2.drew.alloc (.cells #[.int .i64 (wt)] 3) := ⟨_, rfl⟩
          obtain ⟨ka, hka⟩ : ∃ k, k = V2.drew.heap.size := ⟨_, rfl⟩
          rw [← hu0, ← hka] at HU0
          refine tu_run (d := some 76) rfl rfl rfl (.slice (some ⟨ka, 0, none⟩) 1 1) u0 (by rw [hu0, hka]; simp [execOp, Act.eval, go_sem, Instr.buildSlice]) (fun _ => HU0.out.s) ?_
          simp only [ap_s, ap_n, ls_z, ls_s]
          clear hu0 hka HRd3
          refine tu_fork ?_ ?_
          · obtain ⟨xaa, xna, xca, u1, hr, hR⟩ := HU0.out.appa 34 34 Tryz.underlying34 HLen.out.1
            have HU1 := Lib.hid hR
            have HApp := Lib.hid hr
            clear hr hR HU0
            refine tu_run (d := some 77) rfl rfl rfl (.slice xaa xna xca) u1 (run_append _ _ _ rfl _ _ rfl rfl HApp.out) (fun _ => HU1.out.s) ?_
            simp only [ap_s, ap_n, ls_z, ls_s]
            clear HApp
            have HU2 := Lib.hid (HU1.out.litb (0))
            obtain ⟨u2, hu2⟩ : ∃ u, u = u1.alloc (.cells #[.int .i64 (0)] 3) := ⟨_, rfl⟩
            obtain ⟨kb, hkb⟩ : ∃ k, k = u1.heap.size := ⟨_, rfl⟩
            rw [← hu2, ← hkb] at HU2
            refine tu_run (d := some 79) rfl rfl rfl (.slice (some ⟨kb, 0, none⟩) 1 1) u2 (by rw [hu2, hkb]; simp [execOp, Act.eval, go_sem, Instr.buildSlice]) (fun _ => HU2.out.s) ?_
            simp only [ap_s, ap_n, ls_z, ls_s]
            clear hu2 hkb HU1
            obtain ⟨xab, xnb, xcb, u3, hr, hR⟩ := HU2.out.appb 106 106 Tryz.underlying106 HLen.out.2.1
            have HU3 := Lib.hid hR
            have HApp := Lib.hid hr
            clear hr hR HU2
            refine tu_run (d := some 80) rfl rfl rfl (.slice xab xnb xcb) u3 (run_append _ _ _ rfl _ _ rfl rfl HApp.out) (fun _ => HU3.out.s) ?_
            simp only [ap_s, ap_n, ls_z, ls_s]
            clear HApp
            refine tu_skip (d := none) rfl rfl rfl (u3.setCell ⟨H + 1, 0, none⟩ (.slice xaa xna xca)) (by have c := HU3.out.md.xa.cell; have f := HU3.out.md.xa.frozen; simp [execOp, Act.eval, go_sem, c, f]) (fun h => absurd h (by decide)) ?_
            simp only [ap_s, ap_n, ls_z, ls_s]
            have HSb := Lib.hid (HU3.out.md.store (by decide) (.slice xaa xna xca)).1
            refine tu_skip (d := none) rfl rfl rfl ((u3.setCell ⟨H + 1, 0, none⟩ (.slice xaa xna xca)).setCell ⟨H + 1 + 1, 0, none⟩ (.slice xab xnb xcb)) (by have c := HSb.out.xb.cell; have f := HSb.out.xb.frozen; simp [execOp, Act.eval, go_sem, c, f]) (fun h => absurd h (by decide)) ?_
            simp only [ap_s, ap_n, ls_z, ls_s]
            refine tu_endN ?_
            have HF := Lib.hid (HU3.out.fin ⟨by decide, by decide⟩ w.heap.size ⟨HLen.out.2.2.2, by have := HLen.out.2.2.2; omega⟩ rfl rfl)
            clear HSb HU3
            obtain ⟨f1, f2, f3⟩ := HF.out
            refine ⟨rfl, ?_⟩
            rw [hFP.out]
            exact ⟨HKV2.out.1.trans f2.oth, ⟨_, _, _, (by rw [HAm.out]; exact f1), by simp [HLen.out.2.2.1]⟩, HKV2.out.2.1.trans f2, HKV2.out.2.2.trans f3⟩
          · have HU1 := Lib.hid (HU0.out.litb (0))
            obtain ⟨u1, hu1⟩ : ∃ u, u = u0.alloc (.cells #[.int .i64 (0)] 3) := ⟨_, rfl⟩
            obtain ⟨kb, hkb⟩ : ∃ k, k = u0.heap.size := ⟨_, rfl⟩
            rw [← hu1, ← hkb] at HU1
            refine tu_run (d := some 79) rfl rfl rfl (.slice (some ⟨kb, 0, none⟩) 1 1) u1 (by rw [hu1, hkb]; simp [execOp, Act.eval, go_sem, Instr.buildSlice]) (fun _ => HU1.out.s) ?_
            simp only [ap_s, ap_n, ls_z, ls_s]
            clear hu1 hkb HU0
            obtain ⟨xaa, xna, xca, u2, hr, hR⟩ := HU1.out.appa 34 34 Tryz.underlying34 HLen.out.1
            have HU2 := Lib.hid hR
            have HApp := Lib.hid hr
            clear hr hR HU1
            refine tu_run (d := some 77) rfl rfl rfl (.slice xaa xna xca) u2 (run_append _ _ _ rfl _ _ rfl rfl HApp.out) (fun _ => HU2.out.s) ?_
            simp only [ap_s, ap_n, ls_z, ls_s]
            clear HApp
            obtain ⟨xab, xnb, xcb, u3, hr, hR⟩ := HU2.out.appb 106 106 Tryz.underlying106 HLen.out.2.1
            have HU3 := Lib.hid hR
            have HApp := Lib.hid hr
            clear hr hR HU2
            refine tu_run (d := some 80) rfl rfl rfl (.slice xab xnb xcb) u3 (run_append _ _ _ rfl _ _ rfl rfl HApp.out) (fun _ => HU3.out.s) ?_
            simp only [ap_s, ap_n, ls_z, ls_s]
            clear HApp
            refine tu_skip (d := none) rfl rfl rfl (u3.setCell ⟨H + 1, 0, none⟩ (.slice xaa xna xca)) (by have c := HU3.out.md.xa.cell; have f := HU3.out.md.xa.frozen; simp [execOp, Act.eval, go_sem, c, f]) (fun h => absurd h (by decide)) ?_
            simp only [ap_s, ap_n, ls_z, ls_s]
            have HSb := Lib.hid (HU3.out.md.store (by decide) (.slice xaa xna xca)).1
            refine tu_skip (d := none) rfl rfl rfl ((u3.setCell ⟨H + 1, 0, none⟩ (.slice xaa xna xca)).setCell ⟨H + 1 + 1, 0, none⟩ (.slice xab xnb xcb)) (by have c := HSb.out.xb.cell; have f := HSb.out.xb.frozen; simp [execOp, Act.eval, go_sem, c, f]) (fun h => absurd h (by decide)) ?_
            simp only [ap_s, ap_n, ls_z, ls_s]
            refine tu_endN ?_
            have HF := Lib.hid (HU3.out.fin ⟨by decide, by decide⟩ w.heap.size ⟨HLen.out.2.2.2, by have := HLen.out.2.2.2; omega⟩ rfl rfl)
            clear HSb HU3
            obtain ⟨f1, f2, f3⟩ := HF.out
            refine ⟨rfl, ?_⟩
            rw [hFP.out]
            exact ⟨HKV2.out.1.trans f2.oth, ⟨_, _, _, (by rw [HAm.out]; exact f1), by simp [HLen.out.2.2.1]⟩, HKV2.out.2.1.trans f2, HKV2.out.2.2.trans f3⟩
        · have HU0 := Lib.hid (HRd3.out.litb (0))
          obtain ⟨u0, hu0⟩ : ∃ u, u = V2.drew.alloc (.cells #[.int .i64 (0)] 3) := ⟨_, rfl⟩
          obtain ⟨kb, hkb⟩ : ∃ k, k = V2.drew.heap.size := ⟨_, rfl⟩
          rw [← hu0, ← hkb] at HU0
          refine tu_run (d := some 79) rfl rfl rfl (.slice (some ⟨kb, 0, none⟩) 1 1) u0 (by rw [hu0, hkb]; simp [execOp, Act.eval, go_sem, Instr.buildSlice]) (fun _ => HU0.out.s) ?_
          simp only [ap_s, ap_n, ls_z, ls_s]
          clear hu0 hkb HRd3
          have HU1 := Lib.hid (HU0.out.lita (wt))
          obtain ⟨u1, hu1⟩ : ∃ u, u = u0.alloc (.cells #[.int .i64 (wt)] 3) := ⟨_, rfl⟩
          obtain ⟨ka, hka⟩ : ∃ k, k = u0.heap.size := ⟨_, rfl⟩
          rw [← hu1, ← hka] at HU1
          refine tu_run (d := some 76) rfl rfl rfl (.slice (some ⟨ka, 0, none⟩) 1 1) u1 (by rw [hu1, hka]; simp [execOp, Act.eval, go_sem, Instr.buildSlice]) (fun _ => HU1.out.s) ?_
          simp only [ap_s, ap_n, ls_z, ls_s]
          clear hu1 hka HU0
          obtain ⟨xaa, xna, xca, u2, hr, hR⟩ := HU1.out.appa 34 34 Tryz.underlying34 HLen.out.1
          have HU2 := Lib.hid hR
          have HApp := Lib.hid hr
          clear hr hR HU1
          refine tu_run (d := some 77) rfl rfl rfl (.slice xaa xna xca) u2 (run_append _ _ _ rfl _ _ rfl rfl HApp.out) (fun _ => HU2.out.s) ?_
          simp only [ap_s, ap_n, ls_z, ls_s]
          clear HApp
          obtain ⟨xab, xnb, xcb, u3, hr, hR⟩ := HU2.out.appb 106 106 Tryz.underlying106 HLen.out.2.1
          have HU3 := Lib.hid hR
          have HApp := Lib.hid hr
          clear hr hR HU2
          refine tu_run (d := some 80) rfl rfl rfl (.slice xab xnb xcb) u3 (run_append _ _ _ rfl _ _ rfl rfl HApp.out) (fun _ => HU3.out.s) ?_
          simp only [ap_s, ap_n, ls_z, ls_s]
          clear HApp
          refine tu_skip (d := none) rfl rfl rfl (u3.setCell ⟨H + 1, 0, none⟩ (.slice xaa xna xca)) (by have c := HU3.out.md.xa.cell; have f := HU3.out.md.xa.frozen; simp [execOp, Act.eval, go_sem, c, f]) (fun h => absurd h (by decide)) ?_
          simp only [ap_s, ap_n, ls_z, ls_s]
          have HSb := Lib.hid (HU3.out.md.store (by decide) (.slice xaa xna xca)).1
          refine tu_skip (d := none) rfl rfl rfl ((u3.setCell ⟨H + 1, 0, none⟩ (.slice xaa xna xca)).setCell ⟨H + 1 + 1, 0, none⟩ (.slice xab xnb xcb)) (by have c := HSb.out.xb.cell; have f := HSb.out.xb.frozen; simp [execOp, Act.eval, go_sem, c, f]) (fun h => absurd h (by decide)) ?_
          simp only [ap_s, ap_n, ls_z, ls_s]
          refine tu_endN ?_
          have HF := Lib.hid (HU3.out.fin ⟨by decide, by decide⟩ w.heap.size ⟨HLen.out.2.2.2, by have := HLen.out.2.2.2; omega⟩ rfl rfl)
          clear HSb HU3
          obtain ⟨f1, f2, f3⟩ := HF.out
          refine ⟨rfl, ?_⟩
          rw [hFP.out]
          exact ⟨HKV2.out.1.trans f2.oth, ⟨_, _, _, (by rw [HAm.out]; exact f1), by simp [HLen.out.2.2.1]⟩, HKV2.out.2.1.trans f2, HKV2.out.2.2.trans f3⟩
  case done =>
    rintro DD W hD ⟨⟨av, bv, bl, hM, hbl⟩, hK, hb⟩ hKD
    have HD := Lib.hid (And.intro hD (And.intro hM (And.intro hb hKD)))
    clear hM0 hBs hcr0 hg0 hD hM hb hK hKD hbl hbase hsz hsb hs4 hH
    gi_wp2
    refine wpIn_wide.2 ?_
    refine wp_region_seq (by kernel_rfl) (fun w' => w'.cell? ⟨H + 1, 0, none⟩ = some av ∧ w'.cell? ⟨H + 1 + 1, 0, none⟩ = some bv) [(0, true), (1, true), (2, true), (3, true), (4, true)] (by kernel_rfl) (⟨HD.out.2.1.xa.cell, HD.out.2.1.xb.cell⟩) ?_
    refine seq_q (d := some 109) rfl rfl rfl (av) (fun w hw => by have c := hw.1; simp [execOp, Act.eval, go_sem, c]) ?_
    simp only [ap_s, ap_n, ls_z, ls_s]
    refine seq_q (d := some 110) rfl rfl rfl (bv) (fun w hw => by have c := hw.2; simp [execOp, Act.eval, go_sem, c]) ?_
    simp only [ap_s, ap_n, ls_z, ls_s]
    refine seq_q (d := some 4) rfl rfl rfl (av) (fun w hw => rfl) ?_
    simp only [ap_s, ap_n, ls_z, ls_s]
    refine seq_q (d := some 5) rfl rfl rfl (bv) (fun w hw => rfl) ?_
    simp only [ap_s, ap_n, ls_z, ls_s]
    refine seq_q (d := some 6) rfl rfl rfl (.int .i64 0) (fun w hw => rfl) ?_
    simp only [ap_s, ap_n, ls_z, ls_s]
    refine seq_end ?_
    gi_wp2
    have hwb : w.heap.size ≤ base := by have := HN.out.1; have := HN.out.2.1; have := HN.out.2.2.2; omega
    have hKD : W.drew.heap[DD]? = some (.deferred (some [])) := HD.out.2.2.2
    have hwD : w.heap.size ≤ DD := by have := HD.out.1; have := HN.out.1; omega
    refine ⟨by simp, Or.inl ⟨_, _, rfl, run_takeDeferred hKD, _, results_tmp3 rfl _ _ _, ?_⟩⟩
    refine ⟨av, bv, bl, rfl, ?_, ?_, ?_⟩
    · exact ownsRow_putObj (HD.out.2.1.oa.drew.mono hwb) _ hKD rfl
    · exact ownsRow_putObj (HD.out.2.1.ob.drew.mono hwb) _ hKD rfl
    · exact ((HB1.out.trans HD.out.2.2.1).drew).trans (belowK_b (w := w) (Nat.le_refl _) W.drew DD _ _ hwD hKD rfl rfl)
end Go.Proofs.YtkpgciimhjkajaaGreatDoor
/- The program's flux: Move. -/
namespace Go.Proofs.YtkpgciimhjkajaaGreatDoor
open Go Go.RowKit Go.Shelf
attribute [local go_sem] Oper.semAt_some
def mvS (E : List Ed) (A D : List Int) (i : Fin E.length) : List Int := (D.set E[i.1].1 (D.getD E[i.1].1 0 - A.getD i.1 0)).set E[i.1].2 ((D.set E[i.1].1 (D.getD E[i.1].1 0 - A.getD i.1 0)).getD E[i.1].2 0 + A.getD i.1 0)
def mvF (E : List Ed) (A D : List Int) (pre : List (Fin E.length)) : List Int := pre.foldl (mvS E A) D
def mvN (n : Nat) (A D : List Int) : List Int := mvF (edgesN n) A D (List.finRange _)
theorem mvS_length (E : List Ed) (A D : List Int) (i : Fin E.length) : (mvS E A D i).length = D.length := by simp [mvS]
theorem mvF_length (E : List Ed) (A : List Int) : ∀ (pre : List (Fin E.length)) (D : List Int), (mvF E A D pre).length = D.length
  | [], _ => rfl
  | i :: r, D => by
    show (mvF E A (mvS E A D i) r).length = _
    rw [mvF_length E A r, mvS_length]
theorem mvF_snoc (E : List Ed) (A D : List Int) (pre : List (Fin E.length)) (i : Fin E.length) : mvF E A D (pre ++ [i]) = mvS E A (mvF E A D pre) i := by simp [mvF]
theorem set_getD (D : List Int) (a b : Nat) (x : Int) : (D.set a x).getD b 0 = x ∨ (D.set a x).getD b 0 = D.getD b 0 := by
  simp only [List.getD_eq_getElem?_getD]
  by_cases h : a = b
  · subst h
    by_cases hl : a < D.length
    · left; simp [hl]
    · right; rw [List.set_eq_of_length_le (by omega)]
  · right; simp [h]
theorem mvF_bnd (E : List Ed) (A : List Int) (M : Int) (hM : 0 ≤ M) (hA : ∀ i, -M ≤ A.getD i 0 ∧ A.getD i 0 ≤ M) : ∀ (pre : List (Fin E.length)) (D : List Int) (K : Int), 0 ≤ K → (∀ b, -K ≤ D.getD b 0 ∧ D.getD b 0 ≤ K) → ∀ b, -(K + 2 * M * pre.length) ≤ (mvF E A D pre).getD b 0 ∧ (mvF E A D pre).getD b 0 ≤ K + 2 * M * pre.length
  | [], D, K, _, h, b => by simp [mvF]; exact h b
  | i :: r, D, K, hK, h, b => by
    have h2 := hA i.1
    have hq : ∀ b, -(K + M) ≤ (D.set E[i.1].1 (D.getD E[i.1].1 0 - A.getD i.1 0)).getD b 0 ∧ (D.set E[i.1].1 (D.getD E[i.1].1 0 - A.getD i.1 0)).getD b 0 ≤ K + M := fun b => by
      have h1 := h E[i.1].1
      have h3 := h b
      rcases set_getD D E[i.1].1 b (D.getD E[i.1].1 0 - A.getD i.1 0) with e | e <;> rw [e] <;> omega
    have hs : ∀ b, -(K + 2 * M) ≤ (mvS E A D i).getD b 0 ∧ (mvS E A D i).getD b 0 ≤ K + 2 * M := fun b => by
      have h1 := hq E[i.1].2
      have h3 := hq b
      unfold mvS
      rcases set_getD (D.set E[i.1].1 (D.getD E[i.1].1 0 - A.getD i.1 0)) E[i.1].2 b ((D.set E[i.1].1 (D.getD E[i.1].1 0 - A.getD i.1 0)).getD E[i.1].2 0 + A.getD i.1 0) with e | e <;> rw [e] <;> omega
    have := mvF_bnd E A M hM hA r (mvS E A D i) (K + 2 * M) (by omega) hs b
    show -(K + 2 * M * ((i :: r).length : Int)) ≤ (mvF E A (mvS E A D i) r).getD b 0 ∧ (mvF E A (mvS E A D i) r).getD b 0 ≤ K + 2 * M * ((i :: r).length : Int)
    have e : 2 * M * (((i :: r).length : Nat) : Int) = 2 * M + 2 * M * (r.length : Int) := by
      rw [List.length_cons, Int.natCast_add, Int.mul_add]; omega
    rw [e]
    omega
theorem pclone_any (v : Value) (l : List Int) (base : Nat) (w : World) (h : OwnI w base v l) (hl : l.length ≤ 1000000) : Calls Tryz.prog 57 #[v] w fun e w' => ∃ v', e = .returned v' ∧ OwnI w' w.heap.size v' l ∧ Below w.heap.size w w' := by
  rcases Nat.eq_zero_or_pos l.length with h0 | h0
  · obtain rfl := List.eq_nil_of_length_eq_zero h0
    obtain ⟨a, c, rfl⟩ := h.slice
    cases a with
    | none =>
      refine (Tryz.slices_Clone_int_nil 0 c w).mono ?_
      rintro e w' ⟨rfl, rfl⟩
      exact ⟨_, rfl, OwnI.nil _ _, Below.refl _ _⟩
    | some a =>
      refine (Tryz.slices_Clone_int_zero a c w).mono ?_
      rintro e w' ⟨v', rfl, h1, _, h3⟩
      exact ⟨_, rfl, h1, h3⟩
  · obtain ⟨g, cap, rfl, _, _, _, _, hA⟩ := h.iat h0
    refine (Tryz.slices_Clone_int g 0 l.length cap l w (Nat.le_refl _) (by omega) (fun j hj => by rw [Nat.zero_add, hA j hj, List.getD_eq_getElem?_getD, List.getElem?_eq_getElem hj]; rfl)).mono ?_
    rintro e w' ⟨v', rfl, h1, _, h3⟩
    refine ⟨_, rfl, ?_, h3⟩
    rw [List.take_length] at h1
    exact h1
theorem results_row2 {fn : Func} {tmps : Array Value} {w : World} {i j : Nat} {t : TypeId} (hfn : fn.results = #[.cell i t, .tmp j]) (b : Nat) (cs : List Value) (q : Value) (h : RowAt w b cs) (ht : RowT t cs.length) (hp : tmps.getD i undef = .pointer (some ⟨b, 0, none⟩)) (hq : tmps.getD j undef = q) :
    (results fn tmps).run Tryz.prog w = .ok (.tuple #[.agg cs.toArray, q]) w := by
  have hl := h.loadVar ht
  unfold results
  rw [hfn]
  simp [hp, hq, asAddr, hl, -Array.getD_eq_getD_getElem?]
theorem tr_rowst {ops : Array Oper} {Q : Exit → Act → World → Prop} {S : World → Prop} {r : Tr} {i : Nat} {o : Oper} {a : Act} {w : World} {d : Option Tmp} (ho : ops[i]? = some o) (hd : o.dst = d) (hw : Region.wanted o (yielded ops a.tmps) = true)
    {t : TypeId} (x y : Operand) (hop : o.op = .store t x y) (b : Nat) (hx : a.eval x = .pointer (some ⟨b, 0, none⟩)) (cs cs' : List Value) (hy : a.eval y = .agg cs'.toArray) (h : RowAt w b cs) (hl : cs'.length = cs.length) (ht : RowT t cs.length) (h1 : ∀ v ∈ cs', v.oneCell' = true)
    (k : ∀ w', RowAt w' b cs' → ApartR b w w' → (r.more = true → S w') ∧ wpT Tryz.prog ops Q S r (a.put d undef) w') : wpT Tryz.prog ops Q S (.e i r) a w := by
  obtain ⟨w', h2, h3, h4⟩ := run_row_store h hl ht h1
  obtain ⟨k1, k2⟩ := k w' h3 h4
  refine tr_skip (d := d) ho hd hw w' ?_ k1 k2
  unfold execOp
  simp only [hop, hx, hy, Sem.run_bind, h2, Result.andThen_ok, Sem.run_pure]
theorem OwnI.apart {w w' : World} {base b : Nat} {v : Value} {l : List Int} (h : OwnI w base v l) (ha : ApartR b w w') (hn : v.ownBlock ≠ some b) : OwnI w' base v l := by
  refine ⟨h.1, ?_⟩
  rcases h.2 with e | ⟨g, cap, cur, e, hg, hh, r⟩
  · exact Or.inl e
  · exact Or.inr ⟨g, cap, cur, e, hg, by rw [ha.2.2.2.2 g (fun e' => hn (by rw [e, e']; rfl))]; exact hh, r⟩
theorem OwnI.one {w : World} {base : Nat} {v : Value} {l : List Int} (h : OwnI w base v l) : v.oneCell' = true := by
  obtain ⟨a, c, rfl⟩ := h.slice; rfl
theorem rowT_st : RowT 36 3 := ⟨by kernel_rfl, _, Tryz.underlying36, rfl⟩
theorem OwnI.of_same2 {w w' : World} {base : Nat} {v : Value} {l : List Int} (h : OwnI w base v l) (hs : ∀ g, v.ownBlock = some g → w'.heap[g]? = w.heap[g]?) : OwnI w' base v l := by
  refine ⟨h.1, ?_⟩
  rcases h.2 with e | ⟨g, cap, cur, e, hg, hh, r⟩
  · exact Or.inl e
  · exact Or.inr ⟨g, cap, cur, e, hg, by rw [hs g (by rw [e]; rfl)]; exact hh, r⟩
theorem BlkI.ownB {W : World} {X cap base : Nat} {D : List Int} (h : BlkI W X D cap) (hb : base ≤ X) (hc : cap ≤ maxLen) : OwnI W base (.slice (some ⟨X, 0, none⟩) D.length cap) D := by
  obtain ⟨tl, h, e⟩ := h
  refine ⟨by simp [ics], Or.inr ⟨X, cap, _, rfl, hb, h, by omega, hc, by simp [ics]; omega, ?_⟩⟩
  simp [ics]
structure M6 (n : Nat) (D F : List Int) (w3 W : World) (yb : Nat) (dv fv : Value) : Prop where
  row : RowAt W yb [.int .i64 (n : Int), dv, fv]
  lo : w3.heap.size ≤ yb
  od : OwnI W w3.heap.size dv D
  of : OwnI W w3.heap.size fv F
  be : Below w3.heap.size w3 W
  yd : dv.ownBlock ≠ some yb
  yf : fv.ownBlock ≠ some yb
  df : ∀ g, dv.ownBlock = some g → fv.ownBlock ≠ some g
structure S93 (yb mb eb X ag n xn yn j zn : Nat) (dv fv av : Value) (d m : Int) (w : World) : Prop where
  yy : RowAt w yb [.int .i64 (n : Int), dv, fv]
  am : w.cell? ⟨mb, 0, none⟩ = some av
  ee : RowAt w eb [.int .i64 (xn : Int), .int .i64 (yn : Int)]
  dd : w.cell? ⟨X, zn, none⟩ = some (.int .i64 d)
  aj : w.cell? ⟨ag, j, none⟩ = some (.int .i64 m)
def mvRes (n : Nat) (A D F : List Int) (e : Ending) (w w' : World) : Prop :=
  (outB (mvN n A D) 0 16777216 = true → e = .returned (.tuple #[stv 0 (.slice none 0 0) (.slice none 0 0), .int .i64 7])) ∧
  (outB (mvN n A D) 0 16777216 = false → ∃ dv fv, e = .returned (.tuple #[stv n dv fv, .int .i64 0]) ∧ OwnI w' w.heap.size dv (mvN n A D) ∧ OwnI w' w.heap.size fv F)
set_option maxRecDepth 100000 in
set_option maxHeartbeats 16000000 in
theorem pmove_any (n : Nat) (hn : Fq n) (dv fv av : Value) (D F A : List Int) (B0 : Nat) (w : World) (hcr : Crn w) (hg : 0 < w.heap.size) (hok : SOk n D F) (hd : OwnI w B0 dv D) (hf : OwnI w B0 fv F) (ha : OwnI w B0 av A) (hAl : A.length = F.length) (hAb : ∀ x ∈ A, -16777216 ≤ x ∧ x ≤ 16777216) :
    Calls Tryz.prog 93 #[stv n dv fv, av] w fun e w' => mvRes n A D F e w w' ∧ Below w.heap.size w w' := by
  obtain ⟨w1, hw1⟩ : ∃ u, u = ((w.alloc (.cells #[.int .i64 (n : Int), dv, fv] 36)).alloc (.cells #[av] 34)).alloc (.cells #[.int .i64 0, .slice none 0 0, .slice none 0 0] 36) := ⟨_, rfl⟩
  have hb1 : Below w.heap.size w w1 := by rw [hw1]; exact (((Below.refl _ _).alloc (Nat.le_refl _) _).alloc (by simp) _).alloc (by simp; omega) _
  have hs1 : w1.heap.size = w.heap.size + 1 + 1 + 1 := by rw [hw1]; simp
  have hS1 : RowAt w1 w.heap.size [.int .i64 (n : Int), dv, fv] := by rw [hw1]; exact ((RowAt.new _ [.int .i64 (n : Int), dv, fv] (by simp) _ rfl).alloc _).alloc _
  have hM1 : Boxed w1 (w.heap.size + 1) 34 av := by
    rw [hw1]
    have h := (Boxed.new (w.alloc (.cells #[.int .i64 (n : Int), dv, fv] 36)) 34 av).alloc (.cells #[.int .i64 0, .slice none 0 0, .slice none 0 0] 36)
    rw [World.size_alloc] at h; exact h
  have hR1 : RowAt w1 (w.heap.size + 1 + 1) [.int .i64 0, .slice none 0 0, .slice none 0 0] := by
    rw [hw1]; exact RowAt.new _ [.int .i64 0, .slice none 0 0, .slice none 0 0] (by simp) _ (by simp)
  have HB1 := Lib.hid hb1
  have HFix := Lib.hid (And.intro hn (And.intro hok (And.intro hAl hAb)))
  have HL1 := Lib.hid (And.intro (hd.below hb1) (And.intro (hf.below hb1) (ha.below hb1)))
  have HCr := Lib.hid (And.intro (hcr.below hb1 hg) (Nat.lt_of_lt_of_le hg hb1.size))
  have HCk := Lib.hid (pcheck_any n hn dv fv D F B0 w1 HCr.out.1 HCr.out.2 hok (hd.below hb1) (hf.below hb1))
  have Hw1 := Lib.hid hw1
  have HR := Lib.hid (And.intro hS1 (And.intro hM1 hR1))
  clear hcr hg hn hok hd hf ha hb1 hAl hAb
  obtain ⟨da, dn, dc, rfl⟩ : ∃ a m c, dv = .slice a m c := by obtain ⟨a, c, h⟩ := HL1.out.1.slice; exact ⟨a, _, c, h⟩
  obtain ⟨fa, fn, fc, rfl⟩ : ∃ a m c, fv = .slice a m c := by obtain ⟨a, c, h⟩ := HL1.out.2.1.slice; exact ⟨a, _, c, h⟩
  obtain ⟨aa, an, ac, rfl⟩ : ∃ a m c, av = .slice a m c := by obtain ⟨a, c, h⟩ := HL1.out.2.2.slice; exact ⟨a, _, c, h⟩
  have hlen : an = fn := by
    obtain ⟨a1, c1, h1⟩ := HL1.out.2.1.slice
    obtain ⟨a2, c2, h2⟩ := HL1.out.2.2.slice
    injection h1 with _ h1 _
    injection h2 with _ h2 _
    rw [h1, h2]; exact HFix.out.2.2.1
  subst hlen
  have c0 := hS1.at 0 rfl
  have c1 := hS1.at 1 rfl
  have c2 := hS1.at 2 rfl
  clear hw1 hs1 hS1 hM1 hR1
  unfold stv
  refine callsIn_wide (n := 10) |>.1 ?_
  refine callsIn_of_wp_marks Tryz.func93 rfl trivial ?_ rfl
  simp only [Tryz.ntmps93, List.size_toArray, List.length_cons, List.length_nil, Nat.reduceAdd, Nat.reduceSub, Array.replicate_succ, Array.replicate_zero, List.push_toArray, List.append_toArray, List.nil_append, List.cons_append]
  gi_wp2
  refine ⟨trivial, ?_⟩
  gi_at_call 66
  rw [← Hw1.out]
  clear c0 c1 c2
  refine (callsIn_wide.2 HCk.out).mono ?_
  rintro e w2 ⟨rfl, hb2⟩
  have HR2 : Hid (_ ∧ _ ∧ _) := Lib.hid (And.intro (HR.out.1.below hb2) (And.intro ((hb2.block _ HR.out.2.1.lt).trans HR.out.2.1) (HR.out.2.2.below hb2)))
  have HB2 := Lib.hid (below_then HB1.out hb2)
  have HL2 := Lib.hid (And.intro (HL1.out.1.below hb2) (And.intro (HL1.out.2.1.below hb2) (HL1.out.2.2.below hb2)))
  have HCr2 := Lib.hid (And.intro (HCr.out.1.below hb2 HCr.out.2) (Nat.lt_of_lt_of_le HCr.out.2 hb2.size))
  have HOu := Lib.hid (poutside_any _ A (-16777216) 16777216 B0 w2 HL2.out.2.2)
  rw [outB_no HFix.out.2.2.2] at HOu
  have c2 := HR2.out.1.at 2 rfl
  have cm : w2.cell? ⟨w.heap.size + 1, 0, none⟩ = some (.slice aa an ac) := Boxed.cell HR2.out.2.1
  clear hb2 HR HB1 HL1 HCr HCk
  gi_wp2
  refine ⟨trivial, ?_⟩
  gi_at_call 47
  clear c2 cm
  refine (callsIn_wide.2 HOu.out).mono ?_
  rintro e w3 ⟨rfl, hb3⟩
  have HR3 : Hid (_ ∧ _ ∧ _) := Lib.hid (And.intro (HR2.out.1.below hb3) (And.intro ((hb3.block _ (Boxed.lt HR2.out.2.1)).trans HR2.out.2.1) (HR2.out.2.2.below hb3)))
  have HB3 := Lib.hid (below_then HB2.out hb3)
  have HL3 := Lib.hid (And.intro (HL2.out.1.below hb3) (And.intro (HL2.out.2.1.below hb3) (HL2.out.2.2.below hb3)))
  have HCr3 := Lib.hid (And.intro (HCr2.out.1.below hb3 HCr2.out.2) (Nat.lt_of_lt_of_le HCr2.out.2 hb3.size))
  clear hb3 HR2 HB2 HL2 HCr2 HOu
  have hDl : D.length ≤ 1000000 ∧ F.length ≤ 1000000 := by
    have h1 := HFix.out.2.1.dl
    have h2 := HFix.out.2.1.fl
    have h3 := edgesN_le HFix.out.1
    have h8 : n ≤ 8 := HFix.out.1.2
    have := Nat.mul_le_mul (Nat.mul_le_mul_left 10 h8) h8
    omega
  have HDl := Lib.hid hDl
  clear hDl
  gi_wp2
  refine wpIn_wide.2 (region_cut (fun a W => ∃ yb v31 v34, a = { tmps := ([.agg #[.int .i64 (n : Int), .slice da dn dc, .slice fa an fc], .slice aa an ac, .pointer (some ⟨w.heap.size, 0, none⟩), .pointer (some ⟨w.heap.size + 1, 0, none⟩), .pointer (some ⟨w.heap.size + 1 + 1, 0, none⟩), .int .i64 0, .int .i64 0, .pointer (some ⟨yb, 0, none⟩), undef, undef, .agg #[.int .i64 (n : Int), .slice da dn dc, .slice fa an fc], .int .i64 0, .int .i64 0, .bool false] ++ ([undef, undef, .slice aa an ac, .int .i64 (an : Int), .pointer (some ⟨w.heap.size, 2, none⟩), .slice fa an fc, .int .i64 (an : Int), .bool false, .bool false, .slice aa an ac, .bool false, .bool false, undef, .pointer (some ⟨w.heap.size, 0, none⟩)] ++ ([.int .i64 (n : Int), .pointer (some ⟨w.heap.size, 1, none⟩), .slice da dn dc, v31, .pointer (some ⟨w.heap.size, 2, none⟩), .slice fa an fc, v34, .agg #[.int .i64 (n : Int), v31, v34], undef, undef, undef, undef, undef, undef] ++ ([undef, undef, undef, undef, undef, undef, undef, undef, undef, undef, undef, undef, undef, undef] ++ ([undef, undef, undef, undef, undef, undef, undef, undef, undef, undef, undef, undef, undef, undef]))))).toArray, defers := [] } ∧ M6 n D F w3 W yb v31 v34) ?_ ?_)
  · have HB0 : Hid (Below w3.heap.size w3 w3.drew) := (Below.refl _ _).drew
    refine wp_region_tree (by kernel_rfl) (fun w' => RowAt w' w.heap.size [.int .i64 (n : Int), .slice da dn dc, .slice fa an fc]) 10 (.q 0 0 (.q 1 1 (.q 2 0 (.q 3 1 (.q 5 0 (.q 6 1 (.fork (.e 4 (.fork (.e 7 (.q 8 0 (.e 9 (.e 10 (.nil))))) (.e 9 (.e 7 (.q 8 0 (.e 10 (.nil))))))) (.e 9 (.e 4 (.e 7 (.q 8 0 (.e 10 (.nil))))))))))))) (by kernel_rfl) (HR3.out.1.drew) ?_
    refine tr_q (d := some 27) rfl rfl rfl (.pointer (some ⟨w.heap.size, 0, none⟩)) (fun w => by go_simp) ?_
    simp only [ap_s, ap_n, ls_z, ls_s]
    refine tr_s (d := some 28) rfl rfl rfl (.int .i64 (n : Int)) (fun w hw => by have c := hw.at 0 rfl; simp [execOp, Act.eval, go_sem, c]) ?_
    simp only [ap_s, ap_n, ls_z, ls_s]
    refine tr_q (d := some 29) rfl rfl rfl (.pointer (some ⟨w.heap.size, 1, none⟩)) (fun w => by go_simp) ?_
    simp only [ap_s, ap_n, ls_z, ls_s]
    refine tr_s (d := some 30) rfl rfl rfl (.slice da dn dc) (fun w hw => by have c := hw.at 1 rfl; simp [execOp, Act.eval, go_sem, c]) ?_
    simp only [ap_s, ap_n, ls_z, ls_s]
    refine tr_q (d := some 32) rfl rfl rfl (.pointer (some ⟨w.heap.size, 2, none⟩)) (fun w => by go_simp) ?_
    simp only [ap_s, ap_n, ls_z, ls_s]
    refine tr_s (d := some 33) rfl rfl rfl (.slice fa an fc) (fun w hw => by have c := hw.at 2 rfl; simp [execOp, Act.eval, go_sem, c]) ?_
    simp only [ap_s, ap_n, ls_z, ls_s]
    refine tr_fork ?_ ?_
    · refine tr_call (d := some 31) rfl rfl rfl ⟨_, Tryz.func57, by kernel_rfl, by kernel_rfl⟩ _ _ _ rfl rfl [.slice da dn dc] rfl (pclone_any _ D B0 _ (HL3.out.1.below HB0.out) HDl.out.1) ?_
      rintro e W1 ⟨vv, rfl, hv, hb⟩
      obtain ⟨pa, pc, rfl⟩ := hv.slice
      have HB1 := Lib.hid (below_then HB0.out hb)
      have Hd1 := Lib.hid (hv.mono (base := w3.drew.heap.size) HB0.out.size)
      have HZ1 : Hid (∀ g, (.slice pa D.length pc : Value).ownBlock = some g → w3.drew.heap.size ≤ g ∧ g < W1.heap.size) := hv.lt
      have hz1 : w3.drew.heap.size ≤ W1.heap.size := hb.size
      clear hv hb
      refine ⟨_, rfl, fun _ => HR3.out.1.below HB1.out, ?_⟩
      simp only [ap_s, ap_n, ls_z, ls_s]
      refine tr_fork ?_ ?_
      · refine tr_call (d := some 34) rfl rfl rfl ⟨_, Tryz.func57, by kernel_rfl, by kernel_rfl⟩ _ _ _ rfl rfl [.slice fa an fc] rfl (pclone_any _ F B0 _ (HL3.out.2.1.below HB1.out) HDl.out.2) ?_
        rintro e W2 ⟨vv, rfl, hv, hb⟩
        obtain ⟨qa, qc, rfl⟩ := hv.slice
        have HB2 := Lib.hid (below_then HB1.out hb)
        have Hd2 := Lib.hid (Hd1.out.below hb)
        clear Hd1
        have Hf2 := Lib.hid (hv.mono (base := W1.heap.size) HB1.out.size)
        have HZ2 : Hid (∀ g, (.slice qa F.length qc : Value).ownBlock = some g → W1.heap.size ≤ g ∧ g < W2.heap.size) := hv.lt
        have hz2 : W1.heap.size ≤ W2.heap.size := hb.size
        clear hv hb
        refine ⟨_, rfl, fun _ => HR3.out.1.below HB2.out, ?_⟩
        simp only [ap_s, ap_n, ls_z, ls_s]
        refine tr_q (d := some 35) rfl rfl rfl (.agg #[.int .i64 (n : Int), .slice pa D.length pc, .slice qa F.length qc]) (fun w => by simp [execOp, Act.eval, go_sem]) ?_
        simp only [ap_s, ap_n, ls_z, ls_s]
        obtain ⟨W3, hw⟩ : ∃ u, u = W2.alloc (.cells #[.int .i64 0, .slice none 0 0, .slice none 0 0] 36) := ⟨_, rfl⟩
        obtain ⟨yb, hy⟩ : ∃ u, u = W2.heap.size := ⟨_, rfl⟩
        have hb : Below W2.heap.size W2 W3 := by rw [hw]; exact (Below.refl _ _).alloc (Nat.le_refl _) _
        have HB3 := Lib.hid (below_then HB2.out hb)
        have Hd3 := Lib.hid (Hd2.out.below hb)
        clear Hd2
        have Hf3 := Lib.hid (Hf2.out.below hb)
        clear Hf2
        have Hy3 : Hid (RowAt W3 yb [.int .i64 0, .slice none 0 0, .slice none 0 0]) := by rw [hw]; exact RowAt.new _ [.int .i64 0, .slice none 0 0, .slice none 0 0] (by simp) _ hy.symm
        have HZ3 : Hid (W2.heap.size ≤ yb ∧ yb < W3.heap.size) := ⟨Nat.le_of_eq hy.symm, Hy3.out.lt⟩
        have hz3 : W2.heap.size ≤ W3.heap.size := hb.size
        refine tr_run (d := some 7) rfl rfl rfl (.pointer (some ⟨yb, 0, none⟩)) W3 (by rw [hw, hy]; simp [execOp, Act.eval, go_sem]) (fun _ => HR3.out.1.below HB3.out) ?_
        simp only [ap_s, ap_n, ls_z, ls_s]
        clear hw hy hb
        have q1 := HZ1.out
        have q2 := HZ2.out
        have q3 := HZ3.out
        have q0 : w3.heap.size ≤ w3.drew.heap.size := Nat.le_refl _
        have yd : (.slice pa D.length pc : Value).ownBlock ≠ some yb := fun e => by have := q1 yb e; omega
        have yf : (.slice qa F.length qc : Value).ownBlock ≠ some yb := fun e => by have := q2 yb e; omega
        have df : ∀ g, (.slice pa D.length pc : Value).ownBlock = some g → (.slice qa F.length qc : Value).ownBlock ≠ some g := fun g e1 e2 => by have := q1 g e1; have := q2 g e2; omega
        have ly : w3.heap.size ≤ yb := by omega
        refine tr_rowst (d := none) rfl rfl rfl _ _ rfl yb rfl [.int .i64 0, .slice none 0 0, .slice none 0 0] [.int .i64 (n : Int), .slice pa D.length pc, .slice qa F.length qc] rfl Hy3.out rfl rowT_st (by intro v hv; simp at hv; rcases hv with rfl | rfl | rfl <;> first | rfl | exact Hd3.out.one | exact Hf3.out.one) ?_
        intro W9 hr ha
        refine ⟨(fun h => by cases h), ?_⟩
        simp only [ap_s, ap_n, ls_z, ls_s]
        refine tr_end ?_
        exact ⟨rfl, yb, _, _, rfl, hr, ly, Hd3.out.apart ha yd, Hf3.out.apart ha yf, HB3.out.trans (ha.below ly), yd, yf, df⟩
      · obtain ⟨W2, hw⟩ : ∃ u, u = W1.alloc (.cells #[.int .i64 0, .slice none 0 0, .slice none 0 0] 36) := ⟨_, rfl⟩
        obtain ⟨yb, hy⟩ : ∃ u, u = W1.heap.size := ⟨_, rfl⟩
        have hb : Below W1.heap.size W1 W2 := by rw [hw]; exact (Below.refl _ _).alloc (Nat.le_refl _) _
        have HB2 := Lib.hid (below_then HB1.out hb)
        have Hd2 := Lib.hid (Hd1.out.below hb)
        clear Hd1
        have Hy2 : Hid (RowAt W2 yb [.int .i64 0, .slice none 0 0, .slice none 0 0]) := by rw [hw]; exact RowAt.new _ [.int .i64 0, .slice none 0 0, .slice none 0 0] (by simp) _ hy.symm
        have HZ2 : Hid (W1.heap.size ≤ yb ∧ yb < W2.heap.size) := ⟨Nat.le_of_eq hy.symm, Hy2.out.lt⟩
        have hz2 : W1.heap.size ≤ W2.heap.size := hb.size
        refine tr_run (d := some 7) rfl rfl rfl (.pointer (some ⟨yb, 0, none⟩)) W2 (by rw [hw, hy]; simp [execOp, Act.eval, go_sem]) (fun _ => HR3.out.1.below HB2.out) ?_
        simp only [ap_s, ap_n, ls_z, ls_s]
        clear hw hy hb
        refine tr_call (d := some 34) rfl rfl rfl ⟨_, Tryz.func57, by kernel_rfl, by kernel_rfl⟩ _ _ _ rfl rfl [.slice fa an fc] rfl (pclone_any _ F B0 _ (HL3.out.2.1.below HB2.out) HDl.out.2) ?_
        rintro e W3 ⟨vv, rfl, hv, hb⟩
        obtain ⟨qa, qc, rfl⟩ := hv.slice
        have HB3 := Lib.hid (below_then HB2.out hb)
        have Hd3 := Lib.hid (Hd2.out.below hb)
        clear Hd2
        have Hy3 := Lib.hid (Hy2.out.below hb)
        clear Hy2
        have Hf3 := Lib.hid (hv.mono (base := W2.heap.size) HB2.out.size)
        have HZ3 : Hid (∀ g, (.slice qa F.length qc : Value).ownBlock = some g → W2.heap.size ≤ g ∧ g < W3.heap.size) := hv.lt
        have hz3 : W2.heap.size ≤ W3.heap.size := hb.size
        clear hv hb
        refine ⟨_, rfl, fun _ => HR3.out.1.below HB3.out, ?_⟩
        simp only [ap_s, ap_n, ls_z, ls_s]
        refine tr_q (d := some 35) rfl rfl rfl (.agg #[.int .i64 (n : Int), .slice pa D.length pc, .slice qa F.length qc]) (fun w => by simp [execOp, Act.eval, go_sem]) ?_
        simp only [ap_s, ap_n, ls_z, ls_s]
        have q1 := HZ1.out
        have q2 := HZ3.out
        have q3 := HZ2.out
        have q0 : w3.heap.size ≤ w3.drew.heap.size := Nat.le_refl _
        have yd : (.slice pa D.length pc : Value).ownBlock ≠ some yb := fun e => by have := q1 yb e; omega
        have yf : (.slice qa F.length qc : Value).ownBlock ≠ some yb := fun e => by have := q2 yb e; omega
        have df : ∀ g, (.slice pa D.length pc : Value).ownBlock = some g → (.slice qa F.length qc : Value).ownBlock ≠ some g := fun g e1 e2 => by have := q1 g e1; have := q2 g e2; omega
        have ly : w3.heap.size ≤ yb := by omega
        refine tr_rowst (d := none) rfl rfl rfl _ _ rfl yb rfl [.int .i64 0, .slice none 0 0, .slice none 0 0] [.int .i64 (n : Int), .slice pa D.length pc, .slice qa F.length qc] rfl Hy3.out rfl rowT_st (by intro v hv; simp at hv; rcases hv with rfl | rfl | rfl <;> first | rfl | exact Hd3.out.one | exact Hf3.out.one) ?_
        intro W9 hr ha
        refine ⟨(fun h => by cases h), ?_⟩
        simp only [ap_s, ap_n, ls_z, ls_s]
        refine tr_end ?_
        exact ⟨rfl, yb, _, _, rfl, hr, ly, Hd3.out.apart ha yd, Hf3.out.apart ha yf, HB3.out.trans (ha.below ly), yd, yf, df⟩
    · obtain ⟨W1, hw⟩ : ∃ u, u = w3.drew.alloc (.cells #[.int .i64 0, .slice none 0 0, .slice none 0 0] 36) := ⟨_, rfl⟩
      obtain ⟨yb, hy⟩ : ∃ u, u = w3.drew.heap.size := ⟨_, rfl⟩
      have hb : Below w3.drew.heap.size w3.drew W1 := by rw [hw]; exact (Below.refl _ _).alloc (Nat.le_refl _) _
      have HB1 := Lib.hid (below_then HB0.out hb)
      have Hy1 : Hid (RowAt W1 yb [.int .i64 0, .slice none 0 0, .slice none 0 0]) := by rw [hw]; exact RowAt.new _ [.int .i64 0, .slice none 0 0, .slice none 0 0] (by simp) _ hy.symm
      have HZ1 : Hid (w3.drew.heap.size ≤ yb ∧ yb < W1.heap.size) := ⟨Nat.le_of_eq hy.symm, Hy1.out.lt⟩
      have hz1 : w3.drew.heap.size ≤ W1.heap.size := hb.size
      refine tr_run (d := some 7) rfl rfl rfl (.pointer (some ⟨yb, 0, none⟩)) W1 (by rw [hw, hy]; simp [execOp, Act.eval, go_sem]) (fun _ => HR3.out.1.below HB1.out) ?_
      simp only [ap_s, ap_n, ls_z, ls_s]
      clear hw hy hb
      refine tr_call (d := some 31) rfl rfl rfl ⟨_, Tryz.func57, by kernel_rfl, by kernel_rfl⟩ _ _ _ rfl rfl [.slice da dn dc] rfl (pclone_any _ D B0 _ (HL3.out.1.below HB1.out) HDl.out.1) ?_
      rintro e W2 ⟨vv, rfl, hv, hb⟩
      obtain ⟨pa, pc, rfl⟩ := hv.slice
      have HB2 := Lib.hid (below_then HB1.out hb)
      have Hy2 := Lib.hid (Hy1.out.below hb)
      clear Hy1
      have Hd2 := Lib.hid (hv.mono (base := W1.heap.size) HB1.out.size)
      have HZ2 : Hid (∀ g, (.slice pa D.length pc : Value).ownBlock = some g → W1.heap.size ≤ g ∧ g < W2.heap.size) := hv.lt
      have hz2 : W1.heap.size ≤ W2.heap.size := hb.size
      clear hv hb
      refine ⟨_, rfl, fun _ => HR3.out.1.below HB2.out, ?_⟩
      simp only [ap_s, ap_n, ls_z, ls_s]
      refine tr_call (d := some 34) rfl rfl rfl ⟨_, Tryz.func57, by kernel_rfl, by kernel_rfl⟩ _ _ _ rfl rfl [.slice fa an fc] rfl (pclone_any _ F B0 _ (HL3.out.2.1.below HB2.out) HDl.out.2) ?_
      rintro e W3 ⟨vv, rfl, hv, hb⟩
      obtain ⟨qa, qc, rfl⟩ := hv.slice
      have HB3 := Lib.hid (below_then HB2.out hb)
      have Hd3 := Lib.hid (Hd2.out.below hb)
      clear Hd2
      have Hy3 := Lib.hid (Hy2.out.below hb)
      clear Hy2
      have Hf3 := Lib.hid (hv.mono (base := W2.heap.size) HB2.out.size)
      have HZ3 : Hid (∀ g, (.slice qa F.length qc : Value).ownBlock = some g → W2.heap.size ≤ g ∧ g < W3.heap.size) := hv.lt
      have hz3 : W2.heap.size ≤ W3.heap.size := hb.size
      clear hv hb
      refine ⟨_, rfl, fun _ => HR3.out.1.below HB3.out, ?_⟩
      simp only [ap_s, ap_n, ls_z, ls_s]
      refine tr_q (d := some 35) rfl rfl rfl (.agg #[.int .i64 (n : Int), .slice pa D.length pc, .slice qa F.length qc]) (fun w => by simp [execOp, Act.eval, go_sem]) ?_
      simp only [ap_s, ap_n, ls_z, ls_s]
      have q1 := HZ2.out
      have q2 := HZ3.out
      have q3 := HZ1.out
      have q0 : w3.heap.size ≤ w3.drew.heap.size := Nat.le_refl _
      have yd : (.slice pa D.length pc : Value).ownBlock ≠ some yb := fun e => by have := q1 yb e; omega
      have yf : (.slice qa F.length qc : Value).ownBlock ≠ some yb := fun e => by have := q2 yb e; omega
      have df : ∀ g, (.slice pa D.length pc : Value).ownBlock = some g → (.slice qa F.length qc : Value).ownBlock ≠ some g := fun g e1 e2 => by have := q1 g e1; have := q2 g e2; omega
      have ly : w3.heap.size ≤ yb := by omega
      refine tr_rowst (d := none) rfl rfl rfl _ _ rfl yb rfl [.int .i64 0, .slice none 0 0, .slice none 0 0] [.int .i64 (n : Int), .slice pa D.length pc, .slice qa F.length qc] rfl Hy3.out rfl rowT_st (by intro v hv; simp at hv; rcases hv with rfl | rfl | rfl <;> first | rfl | exact Hd3.out.one | exact Hf3.out.one) ?_
      intro W9 hr ha
      refine ⟨(fun h => by cases h), ?_⟩
      simp only [ap_s, ap_n, ls_z, ls_s]
      refine tr_end ?_
      exact ⟨rfl, yb, _, _, rfl, hr, ly, Hd3.out.apart ha yd, Hf3.out.apart ha yf, HB3.out.trans (ha.below ly), yd, yf, df⟩
  rintro a W ⟨yb, v31, v34, rfl, hM6⟩
  simp only [List.cons_append, List.nil_append]
  have HM6 := Lib.hid hM6
  clear hM6
  have hRW : RowAt W w.heap.size [.int .i64 (n : Int), .slice da dn dc, .slice fa an fc] := HR3.out.1.below HM6.out.be
  have c0 := hRW.at 0 rfl
  clear hRW
  gi_wp2_with (refine ⟨trivial, ?_⟩; gi_at_call 111; refine (callsIn_wide.2 (pedgesF_any (n : Int) _)).mono ?_; rintro e w5 ⟨rfl, rfl⟩)
  clear c0
  obtain ⟨H, hH⟩ : ∃ x, x = W.heap.size := ⟨_, rfl⟩
  obtain ⟨W0, hW0⟩ : ∃ u, u = W.alloc (.cells #[.int .i64 n] 3) := ⟨_, rfl⟩
  have hB0 : Below W.heap.size W W0 := by rw [hW0]; exact (Below.refl _ _).alloc (Nat.le_refl _) _
  have hsz : W0.heap.size = H + 1 := by rw [hW0, hH]; simp
  have hBs : W0.cell? ⟨H, 0, none⟩ = some (.int .i64 n) := by rw [hW0, hH]; exact (Boxed.new W 3 (.int .i64 n)).cell
  rw [← hW0, ← hH]
  have hcrW := HCr3.out.1.below HM6.out.be HCr3.out.2
  have hgW := Nat.lt_of_lt_of_le HCr3.out.2 HM6.out.be.size
  have hcr0 := hcrW.below hB0 hgW
  have hg0 := Nat.lt_of_lt_of_le hgW hB0.size
  have hbe := below_then HM6.out.be hB0
  obtain ⟨X, cap, rfl, hX3, hXb, hcap⟩ := HM6.out.od.blk (by have := HFix.out.2.1.dl; omega)
  obtain ⟨ya, yn, yc, rfl⟩ : ∃ a m c, v34 = .slice a m c := by obtain ⟨a, c, h⟩ := HM6.out.of.slice; exact ⟨a, _, c, h⟩
  have hyX : yb ≠ X := fun e => HM6.out.yd (by rw [e]; rfl)
  have hY0 := HM6.out.row.below hB0
  have hXW := hXb.of_block (hB0.block _ hXb.lt)
  have hXl : X < H := by rw [hH]; exact hXb.lt
  have hyl : yb < H := by rw [hH]; exact HM6.out.row.lt
  have hR0 : RowAt W0 (w.heap.size + 1 + 1) [.int .i64 0, .slice none 0 0, .slice none 0 0] := HR3.out.2.2.below hbe
  have hM0 : Boxed W0 (w.heap.size + 1) 34 (.slice aa an ac) := (hbe.block _ (Boxed.lt HR3.out.2.1)).trans HR3.out.2.1
  have hm3 : w.heap.size + 1 + 1 < w3.heap.size := HR3.out.2.2.lt
  have hF0 : OwnI W0 w3.heap.size (.slice ya yn yc) F := HM6.out.of.below hB0
  have hA0 := HL3.out.2.2.below hbe
  have hAlt : ∀ g, (Value.slice aa an ac).ownBlock = some g → g < w3.heap.size := fun g hg => (HL3.out.2.2.lt g hg).2
  have hfX : ∀ g, (Value.slice ya yn yc).ownBlock = some g → g ≠ X ∧ g < H := fun g hg => ⟨fun e => HM6.out.df X rfl (by rw [← e]; exact hg), by rw [hH]; exact (HM6.out.of.lt g hg).2⟩
  have hBW := below_then (below_then HB3.out HM6.out.be) hB0
  have hw3W : w3.heap.size ≤ H := by rw [hH]; exact HM6.out.be.size
  have hwX : w.heap.size ≤ X := by omega
  have HZ := Lib.hid (And.intro hY0 (And.intro hR0 (And.intro hM0 (And.intro hF0 hA0))))
  have HX := Lib.hid (And.intro hyX (And.intro hX3 (And.intro hXl (And.intro hyl (And.intro hm3 (And.intro hw3W (And.intro hsz hcap)))))))
  have HA := Lib.hid (And.intro hAlt hfX)
  have HBW := Lib.hid hBW
  have hXc : cap ≤ 1000000000 ∨ True := Or.inr trivial
  clear HM6 HB3 HL3 HR3 HCr3 hW0 hcrW hgW hB0 hbe hXb hY0 hR0 hM0 hF0 hA0 hAlt hfX hBW hXc
  refine range_edges2 HFix.out.1 (by omega) (Bs := H) rfl ⟨rfl, rfl, rfl⟩ ⟨rfl, rfl, rfl⟩ ⟨rfl, rfl, rfl⟩ ⟨by simp, by simp, by decide⟩ ⟨by simp, by decide, by decide⟩ (by omega) hBs hcr0 hg0
    (fun pre V => BlkI V X (mvF (edgesN n) A D pre) cap ∧ Kp2 W0.heap.size X X W0 V ∧ Below w.heap.size W0 V)
    (OwnFrom.and (BlkI.from (by omega)) (OwnFrom.and (Kp2.from rfl) (ownFrom_below (by omega) (by omega)))) (fun pre V h => h.2.2.size) ⟨hXW, ⟨KOth.refl _, fun _ _ _ _ => rfl⟩, Below.refl _ _⟩ ?body ?done
  case body =>
    clear hBs hcr0 hg0 hXW
    rintro l pre i eb V heb hR ⟨hXV, hK, hb⟩ hlt
    have hE := edgesN_ok HFix.out.1 _ (List.getElem_mem i.2)
    have hbn := mvF_bnd (edgesN n) A 16777216 (by omega) (fun j => by
      by_cases hj : j < A.length
      · rw [List.getD_eq_getElem?_getD, List.getElem?_eq_getElem hj]; exact HFix.out.2.2.2 _ (List.getElem_mem hj)
      · rw [List.getD_eq_getElem?_getD, List.getElem?_eq_none (by omega)]; decide) pre D 16777216 (by omega) (fun j => by
      by_cases hj : j < D.length
      · have h := HFix.out.2.1.dr _ (List.getElem_mem hj)
        rw [List.getD_eq_getElem?_getD, List.getElem?_eq_getElem hj]; exact ⟨Int.le_trans (by decide) h.1, h.2⟩
      · rw [List.getD_eq_getElem?_getD, List.getElem?_eq_none (by omega)]; decide)
    have hpl : pre.length < 9000 := Nat.lt_of_lt_of_le hlt (edgesN_le HFix.out.1)
    have hsn := mvF_snoc (edgesN n) A D pre i
    have hlD : (mvF (edgesN n) A D pre).length = D.length := mvF_length _ _ _ _
    have hdl := HFix.out.2.1.dl
    unfold mvS at hsn
    obtain ⟨xn, hxn⟩ : ∃ x, x = (edgesN n)[i.1].1 := ⟨_, rfl⟩
    obtain ⟨zn, hzn⟩ : ∃ x, x = (edgesN n)[i.1].2 := ⟨_, rfl⟩
    rw [← hxn, ← hzn] at hR hE hsn ⊢
    obtain ⟨j, hj⟩ : ∃ x, x = i.1 := ⟨_, rfl⟩
    have hjA : j < A.length := by rw [hj, HFix.out.2.2.1, HFix.out.2.1.fl]; exact i.2
    rw [← hj] at hsn ⊢
    obtain ⟨FP, hFP⟩ : ∃ p : World → Prop, p = fun V' => KOth V V' ∧ BlkI V' X (mvF (edgesN n) A D (pre ++ [i])) cap ∧ Kp2 W0.heap.size X X W0 V' ∧ Below w.heap.size W0 V' := ⟨_, rfl⟩
    refine wpIn_mono (Q := fun e _ W' => e = .normal ∧ FP W') ?_ (by rintro e a W' ⟨rfl, hk⟩; rw [hFP] at hk; exact KOth.post hk.1 hk.2)
    have hFP := Lib.hid (fun W' => congrFun hFP W')
    rw [hsn] at hFP
    have hbx := hbn xn
    have hbz := hbn zn
    have hAj := HFix.out.2.2.2 _ (List.getElem_mem hjA)
    generalize mvF (edgesN n) A D pre = G at *
    have hxG : xn < G.length := by omega
    have hzG : zn < G.length := by omega
    have hgd : ∀ (l : List Int) (k : Nat) (h : k < l.length), l.getD k 0 = l[k] := fun l k h => by rw [List.getD_eq_getElem?_getD, List.getElem?_eq_getElem h]; rfl
    rw [hgd _ _ hxG, hgd _ _ hjA, hgd _ _ (by rw [List.length_set]; exact hzG), List.getElem_set_ne (by omega)] at hFP
    rw [hgd _ _ hxG] at hbx
    rw [hgd _ _ hzG] at hbz
    obtain ⟨ag, _, ea, _, hagl, hac, ham, hAa⟩ := HZ.out.2.2.2.2.iat (by omega)
    injection ea with ea eb1 ec1
    subst ea eb1 ec1
    have hag : ag < w3.heap.size := HA.out.1 ag rfl
    have hx := HX.out
    have hsame : ∀ k, k < H → k ≠ X → V.heap[k]? = W0.heap[k]? := fun k h1 h2 => hK.same k (by omega) h2 h2
    have HS : Hid (S93 yb (w.heap.size + 1) eb X ag n xn zn j xn (.slice (some ⟨X, 0, none⟩) D.length cap) (.slice ya yn yc) (.slice (some ⟨ag, 0, none⟩) A.length ac) G[xn] A[j] V) :=
      ⟨HZ.out.1.of_block (hsame _ hx.2.2.2.1 hx.1), Boxed.cell ((hsame _ (by omega) (by omega)).trans HZ.out.2.2.1), hR, hXV.at xn hxG, by rw [World.cell?_of_block (w := W0) (hsame ag (by omega) (by omega))]; exact hAa j hjA⟩
    have hxi : (xn : Int) < (D.length : Int) := by omega
    have hzi : (zn : Int) < (D.length : Int) := by omega
    have hji : (j : Int) < (A.length : Int) := by omega
    have hne : xn ≠ zn := by omega
    have hXV1 := hXV.set xn hxG (G[xn] - A[j])
    have HXV := Lib.hid (And.intro hXV (And.intro hxG (And.intro (hXV1.at zn (by rw [List.length_set]; exact hzG)) (And.intro (hXV1.free zn) (hXV1.set zn (by rw [List.length_set]; exact hzG) (G[zn] + A[j]))))))
    rw [List.getElem_set_ne hne] at HXV
    have HIx := Lib.hid (And.intro hxi (And.intro hzi hji))
    have hpl2 : (pre.length : Int) ≤ 9000 := by omega
    have HBd : Hid (IntKind.i64.wrap (G[xn] - A[j]) = G[xn] - A[j] ∧ IntKind.i64.wrap (G[zn] + A[j]) = G[zn] + A[j]) := ⟨IntWalk.i64_in _ (by omega), IntWalk.i64_in _ (by omega)⟩
    have k1 := hXV.koth xn (.int .i64 (G[xn] - A[j]))
    have k2 := hXV1.koth zn (.int .i64 (G[zn] + A[j]))
    have ho : ∀ (u : World) (q : Nat) (v : Value) (k : Nat), k ≠ X → (u.setCell ⟨X, q, none⟩ v).heap[k]? = u.heap[k]? := fun u q v k hk => Below.heap_setCell _ _ _ _ (by simpa using hk)
    have hwX2 : w.heap.size ≤ X := by omega
    have HK2 : Hid (KOth V (((V.setCell ⟨X, xn, none⟩ (.int .i64 (G[xn] - A[j]))).setCell ⟨X, zn, none⟩ (.int .i64 (G[zn] + A[j])))) ∧ Kp2 W0.heap.size X X W0 ((V.setCell ⟨X, xn, none⟩ (.int .i64 (G[xn] - A[j]))).setCell ⟨X, zn, none⟩ (.int .i64 (G[zn] + A[j]))) ∧ Below w.heap.size W0 ((V.setCell ⟨X, xn, none⟩ (.int .i64 (G[xn] - A[j]))).setCell ⟨X, zn, none⟩ (.int .i64 (G[zn] + A[j])))) :=
      ⟨k1.trans k2, ⟨hK.oth.trans (k1.trans k2), fun k h1 h2 _ => by rw [ho _ _ _ k h2, ho _ _ _ k h2]; exact hK.same k h1 h2 h2⟩, (hb.setCell (p := ⟨X, xn, none⟩) hwX2 (.int .i64 (G[xn] - A[j]))).setCell (p := ⟨X, zn, none⟩) hwX2 (.int .i64 (G[zn] + A[j]))⟩
    have HS1 : Hid (S93 yb (w.heap.size + 1) eb X ag n xn zn j zn (.slice (some ⟨X, 0, none⟩) D.length cap) (.slice ya yn yc) (.slice (some ⟨ag, 0, none⟩) A.length ac) G[zn] A[j] (V.setCell ⟨X, xn, none⟩ (.int .i64 (G[xn] - A[j])))) :=
      ⟨HS.out.yy.of_block (ho _ _ _ _ hx.1), by rw [World.cell?_of_block (w := V) (ho V xn _ (w.heap.size + 1) (by omega))]; exact HS.out.am, HS.out.ee.of_block (ho _ _ _ _ (by omega)), HXV.out.2.2.1, by rw [World.cell?_of_block (w := V) (ho V xn _ ag (by omega))]; exact HS.out.aj⟩
    have HXf : Hid (V.cell? ⟨X, xn, none⟩ = some (.int .i64 G[xn]) ∧ V.frozen? ⟨X, xn, none⟩ = false ∧ (V.setCell ⟨X, xn, none⟩ (.int .i64 (G[xn] - A[j]))).cell? ⟨X, zn, none⟩ = some (.int .i64 G[zn]) ∧ V.frozen? ⟨X, zn, none⟩ = false) := ⟨hXV.at xn hxG, hXV.free xn, HXV.out.2.2.1, hXV.free zn⟩
    have HXe := Lib.hid HXV.out.2.2.2.2
    obtain ⟨mb, hmb⟩ : ∃ x, x = w.heap.size + 1 := ⟨_, rfl⟩
    rw [← hmb] at HS HS1
    rw [← hmb]
    generalize G[xn] = d1 at *
    generalize G[zn] = d2 at *
    generalize A[j] = m at *
    generalize D.length = dn at HS HS1 HIx ⊢
    generalize A.length = am at HS HS1 HIx ⊢
    clear hmb hXV hXV1 HXV k1 k2 ho hxi hzi hji hbx hbz hAj hgd hsn hlD hdl hxn hzn hj hjA hK hb hR hsame hag hx hwX2 hxG hzG hE hpl hpl2 hbn hagl hac ham hAa heb hlt hne hH hsz hyX hX3 hXl hyl hm3 hw3W hwX hcap
    simp only [List.setIfInBounds_toArray, List.set_cons_zero, List.set_cons_succ]
    refine wpIn_block (wpIn_seq ?_)
    refine wpIn_region_seqL (by kernel_rfl) (S93 yb mb eb X ag n xn zn j xn (.slice (some ⟨X, 0, none⟩) dn cap) (.slice ya yn yc) (.slice (some ⟨ag, 0, none⟩) am ac) d1 m) 12 [(0, 0), (1, 1), (2, 0), (3, 1), (4, 0), (5, 1), (6, 1), (7, 0), (8, 0), (9, 1), (10, 0), (11, 0), (12, 2)] (by kernel_rfl) (⟨HS.out.yy.drew, HS.out.am, HS.out.ee.drew, HS.out.dd, HS.out.aj⟩) ?_
    refine sl_q (d := some 41) rfl rfl rfl (.pointer (some ⟨yb, 1, none⟩)) (fun w => by go_simp) ?_
    simp only [ap_s, ap_n, ls_z, ls_s]
    refine sl_s (d := some 42) rfl rfl rfl (.slice (some ⟨X, 0, none⟩) dn cap) (fun w hw => by have c := hw.yy.at 1 rfl; simp [execOp, Act.eval, go_sem, c]) ?_
    simp only [ap_s, ap_n, ls_z, ls_s]
    refine sl_q (d := some 43) rfl rfl rfl (.pointer (some ⟨eb, 0, none⟩)) (fun w => by go_simp) ?_
    simp only [ap_s, ap_n, ls_z, ls_s]
    refine sl_s (d := some 44) rfl rfl rfl (.int .i64 (xn : Int)) (fun w hw => by have c := hw.ee.at 0 rfl; simp [execOp, Act.eval, go_sem, c]) ?_
    simp only [ap_s, ap_n, ls_z, ls_s]
    refine sl_q (d := some 45) rfl rfl rfl (.pointer (some ⟨X, xn, none⟩)) (fun w => by obtain ⟨i1, i2, i3⟩ := HIx.out; simp [execOp, Act.eval, go_sem, i1, i2, i3]) ?_
    simp only [ap_s, ap_n, ls_z, ls_s]
    refine sl_s (d := some 46) rfl rfl rfl (.int .i64 d1) (fun w hw => by have c := hw.dd; simp [execOp, Act.eval, go_sem, c]) ?_
    simp only [ap_s, ap_n, ls_z, ls_s]
    refine sl_s (d := some 47) rfl rfl rfl (.slice (some ⟨ag, 0, none⟩) am ac) (fun w hw => by have c := hw.am; simp [execOp, Act.eval, go_sem, c]) ?_
    simp only [ap_s, ap_n, ls_z, ls_s]
    refine sl_q (d := some 48) rfl rfl rfl (.int .i64 (j : Int)) (fun w => rfl) ?_
    simp only [ap_s, ap_n, ls_z, ls_s]
    refine sl_q (d := some 49) rfl rfl rfl (.pointer (some ⟨ag, j, none⟩)) (fun w => by obtain ⟨i1, i2, i3⟩ := HIx.out; simp [execOp, Act.eval, go_sem, i1, i2, i3]) ?_
    simp only [ap_s, ap_n, ls_z, ls_s]
    refine sl_s (d := some 50) rfl rfl rfl (.int .i64 m) (fun w hw => by have c := hw.aj; simp [execOp, Act.eval, go_sem, c]) ?_
    simp only [ap_s, ap_n, ls_z, ls_s]
    refine sl_q (d := some 51) rfl rfl rfl (.int .i64 (d1 - m)) (fun w => by have c := HBd.out.1; simp [execOp, Act.eval, go_sem, c]) ?_
    simp only [ap_s, ap_n, ls_z, ls_s]
    refine sl_q (d := some 52) rfl rfl rfl (.pointer (some ⟨X, xn, none⟩)) (fun w => by obtain ⟨i1, i2, i3⟩ := HIx.out; simp [execOp, Act.eval, go_sem, i1, i2, i3]) ?_
    simp only [ap_s, ap_n, ls_z, ls_s]
    refine sl_skip (d := none) rfl rfl rfl ((V.drew).setCell ⟨X, xn, none⟩ (.int .i64 (d1 - m))) (by have c := HXf.out.1; have f := HXf.out.2.1; simp [execOp, Act.eval, go_sem, c, f]) (fun h => by cases h) ?_
    simp only [ap_s, ap_n, ls_z, ls_s]
    refine sl_endN ?_
    show Code.wpIn _ _ _ _ _ _ _
    refine wpIn_region_seqL (by kernel_rfl) (S93 yb mb eb X ag n xn zn j zn (.slice (some ⟨X, 0, none⟩) dn cap) (.slice ya yn yc) (.slice (some ⟨ag, 0, none⟩) am ac) d2 m) 12 [(0, 0), (1, 1), (2, 0), (3, 1), (4, 0), (5, 1), (6, 1), (7, 0), (8, 0), (9, 1), (10, 0), (11, 0), (12, 2)] (by kernel_rfl) (⟨HS1.out.yy.drew, HS1.out.am, HS1.out.ee.drew, HS1.out.dd, HS1.out.aj⟩) ?_
    refine sl_q (d := some 53) rfl rfl rfl (.pointer (some ⟨yb, 1, none⟩)) (fun w => by go_simp) ?_
    simp only [ap_s, ap_n, ls_z, ls_s]
    refine sl_s (d := some 54) rfl rfl rfl (.slice (some ⟨X, 0, none⟩) dn cap) (fun w hw => by have c := hw.yy.at 1 rfl; simp [execOp, Act.eval, go_sem, c]) ?_
    simp only [ap_s, ap_n, ls_z, ls_s]
    refine sl_q (d := some 55) rfl rfl rfl (.pointer (some ⟨eb, 1, none⟩)) (fun w => by go_simp) ?_
    simp only [ap_s, ap_n, ls_z, ls_s]
    refine sl_s (d := some 56) rfl rfl rfl (.int .i64 (zn : Int)) (fun w hw => by have c := hw.ee.at 1 rfl; simp [execOp, Act.eval, go_sem, c]) ?_
    simp only [ap_s, ap_n, ls_z, ls_s]
    refine sl_q (d := some 57) rfl rfl rfl (.pointer (some ⟨X, zn, none⟩)) (fun w => by obtain ⟨i1, i2, i3⟩ := HIx.out; simp [execOp, Act.eval, go_sem, i1, i2, i3]) ?_
    simp only [ap_s, ap_n, ls_z, ls_s]
    refine sl_s (d := some 58) rfl rfl rfl (.int .i64 d2) (fun w hw => by have c := hw.dd; simp [execOp, Act.eval, go_sem, c]) ?_
    simp only [ap_s, ap_n, ls_z, ls_s]
    refine sl_s (d := some 59) rfl rfl rfl (.slice (some ⟨ag, 0, none⟩) am ac) (fun w hw => by have c := hw.am; simp [execOp, Act.eval, go_sem, c]) ?_
    simp only [ap_s, ap_n, ls_z, ls_s]
    refine sl_q (d := some 60) rfl rfl rfl (.int .i64 (j : Int)) (fun w => rfl) ?_
    simp only [ap_s, ap_n, ls_z, ls_s]
    refine sl_q (d := some 61) rfl rfl rfl (.pointer (some ⟨ag, j, none⟩)) (fun w => by obtain ⟨i1, i2, i3⟩ := HIx.out; simp [execOp, Act.eval, go_sem, i1, i2, i3]) ?_
    simp only [ap_s, ap_n, ls_z, ls_s]
    refine sl_s (d := some 62) rfl rfl rfl (.int .i64 m) (fun w hw => by have c := hw.aj; simp [execOp, Act.eval, go_sem, c]) ?_
    simp only [ap_s, ap_n, ls_z, ls_s]
    refine sl_q (d := some 63) rfl rfl rfl (.int .i64 (d2 + m)) (fun w => by have c := HBd.out.2; simp [execOp, Act.eval, go_sem, c]) ?_
    simp only [ap_s, ap_n, ls_z, ls_s]
    refine sl_q (d := some 64) rfl rfl rfl (.pointer (some ⟨X, zn, none⟩)) (fun w => by obtain ⟨i1, i2, i3⟩ := HIx.out; simp [execOp, Act.eval, go_sem, i1, i2, i3]) ?_
    simp only [ap_s, ap_n, ls_z, ls_s]
    refine sl_skip (d := none) rfl rfl rfl (((V.drew.setCell ⟨X, xn, none⟩ (.int .i64 (d1 - m))).drew).setCell ⟨X, zn, none⟩ (.int .i64 (d2 + m))) (by have c := HXf.out.2.2.1; have f := HXf.out.2.2.2; simp [execOp, Act.eval, go_sem, c, f]) (fun h => by cases h) ?_
    simp only [ap_s, ap_n, ls_z, ls_s]
    refine sl_endN ?_
    show _ ∧ _
    refine ⟨rfl, ?_⟩
    rw [hFP.out]
    exact ⟨⟨HK2.out.1.size, HK2.out.1.same⟩, HXe.out.of_block rfl, ⟨⟨HK2.out.2.1.oth.size, HK2.out.2.1.oth.same⟩, HK2.out.2.1.same⟩, ⟨HK2.out.2.2.os, HK2.out.2.2.tape, HK2.out.2.2.output, HK2.out.2.2.size, HK2.out.2.2.block⟩⟩
  case done =>
    rintro DD V hD ⟨hXV, hK, hb⟩ hKD
    have hlD : (mvF (edgesN n) A D (List.finRange (edgesN n).length)).length = D.length := mvF_length _ _ _ _
    have hx := HX.out
    have hsame : ∀ k, k < H → k ≠ X → V.heap[k]? = W0.heap[k]? := fun k h1 h2 => hK.same k (by omega) h2 h2
    have HYr := Lib.hid (HZ.out.1.of_block (hsame _ hx.2.2.2.1 hx.1))
    have HRr := Lib.hid (HZ.out.2.1.of_block (hsame _ (by omega) (by omega)))
    have hOX : OwnI V w.heap.size (.slice (some ⟨X, 0, none⟩) D.length cap) (mvN n A D) := by
      have h := hXV.ownB (base := w.heap.size) (by omega) (by unfold maxLen; omega)
      rw [hlD] at h; exact h
    have hOF : OwnI V w.heap.size (.slice ya yn yc) F := (HZ.out.2.2.2.1.of_same2 (fun g hg => hsame g (HA.out.2 g hg).2 (HA.out.2 g hg).1)).mono (by omega)
    have HOut := Lib.hid (poutside_any _ _ 0 16777216 _ V hOX)
    have HEn := Lib.hid (And.intro hOX (And.intro hOF (And.intro (HBW.out.trans hb) (And.intro (Nat.lt_of_lt_of_le (show w.heap.size + 1 + 1 < W0.heap.size by omega) hD) hKD))))
    have c1 := HYr.out.at 1 rfl
    clear hXV hK hb hKD hD hlD hx hsame hOX hOF hBs hcr0 hg0 hXW hH hsz hyX hX3 hXl hyl hm3 hw3W hwX hcap
    gi_wp2
    refine ⟨trivial, ?_⟩
    gi_at_call 47
    clear c1
    refine (callsIn_wide.2 HOut.out).mono ?_
    rintro e V4 ⟨rfl, hb4⟩
    have HY4 := Lib.hid (HYr.out.below hb4)
    have HR4 := Lib.hid (HRr.out.below hb4)
    have HE4 := Lib.hid (And.intro (HEn.out.1.below hb4) (And.intro (HEn.out.2.1.below hb4) (And.intro (below_then HEn.out.2.2.1 hb4) (And.intro HEn.out.2.2.2.1 ((hb4.block _ (Array.getElem?_eq_some_iff.1 HEn.out.2.2.2.2).1).trans HEn.out.2.2.2.2)))))
    clear hb4 HYr HRr HEn HOut
    have y0 := HY4.out.at 0 rfl
    have y1 := HY4.out.at 1 rfl
    have y2 := HY4.out.at 2 rfl
    have r0 := HR4.out.at 0 rfl
    have r1 := HR4.out.at 1 rfl
    have r2 := HR4.out.at 2 rfl
    have f0 := HR4.out.2.2 0 (by simp)
    have f1 := HR4.out.2.2 1 (by simp)
    have f2 := HR4.out.2.2 2 (by simp)
    obtain ⟨rb, hrb⟩ : ∃ x, x = w.heap.size + 1 + 1 := ⟨_, rfl⟩
    have hwr : w.heap.size ≤ rb := by omega
    have hrl := HX.out.2.2.2.2.1
    have hrX : rb ≠ X := by have := HX.out.2.1; omega
    have hrY : ∀ g, (Value.slice ya yn yc).ownBlock = some g → g ≠ rb := fun g hg => by have := (HZ.out.2.2.2.1.lt g hg).1; omega
    rw [← hrb] at r0 r1 r2 f0 f1 f2 HR4 ⊢
    have HrD : Hid (rb < DD) := by have := HE4.out.2.2.2.1; unfold Hid; omega
    clear hrb hrl
    have HRb := Lib.hid (And.intro hwr (And.intro hrX hrY))
    clear hwr hrX hrY
    have ho3 : ∀ (u : World) (q : Nat) (v : Value) (k : Nat), k ≠ rb → (u.setCell ⟨rb, q, none⟩ v).heap[k]? = u.heap[k]? := fun u q v k hk => Below.heap_setCell _ _ _ _ (by simpa using hk)
    have ho3 := Lib.hid ho3
    cases ho : outB (mvN n A D) 0 16777216 with
    | true =>
      have Ho := Lib.hid ho
      clear ho
      gi_wp2
      obtain ⟨U, hU⟩ : ∃ u, u = (((V4.setCell ⟨rb, 0, none⟩ (.int .i64 0)).setCell ⟨rb, 1, none⟩ (.slice none 0 0)).setCell ⟨rb, 2, none⟩ (.slice none 0 0)) := ⟨_, rfl⟩
      have hUr : RowAt U rb [.int .i64 0, .slice none 0 0, .slice none 0 0] := by rw [hU]; exact ((HR4.out.set 0 (by simp) _).set 1 (by simp) _).set 2 (by simp) _
      have hUo : ∀ k, k ≠ rb → U.heap[k]? = V4.heap[k]? := fun k hk => by rw [hU, ho3.out _ _ _ k hk, ho3.out _ _ _ k hk, ho3.out _ _ _ k hk]
      have hUb : Below w.heap.size w U := by rw [hU]; exact ((HE4.out.2.2.1.setCell (p := ⟨rb, 0, none⟩) HRb.out.1 _).setCell (p := ⟨rb, 1, none⟩) HRb.out.1 _).setCell (p := ⟨rb, 2, none⟩) HRb.out.1 _
      rw [← hU]
      clear hU
      have hKU : U.heap[DD]? = some (.deferred (some [])) := (hUo DD (by have := HrD.out; omega)).trans HE4.out.2.2.2.2
      have hUp : RowAt (U.putObj DD (.deferred none)) rb [.int .i64 0, .slice none 0 0, .slice none 0 0] := hUr.of_block (World.putObj_heap_other (by have := HrD.out; omega))
      refine ⟨by simp, Or.inl ⟨_, _, rfl, run_takeDeferred hKU, _, results_row2 rfl rb [.int .i64 0, .slice none 0 0, .slice none 0 0] (.int .i64 7) hUp rowT_st rfl rfl, ?_⟩⟩
      refine ⟨?_, hUb.trans (belowK_b (w := w) (Nat.le_refl _) U DD _ _ (by have := HrD.out; have := HRb.out.1; omega) hKU rfl rfl)⟩
      exact ⟨fun _ => rfl, fun h => by rw [Ho.out] at h; cases h⟩
    | false =>
      have Ho := Lib.hid ho
      clear ho
      gi_wp2
      obtain ⟨U, hU⟩ : ∃ u, u = (((V4.setCell ⟨rb, 0, none⟩ (.int .i64 (n : Int))).setCell ⟨rb, 1, none⟩ (.slice (some ⟨X, 0, none⟩) D.length cap)).setCell ⟨rb, 2, none⟩ (.slice ya yn yc)) := ⟨_, rfl⟩
      have hUr : RowAt U rb [.int .i64 (n : Int), .slice (some ⟨X, 0, none⟩) D.length cap, .slice ya yn yc] := by rw [hU]; exact ((HR4.out.set 0 (by simp) _).set 1 (by simp) _).set 2 (by simp) _
      have hUo : ∀ k, k ≠ rb → U.heap[k]? = V4.heap[k]? := fun k hk => by rw [hU, ho3.out _ _ _ k hk, ho3.out _ _ _ k hk, ho3.out _ _ _ k hk]
      have hUb : Below w.heap.size w U := by rw [hU]; exact ((HE4.out.2.2.1.setCell (p := ⟨rb, 0, none⟩) HRb.out.1 _).setCell (p := ⟨rb, 1, none⟩) HRb.out.1 _).setCell (p := ⟨rb, 2, none⟩) HRb.out.1 _
      rw [← hU]
      clear hU
      have hKU : U.heap[DD]? = some (.deferred (some [])) := (hUo DD (by have := HrD.out; omega)).trans HE4.out.2.2.2.2
      have hUp : RowAt (U.putObj DD (.deferred none)) rb [.int .i64 (n : Int), .slice (some ⟨X, 0, none⟩) D.length cap, .slice ya yn yc] := hUr.of_block (World.putObj_heap_other (by have := HrD.out; omega))
      refine ⟨by simp, Or.inl ⟨_, _, rfl, run_takeDeferred hKU, _, results_row2 rfl rb [.int .i64 (n : Int), .slice (some ⟨X, 0, none⟩) D.length cap, .slice ya yn yc] (.int .i64 0) hUp rowT_st rfl rfl, ?_⟩⟩
      refine ⟨?_, hUb.trans (belowK_b (w := w) (Nat.le_refl _) U DD _ _ (by have := HrD.out; have := HRb.out.1; omega) hKU rfl rfl)⟩
      refine ⟨fun h => (by rw [Ho.out] at h; cases h), fun _ => ⟨_, _, rfl, ?_, ?_⟩⟩
      · exact ownsRow_putObj (HE4.out.1.of_same2 (fun g hg => hUo g (by have : X = g := (by simpa [Value.ownBlock] using hg); have := HRb.out.2.1; omega))) _ hKU rfl
      · exact ownsRow_putObj (HE4.out.2.1.of_same2 (fun g hg => hUo g (HRb.out.2.2 g hg))) _ hKU rfl
end Go.Proofs.YtkpgciimhjkajaaGreatDoor
