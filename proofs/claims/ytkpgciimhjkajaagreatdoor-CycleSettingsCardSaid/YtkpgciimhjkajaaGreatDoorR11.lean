/- Part 11 of the proof: laws on memory and what functions of the program return. No conditions but those that each theorem names. -/
import Derived.Test.YtkpgciimhjkajaaGreatDoorR10
import Derived.Test.YtkpgciimhjkajaaGreatDoorShelfB
import Derived.Laws.CopyOwn
set_option linter.unusedVariables false
set_option linter.unusedSimpArgs false
/- The program's model: Step. -/
namespace Go.Proofs.YtkpgciimhjkajaaGreatDoor
open Go Go.RowKit
theorem pmk1_any (fr sl mv : Int) (w : World) : Calls Tryz.prog 72 #[.agg #[.int .i64 fr, .int .i64 sl, .int .i64 mv]] w fun e w' => e = .returned (.func (.func 89) #[] #[.pointer (some ⟨w.heap.size, 0, none⟩)]) ∧ w' = w.alloc (.cells #[.int .i64 fr, .int .i64 sl, .int .i64 mv] 24) := by
  go_enter Tryz.func72, Tryz.ntmps72
  go_wp2_with fail
  go_ret
  exact ⟨rfl, rfl⟩
theorem pmk2_any (fr sl mv : Int) (w : World) : Calls Tryz.prog 73 #[.agg #[.int .i64 fr, .int .i64 sl, .int .i64 mv]] w fun e w' => e = .returned (.func (.func 91) #[] #[.pointer (some ⟨w.heap.size, 0, none⟩)]) ∧ w' = w.alloc (.cells #[.int .i64 fr, .int .i64 sl, .int .i64 mv] 24) := by
  go_enter Tryz.func73, Tryz.ntmps73
  go_wp2_with fail
  go_ret
  exact ⟨rfl, rfl⟩
theorem seq_rowst {ops : Array Oper} {Q : Exit → Act → World → Prop} {S : World → Prop} {r : List (Nat × Bool)} {i : Nat} {o : Oper} {a : Act} {w : World} {d : Option Tmp} (ho : ops[i]? = some o) (hd : o.dst = d) (hw : Region.wanted o (yielded ops a.tmps) = true)
    {t : TypeId} (x y : Operand) (hop : o.op = .store t x y) (b : Nat) (hx : a.eval x = .pointer (some ⟨b, 0, none⟩)) (cs cs' : List Value) (hy : a.eval y = .agg cs'.toArray) (h : RowAt w b cs) (hl : cs'.length = cs.length) (ht : RowT t cs.length) (h1 : ∀ v ∈ cs', v.oneCell' = true)
    (k : ∀ w', RowAt w' b cs' → ApartR b w w' → S w' ∧ wpSeq Tryz.prog ops Q S r (a.put d undef) w') : wpSeq Tryz.prog ops Q S ((i, false) :: r) a w := by
  obtain ⟨w', h2, h3, h4⟩ := run_row_store h hl ht h1
  obtain ⟨k1, k2⟩ := k w' h3 h4
  refine seq_skip (d := d) ho hd hw w' ?_ k1 k2
  unfold execOp
  simp only [hop, hx, hy, Sem.run_bind, h2, Result.andThen_ok, Sem.run_pure]
theorem ret_row3 {fn : Func} {R : Ending → World → Prop} {a : Act} {w : World} {i j k : Nat} {t : TypeId} (hfn : fn.results = #[.cell i t, .tmp j, .tmp k]) (b : Nat) (cs : List Value) (q r : Value) (h : RowAt w b cs) (ht : RowT t cs.length) (hp : a.tmps.getD i undef = .pointer (some ⟨b, 0, none⟩)) (hq : a.tmps.getD j undef = q) (hr : a.tmps.getD k undef = r) (hd : a.defers = [])
    (hR : R (.returned (.tuple #[.agg cs.toArray, q, r])) w) : bodyPost Tryz.prog fn R .ret a w := by
  refine bodyPost_ret ?_ hd hR
  have hl := h.loadVar ht
  unfold results
  rw [hfn]
  simp [hp, hq, hr, asAddr, hl, -Array.getD_eq_getD_getElem?]
structure StO (n : Nat) (fr sl mv : Int) (D F : List Int) (base : Nat) (W : World) (m : Int) (xv yv : Value) (q : Int) : Prop where
  t : outB (stD n fr sl mv D F) 0 16777216 = true → m = 0 ∧ xv = .slice none 0 0 ∧ yv = .slice none 0 0 ∧ q = 7
  f : outB (stD n fr sl mv D F) 0 16777216 = false → m = n ∧ q = 0 ∧ OwnI W base xv (stD n fr sl mv D F) ∧ OwnI W base yv (accN n fr sl D F)
theorem StO.of {n : Nat} {fr sl mv : Int} {D F : List Int} {base : Nat} {W W' : World} {m q : Int} {xv yv : Value} (h : StO n fr sl mv D F base W m xv yv q) (hx : ∀ v g, (v = xv ∨ v = yv) → v.ownBlock = some g → base ≤ g → g < W.heap.size → W'.heap[g]? = W.heap[g]?) : StO n fr sl mv D F base W' m xv yv q :=
  ⟨h.t, fun ho => by
    obtain ⟨h1, h2, h3, h4⟩ := h.f ho
    exact ⟨h1, h2, h3.of_same2 (fun g hg => hx _ g (Or.inl rfl) hg (h3.lt g hg).1 (h3.lt g hg).2), h4.of_same2 (fun g hg => hx _ g (Or.inr rfl) hg (h4.lt g hg).1 (h4.lt g hg).2)⟩⟩
theorem StO.mono {n : Nat} {fr sl mv : Int} {D F : List Int} {base B : Nat} {W : World} {m q : Int} {xv yv : Value} (h : StO n fr sl mv D F base W m xv yv q) (hB : B ≤ base) : StO n fr sl mv D F B W m xv yv q :=
  ⟨h.t, fun ho => by obtain ⟨h1, h2, h3, h4⟩ := h.f ho; exact ⟨h1, h2, h3.mono hB, h4.mono hB⟩⟩
theorem stp_out {n : Nat} {fr sl mv : Int} {D F : List Int} {e : Ending} {w w' : World} (h : stpPr n fr sl mv D F e w w') : ∃ (m : Int) (a1 : Option Addr) (n1 c1 : Nat) (a2 : Option Addr) (n2 c2 : Nat) (a3 : Option Addr) (n3 c3 : Nat) (q : Int),
    e = .returned (.tuple #[.agg #[.int .i64 m, .slice a1 n1 c1, .slice a2 n2 c2, .slice a3 n3 c3], .int .i64 q]) ∧ StO n fr sl mv D F w.heap.size w' m (.slice a1 n1 c1) (.slice a2 n2 c2) q ∧ (∀ (v : Value) (g : Nat), (v = .slice a1 n1 c1 ∨ v = .slice a2 n2 c2) → v.ownBlock = some g → w.heap.size ≤ g ∧ g < w'.heap.size) := by
  obtain ⟨hT, hF⟩ := h
  cases ho : outB (stD n fr sl mv D F) 0 16777216 with
  | true => exact ⟨0, none, 0, 0, none, 0, 0, none, 0, 0, 7, hT ho, ⟨fun _ => ⟨rfl, rfl, rfl, rfl⟩, fun h => by rw [ho] at h; cases h⟩, fun v g hv hg => by rcases hv with rfl | rfl <;> simp [Value.ownBlock] at hg⟩
  | false =>
    obtain ⟨dv, fv, bv, bl, he, h1, h2, h3⟩ := hF ho
    obtain ⟨a1, c1, rfl⟩ := h1.slice
    obtain ⟨a2, c2, rfl⟩ := h2.slice
    obtain ⟨a3, c3, rfl⟩ := h3.slice
    exact ⟨n, a1, _, c1, a2, _, c2, a3, _, c3, 0, he, ⟨fun h => (by rw [ho] at h; cases h), fun _ => ⟨rfl, rfl, h1, h2⟩⟩, fun v g hv hg => hv.elim (fun e => by subst e; exact h1.lt g hg) (fun e => by subst e; exact h2.lt g hg)⟩
structure MS (n : Nat) (fr sl mv : Int) (D F : List Int) (w1 W : World) (pb : Nat) (m : Int) (xv yv zv : Value) (q : Int) : Prop where
  row : RowAt W pb [.int .i64 m, xv, yv, zv]
  lo : w1.heap.size ≤ pb
  be : Below w1.heap.size w1 W
  st : StO n fr sl mv D F w1.heap.size W m xv yv q
def stepPr (n : Nat) (fr sl mv : Int) (D F : List Int) (e : Ending) (w w' : World) : Prop :=
  ∃ (m : Int) (a1 : Option Addr) (n1 c1 : Nat) (a2 : Option Addr) (n2 c2 : Nat) (bv : Value) (q : Int), e = .returned (.tuple #[.agg #[.int .i64 m, .slice a1 n1 c1, .slice a2 n2 c2], bv, .int .i64 q]) ∧ StO n fr sl mv D F w.heap.size w' m (.slice a1 n1 c1) (.slice a2 n2 c2) q
set_option maxRecDepth 100000 in
set_option maxHeartbeats 16000000 in
theorem pstep_any (n : Nat) (hn : Fq n) (fr sl mv : Int) (hsc : outB [fr, sl, mv] 1 4 = false) (dv fv : Value) (D F : List Int) (B0 : Nat) (w : World) (hcr : Crn w) (hg : 0 < w.heap.size) (hok : SOk n D F) (hd : OwnI w B0 dv D) (hf : OwnI w B0 fv F) :
    Calls Tryz.prog 58 #[.agg #[.int .i64 fr, .int .i64 sl, .int .i64 mv], stv n dv fv] w fun e w' => stepPr n fr sl mv D F e w w' ∧ Below w.heap.size w w' := by
  obtain ⟨w1, hw1⟩ : ∃ u, u = ((w.alloc (.cells #[.int .i64 fr, .int .i64 sl, .int .i64 mv] 24)).alloc (.cells #[.int .i64 (n : Int), dv, fv] 36)).alloc (.cells #[.int .i64 0, .slice none 0 0, .slice none 0 0] 36) := ⟨_, rfl⟩
  have hb1 : Below w.heap.size w w1 := by rw [hw1]; exact (((Below.refl _ _).alloc (Nat.le_refl _) _).alloc (by simp) _).alloc (by simp; omega) _
  have hC1 : RowAt w1 w.heap.size [.int .i64 fr, .int .i64 sl, .int .i64 mv] := by rw [hw1]; exact ((RowAt.new _ [.int .i64 fr, .int .i64 sl, .int .i64 mv] (by simp) _ rfl).alloc _).alloc _
  have hS1 : RowAt w1 (w.heap.size + 1) [.int .i64 (n : Int), dv, fv] := by rw [hw1]; exact (RowAt.new _ [.int .i64 (n : Int), dv, fv] (by simp) _ (by simp)).alloc _
  have hR1 : RowAt w1 (w.heap.size + 1 + 1) [.int .i64 0, .slice none 0 0, .slice none 0 0] := by rw [hw1]; exact RowAt.new _ [.int .i64 0, .slice none 0 0, .slice none 0 0] (by simp) _ (by simp)
  have HR1 := Lib.hid (And.intro hC1 (And.intro hS1 hR1))
  have hcr1 := hcr.below hb1 hg
  have hg1 := Nat.lt_of_lt_of_le hg hb1.size
  obtain ⟨da, dn, dc, rfl⟩ : ∃ a m c, dv = .slice a m c := by obtain ⟨a, c, h⟩ := hd.slice; exact ⟨a, _, c, h⟩
  obtain ⟨fa, fn, fc, rfl⟩ : ∃ a m c, fv = .slice a m c := by obtain ⟨a, c, h⟩ := hf.slice; exact ⟨a, _, c, h⟩
  have HCh := Lib.hid (fun kb k1 k2 W (hb : Below w1.heap.size w1 W) (hk : RowAt W kb [.func (.func 89) #[] #[.pointer (some ⟨k1, 0, none⟩)], .func (.func 91) #[] #[.pointer (some ⟨k2, 0, none⟩)]]) (h1 : RowAt W k1 [.int .i64 fr, .int .i64 sl, .int .i64 mv]) (h2 : RowAt W k2 [.int .i64 fr, .int .i64 sl, .int .i64 mv]) =>
    pchain_any n hn fr sl mv hsc kb k1 k2 _ _ D F B0 W (hcr1.below hb hg1) (Nat.lt_of_lt_of_le hg1 hb.size) hk h1 h2 hok ((hd.below hb1).below hb) ((hf.below hb1).below hb))
  have HB1 := Lib.hid hb1
  have Hw1 := Lib.hid hw1
  clear hcr hg hn hok hd hf hb1 hw1 hsc hC1 hS1 hR1 hcr1 hg1
  unfold prv at HCh
  unfold stv
  go_enter Tryz.func58, Tryz.ntmps58
  go_upto_region 1 with fail
  rw [← Hw1.out]
  refine region_cut (fun a W => ∃ (pb k1 k2 kb : Nat) (m : Int) (a1 : Option Addr) (n1 c1 : Nat) (a2 : Option Addr) (n2 c2 : Nat) (a3 : Option Addr) (n3 c3 : Nat) (q : Int), a = { tmps := (([.agg #[.int .i64 fr, .int .i64 sl, .int .i64 mv], .agg #[.int .i64 (n : Int), .slice da dn dc, .slice fa fn fc], .pointer (some ⟨w.heap.size, 0, none⟩), .pointer (some ⟨w.heap.size + 1, 0, none⟩), .pointer (some ⟨w.heap.size + 1 + 1, 0, none⟩), .slice none 0 0, .int .i64 0, .pointer (some ⟨pb, 0, none⟩), .int .i64 q, .tuple #[.agg #[.int .i64 m, .slice a1 n1 c1, .slice a2 n2 c2, .slice a3 n3 c3], .int .i64 q], .agg #[.int .i64 fr, .int .i64 sl, .int .i64 mv], .func (.func 89) #[] #[.pointer (some ⟨k1, 0, none⟩)], .agg #[.int .i64 fr, .int .i64 sl, .int .i64 mv]] : List Value) ++ ([.func (.func 91) #[] #[.pointer (some ⟨k2, 0, none⟩)], .slice (some ⟨kb, 0, none⟩) 2 2, .agg #[.int .i64 (n : Int), .slice da dn dc, .slice fa fn fc], .agg #[.int .i64 (n : Int), .slice da dn dc, .slice fa fn fc, .slice none 0 0], .tuple #[.agg #[.int .i64 m, .slice a1 n1 c1, .slice a2 n2 c2, .slice a3 n3 c3], .int .i64 q], .agg #[.int .i64 m, .slice a1 n1 c1, .slice a2 n2 c2, .slice a3 n3 c3], .int .i64 q, undef, undef, undef, undef, undef])).toArray, defers := [] } ∧ MS n fr sl mv D F w1 W pb m (.slice a1 n1 c1) (.slice a2 n2 c2) (.slice a3 n3 c3) q) ?_ ?_
  · have HB0 : Hid (Below w1.heap.size w1 w1.drew) := (Below.refl _ _).drew
    refine wp_region_tree (by kernel_rfl) (fun w' => RowAt w' w.heap.size [.int .i64 fr, .int .i64 sl, .int .i64 mv] ∧ RowAt w' (w.heap.size + 1) [.int .i64 (n : Int), .slice da dn dc, .slice fa fn fc]) 12 (.q 0 1 (.q 2 1 (.q 5 1 (.q 6 0 (.fork (.e 1 (.fork (.e 3 (.fork (.e 4 (.fork (.e 7 (.q 8 0 (.q 9 0 (.q 10 0 (.e 11 (.e 12 (.q 13 0 (.nil)))))))) (.e 11 (.e 7 (.q 8 0 (.q 9 0 (.q 10 0 (.e 12 (.q 13 0 (.nil)))))))))) (.e 11 (.e 4 (.e 7 (.q 8 0 (.q 9 0 (.q 10 0 (.e 12 (.q 13 0 (.nil))))))))))) (.e 11 (.e 3 (.e 4 (.e 7 (.q 8 0 (.q 9 0 (.q 10 0 (.e 12 (.q 13 0 (.nil)))))))))))) (.e 11 (.e 1 (.e 3 (.e 4 (.e 7 (.q 8 0 (.q 9 0 (.q 10 0 (.e 12 (.q 13 0 (.nil)))))))))))))))) (by kernel_rfl) (⟨HR1.out.1.drew, HR1.out.2.1.drew⟩) ?_
    refine tr_s (d := some 10) rfl rfl rfl (.agg #[.int .i64 fr, .int .i64 sl, .int .i64 mv]) (fun w hw => by have c0 := hw.1.at 0 rfl; have c1 := hw.1.at 1 rfl; have c2 := hw.1.at 2 rfl; simp [execOp, Act.eval, go_sem, c0, c1, c2]) ?_
    simp only [ap_s, ap_n, ls_z, ls_s]
    refine tr_s (d := some 12) rfl rfl rfl (.agg #[.int .i64 fr, .int .i64 sl, .int .i64 mv]) (fun w hw => by have c0 := hw.1.at 0 rfl; have c1 := hw.1.at 1 rfl; have c2 := hw.1.at 2 rfl; simp [execOp, Act.eval, go_sem, c0, c1, c2]) ?_
    simp only [ap_s, ap_n, ls_z, ls_s]
    refine tr_s (d := some 15) rfl rfl rfl (.agg #[.int .i64 (n : Int), .slice da dn dc, .slice fa fn fc]) (fun w hw => by have c0 := hw.2.at 0 rfl; have c1 := hw.2.at 1 rfl; have c2 := hw.2.at 2 rfl; simp [execOp, Act.eval, go_sem, c0, c1, c2]) ?_
    simp only [ap_s, ap_n, ls_z, ls_s]
    refine tr_q (d := some 16) rfl rfl rfl (.agg #[.int .i64 (n : Int), .slice da dn dc, .slice fa fn fc, .slice none 0 0]) (fun w => by simp [execOp, Act.eval, go_sem]) ?_
    simp only [ap_s, ap_n, ls_z, ls_s]
    refine tr_fork ?_ ?_
    · refine tr_call (d := some 11) rfl rfl rfl ⟨_, Tryz.func72, by kernel_rfl, by kernel_rfl⟩ _ _ _ rfl rfl [.agg #[.int .i64 fr, .int .i64 sl, .int .i64 mv]] rfl (pmk1_any fr sl mv _) ?_
      rintro e W1 ⟨rfl, hw⟩
      have hb : Below w1.drew.heap.size w1.drew W1 := by rw [hw]; exact (Below.refl _ _).alloc (Nat.le_refl _) _
      obtain ⟨k1, hk⟩ : ∃ x, x = w1.drew.heap.size := ⟨_, rfl⟩
      have HB1 := Lib.hid (below_then HB0.out hb)
      have Hk11 : Hid (RowAt W1 k1 [.int .i64 fr, .int .i64 sl, .int .i64 mv]) := by rw [hw]; exact RowAt.new _ [.int .i64 fr, .int .i64 sl, .int .i64 mv] (by simp) _ hk.symm
      have hz1 : w1.drew.heap.size ≤ W1.heap.size := hb.size
      rw [← hk]
      clear hw hk hb
      refine ⟨_, rfl, fun _ => ⟨HR1.out.1.below HB1.out, HR1.out.2.1.below HB1.out⟩, ?_⟩
      simp only [ap_s, ap_n, ls_z, ls_s]
      refine tr_fork ?_ ?_
      · refine tr_call (d := some 13) rfl rfl rfl ⟨_, Tryz.func73, by kernel_rfl, by kernel_rfl⟩ _ _ _ rfl rfl [.agg #[.int .i64 fr, .int .i64 sl, .int .i64 mv]] rfl (pmk2_any fr sl mv _) ?_
        rintro e W2 ⟨rfl, hw⟩
        have hb : Below W1.heap.size W1 W2 := by rw [hw]; exact (Below.refl _ _).alloc (Nat.le_refl _) _
        obtain ⟨k2, hk⟩ : ∃ x, x = W1.heap.size := ⟨_, rfl⟩
        have HB2 := Lib.hid (below_then HB1.out hb)
        have Hk12 := Lib.hid (Hk11.out.below hb)
        clear Hk11
        have Hk22 : Hid (RowAt W2 k2 [.int .i64 fr, .int .i64 sl, .int .i64 mv]) := by rw [hw]; exact RowAt.new _ [.int .i64 fr, .int .i64 sl, .int .i64 mv] (by simp) _ hk.symm
        have hz2 : W1.heap.size ≤ W2.heap.size := hb.size
        rw [← hk]
        clear hw hk hb
        refine ⟨_, rfl, fun _ => ⟨HR1.out.1.below HB2.out, HR1.out.2.1.below HB2.out⟩, ?_⟩
        simp only [ap_s, ap_n, ls_z, ls_s]
        refine tr_fork ?_ ?_
        · obtain ⟨W3, hw⟩ : ∃ u, u = W2.alloc (.cells #[.func (.func 89) #[] #[.pointer (some ⟨k1, 0, none⟩)], .func (.func 91) #[] #[.pointer (some ⟨k2, 0, none⟩)]] 131) := ⟨_, rfl⟩
          obtain ⟨kb, hk⟩ : ∃ x, x = W2.heap.size := ⟨_, rfl⟩
          have hb : Below W2.heap.size W2 W3 := by rw [hw]; exact (Below.refl _ _).alloc (Nat.le_refl _) _
          have HB3 := Lib.hid (below_then HB2.out hb)
          have Hk13 := Lib.hid (Hk12.out.below hb)
          clear Hk12
          have Hk23 := Lib.hid (Hk22.out.below hb)
          clear Hk22
          have hz3 : W2.heap.size ≤ W3.heap.size := hb.size
          have Hkb3 : Hid (RowAt W3 kb [.func (.func 89) #[] #[.pointer (some ⟨k1, 0, none⟩)], .func (.func 91) #[] #[.pointer (some ⟨k2, 0, none⟩)]]) := by rw [hw]; exact RowAt.new _ [.func (.func 89) #[] #[.pointer (some ⟨k1, 0, none⟩)], .func (.func 91) #[] #[.pointer (some ⟨k2, 0, none⟩)]] (by simp) _ hk.symm
          refine tr_run (d := some 14) rfl rfl rfl (.slice (some ⟨kb, 0, none⟩) 2 2) W3 (by rw [hw, hk]; simp [execOp, Act.eval, go_sem, Instr.buildSlice]) (fun _ => ⟨HR1.out.1.below HB3.out, HR1.out.2.1.below HB3.out⟩) ?_
          simp only [ap_s, ap_n, ls_z, ls_s]
          clear hw hk hb
          refine tr_fork ?_ ?_
          · refine tr_call (d := some 17) rfl rfl rfl ⟨_, Tryz.func74, by kernel_rfl, by kernel_rfl⟩ _ _ _ rfl rfl [.slice (some ⟨kb, 0, none⟩) 2 2, .agg #[.int .i64 (n : Int), .slice da dn dc, .slice fa fn fc, .slice none 0 0]] rfl (HCh.out kb k1 k2 _ HB3.out Hkb3.out Hk13.out Hk23.out) ?_
            rintro e W4 ⟨hst, hb⟩
            obtain ⟨m, a1, n1, c1, a2, n2, c2, a3, n3, c3, q, rfl, hst, hbd⟩ := stp_out hst
            have HB4 := Lib.hid (below_then HB3.out hb)
            have Hk14 := Lib.hid (Hk13.out.below hb)
            clear Hk13
            have Hk24 := Lib.hid (Hk23.out.below hb)
            clear Hk23
            have Hkb4 := Lib.hid (Hkb3.out.below hb)
            clear Hkb3
            have Hst4 : Hid (StO n fr sl mv D F w1.heap.size W4 m (.slice a1 n1 c1) (.slice a2 n2 c2) q) := hst.mono HB3.out.size
            have HZs := Lib.hid hbd
            have hz4 : W3.heap.size ≤ W4.heap.size := hb.size
            clear hst hb hbd
            refine ⟨_, rfl, fun _ => ⟨HR1.out.1.below HB4.out, HR1.out.2.1.below HB4.out⟩, ?_⟩
            simp only [ap_s, ap_n, ls_z, ls_s]
            refine tr_q (d := some 9) rfl rfl rfl (.tuple #[.agg #[.int .i64 m, .slice a1 n1 c1, .slice a2 n2 c2, .slice a3 n3 c3], .int .i64 q]) (fun w => rfl) ?_
            simp only [ap_s, ap_n, ls_z, ls_s]
            refine tr_q (d := some 18) rfl rfl rfl (.agg #[.int .i64 m, .slice a1 n1 c1, .slice a2 n2 c2, .slice a3 n3 c3]) (fun w => by simp [execOp, Act.eval, go_sem]) ?_
            simp only [ap_s, ap_n, ls_z, ls_s]
            refine tr_q (d := some 19) rfl rfl rfl (.int .i64 q) (fun w => by simp [execOp, Act.eval, go_sem]) ?_
            simp only [ap_s, ap_n, ls_z, ls_s]
            obtain ⟨W5, hw⟩ : ∃ u, u = W4.alloc (.cells #[.int .i64 0, .slice none 0 0, .slice none 0 0, .slice none 0 0] 129) := ⟨_, rfl⟩
            obtain ⟨pb, hy⟩ : ∃ u, u = W4.heap.size := ⟨_, rfl⟩
            have hb : Below W4.heap.size W4 W5 := by rw [hw]; exact (Below.refl _ _).alloc (Nat.le_refl _) _
            have HB5 := Lib.hid (below_then HB4.out hb)
            have HPl : Hid (w1.heap.size ≤ pb) := by have := HB4.out.size; unfold Hid; rw [hy]; exact this
            have Hk15 := Lib.hid (Hk14.out.below hb)
            clear Hk14
            have Hk25 := Lib.hid (Hk24.out.below hb)
            clear Hk24
            have Hkb5 := Lib.hid (Hkb4.out.below hb)
            clear Hkb4
            have Hst5 : Hid (StO n fr sl mv D F w1.heap.size _ m (.slice a1 n1 c1) (.slice a2 n2 c2) q) := Lib.hid (Hst4.out.of (fun v g _ _ _ hg => (hb).block g hg))
            clear Hst4
            have hz5 : W4.heap.size ≤ W5.heap.size := hb.size
            have Hy5 : Hid (RowAt W5 pb [.int .i64 0, .slice none 0 0, .slice none 0 0, .slice none 0 0]) := by rw [hw]; exact RowAt.new _ [.int .i64 0, .slice none 0 0, .slice none 0 0, .slice none 0 0] (by simp) _ hy.symm
            have HZy : Hid (W4.heap.size ≤ pb ∧ pb < W5.heap.size) := ⟨Nat.le_of_eq hy.symm, Hy5.out.lt⟩
            refine tr_run (d := some 7) rfl rfl rfl (.pointer (some ⟨pb, 0, none⟩)) W5 (by rw [hw, hy]; simp [execOp, Act.eval, go_sem]) (fun _ => ⟨HR1.out.1.below HB5.out, HR1.out.2.1.below HB5.out⟩) ?_
            simp only [ap_s, ap_n, ls_z, ls_s]
            clear hw hy hb
            refine tr_rowst (d := none) rfl rfl rfl _ _ rfl pb rfl [.int .i64 0, .slice none 0 0, .slice none 0 0, .slice none 0 0] [.int .i64 m, .slice a1 n1 c1, .slice a2 n2 c2, .slice a3 n3 c3] rfl Hy5.out rfl rowT_pr (by intro v hv; simp at hv; rcases hv with rfl | rfl | rfl | rfl <;> rfl) ?_
            intro W9 hr ha
            refine ⟨(fun h => by cases h), ?_⟩
            simp only [ap_s, ap_n, ls_z, ls_s]
            refine tr_q (d := some 8) rfl rfl rfl (.int .i64 q) (fun w => rfl) ?_
            simp only [ap_s, ap_n, ls_z, ls_s]
            refine tr_end ?_
            exact ⟨rfl, pb, k1, k2, kb, m, a1, n1, c1, a2, n2, c2, a3, n3, c3, q, rfl, hr, HPl.out, HB5.out.trans (ha.below HPl.out), Hst5.out.of (fun v g hv hg _ _ => ha.2.2.2.2 g (fun e => by have z1 := HZs.out v g hv hg; have z2 := HZy.out; omega))⟩
          · obtain ⟨W4, hw⟩ : ∃ u, u = W3.alloc (.cells #[.int .i64 0, .slice none 0 0, .slice none 0 0, .slice none 0 0] 129) := ⟨_, rfl⟩
            obtain ⟨pb, hy⟩ : ∃ u, u = W3.heap.size := ⟨_, rfl⟩
            have hb : Below W3.heap.size W3 W4 := by rw [hw]; exact (Below.refl _ _).alloc (Nat.le_refl _) _
            have HB4 := Lib.hid (below_then HB3.out hb)
            have HPl : Hid (w1.heap.size ≤ pb) := by have := HB3.out.size; unfold Hid; rw [hy]; exact this
            have Hk14 := Lib.hid (Hk13.out.below hb)
            clear Hk13
            have Hk24 := Lib.hid (Hk23.out.below hb)
            clear Hk23
            have Hkb4 := Lib.hid (Hkb3.out.below hb)
            clear Hkb3
            have hz4 : W3.heap.size ≤ W4.heap.size := hb.size
            have Hy4 : Hid (RowAt W4 pb [.int .i64 0, .slice none 0 0, .slice none 0 0, .slice none 0 0]) := by rw [hw]; exact RowAt.new _ [.int .i64 0, .slice none 0 0, .slice none 0 0, .slice none 0 0] (by simp) _ hy.symm
            have HZy : Hid (W3.heap.size ≤ pb ∧ pb < W4.heap.size) := ⟨Nat.le_of_eq hy.symm, Hy4.out.lt⟩
            refine tr_run (d := some 7) rfl rfl rfl (.pointer (some ⟨pb, 0, none⟩)) W4 (by rw [hw, hy]; simp [execOp, Act.eval, go_sem]) (fun _ => ⟨HR1.out.1.below HB4.out, HR1.out.2.1.below HB4.out⟩) ?_
            simp only [ap_s, ap_n, ls_z, ls_s]
            clear hw hy hb
            refine tr_call (d := some 17) rfl rfl rfl ⟨_, Tryz.func74, by kernel_rfl, by kernel_rfl⟩ _ _ _ rfl rfl [.slice (some ⟨kb, 0, none⟩) 2 2, .agg #[.int .i64 (n : Int), .slice da dn dc, .slice fa fn fc, .slice none 0 0]] rfl (HCh.out kb k1 k2 _ HB4.out Hkb4.out Hk14.out Hk24.out) ?_
            rintro e W5 ⟨hst, hb⟩
            obtain ⟨m, a1, n1, c1, a2, n2, c2, a3, n3, c3, q, rfl, hst, hbd⟩ := stp_out hst
            have HB5 := Lib.hid (below_then HB4.out hb)
            have Hk15 := Lib.hid (Hk14.out.below hb)
            clear Hk14
            have Hk25 := Lib.hid (Hk24.out.below hb)
            clear Hk24
            have Hkb5 := Lib.hid (Hkb4.out.below hb)
            clear Hkb4
            have Hy5 := Lib.hid (Hy4.out.below hb)
            clear Hy4
            have Hst5 : Hid (StO n fr sl mv D F w1.heap.size W5 m (.slice a1 n1 c1) (.slice a2 n2 c2) q) := hst.mono HB4.out.size
            have HZs := Lib.hid hbd
            have hz5 : W4.heap.size ≤ W5.heap.size := hb.size
            clear hst hb hbd
            refine ⟨_, rfl, fun _ => ⟨HR1.out.1.below HB5.out, HR1.out.2.1.below HB5.out⟩, ?_⟩
            simp only [ap_s, ap_n, ls_z, ls_s]
            refine tr_q (d := some 9) rfl rfl rfl (.tuple #[.agg #[.int .i64 m, .slice a1 n1 c1, .slice a2 n2 c2, .slice a3 n3 c3], .int .i64 q]) (fun w => rfl) ?_
            simp only [ap_s, ap_n, ls_z, ls_s]
            refine tr_q (d := some 18) rfl rfl rfl (.agg #[.int .i64 m, .slice a1 n1 c1, .slice a2 n2 c2, .slice a3 n3 c3]) (fun w => by simp [execOp, Act.eval, go_sem]) ?_
            simp only [ap_s, ap_n, ls_z, ls_s]
            refine tr_q (d := some 19) rfl rfl rfl (.int .i64 q) (fun w => by simp [execOp, Act.eval, go_sem]) ?_
            simp only [ap_s, ap_n, ls_z, ls_s]
            refine tr_rowst (d := none) rfl rfl rfl _ _ rfl pb rfl [.int .i64 0, .slice none 0 0, .slice none 0 0, .slice none 0 0] [.int .i64 m, .slice a1 n1 c1, .slice a2 n2 c2, .slice a3 n3 c3] rfl Hy5.out rfl rowT_pr (by intro v hv; simp at hv; rcases hv with rfl | rfl | rfl | rfl <;> rfl) ?_
            intro W9 hr ha
            refine ⟨(fun h => by cases h), ?_⟩
            simp only [ap_s, ap_n, ls_z, ls_s]
            refine tr_q (d := some 8) rfl rfl rfl (.int .i64 q) (fun w => rfl) ?_
            simp only [ap_s, ap_n, ls_z, ls_s]
            refine tr_end ?_
            exact ⟨rfl, pb, k1, k2, kb, m, a1, n1, c1, a2, n2, c2, a3, n3, c3, q, rfl, hr, HPl.out, HB5.out.trans (ha.below HPl.out), Hst5.out.of (fun v g hv hg _ _ => ha.2.2.2.2 g (fun e => by have z1 := HZs.out v g hv hg; have z2 := HZy.out; omega))⟩
        · obtain ⟨W3, hw⟩ : ∃ u, u = W2.alloc (.cells #[.int .i64 0, .slice none 0 0, .slice none 0 0, .slice none 0 0] 129) := ⟨_, rfl⟩
          obtain ⟨pb, hy⟩ : ∃ u, u = W2.heap.size := ⟨_, rfl⟩
          have hb : Below W2.heap.size W2 W3 := by rw [hw]; exact (Below.refl _ _).alloc (Nat.le_refl _) _
          have HB3 := Lib.hid (below_then HB2.out hb)
          have HPl : Hid (w1.heap.size ≤ pb) := by have := HB2.out.size; unfold Hid; rw [hy]; exact this
          have Hk13 := Lib.hid (Hk12.out.below hb)
          clear Hk12
          have Hk23 := Lib.hid (Hk22.out.below hb)
          clear Hk22
          have hz3 : W2.heap.size ≤ W3.heap.size := hb.size
          have Hy3 : Hid (RowAt W3 pb [.int .i64 0, .slice none 0 0, .slice none 0 0, .slice none 0 0]) := by rw [hw]; exact RowAt.new _ [.int .i64 0, .slice none 0 0, .slice none 0 0, .slice none 0 0] (by simp) _ hy.symm
          have HZy : Hid (W2.heap.size ≤ pb ∧ pb < W3.heap.size) := ⟨Nat.le_of_eq hy.symm, Hy3.out.lt⟩
          refine tr_run (d := some 7) rfl rfl rfl (.pointer (some ⟨pb, 0, none⟩)) W3 (by rw [hw, hy]; simp [execOp, Act.eval, go_sem]) (fun _ => ⟨HR1.out.1.below HB3.out, HR1.out.2.1.below HB3.out⟩) ?_
          simp only [ap_s, ap_n, ls_z, ls_s]
          clear hw hy hb
          obtain ⟨W4, hw⟩ : ∃ u, u = W3.alloc (.cells #[.func (.func 89) #[] #[.pointer (some ⟨k1, 0, none⟩)], .func (.func 91) #[] #[.pointer (some ⟨k2, 0, none⟩)]] 131) := ⟨_, rfl⟩
          obtain ⟨kb, hk⟩ : ∃ x, x = W3.heap.size := ⟨_, rfl⟩
          have hb : Below W3.heap.size W3 W4 := by rw [hw]; exact (Below.refl _ _).alloc (Nat.le_refl _) _
          have HB4 := Lib.hid (below_then HB3.out hb)
          have Hk14 := Lib.hid (Hk13.out.below hb)
          clear Hk13
          have Hk24 := Lib.hid (Hk23.out.below hb)
          clear Hk23
          have Hy4 := Lib.hid (Hy3.out.below hb)
          clear Hy3
          have hz4 : W3.heap.size ≤ W4.heap.size := hb.size
          have Hkb4 : Hid (RowAt W4 kb [.func (.func 89) #[] #[.pointer (some ⟨k1, 0, none⟩)], .func (.func 91) #[] #[.pointer (some ⟨k2, 0, none⟩)]]) := by rw [hw]; exact RowAt.new _ [.func (.func 89) #[] #[.pointer (some ⟨k1, 0, none⟩)], .func (.func 91) #[] #[.pointer (some ⟨k2, 0, none⟩)]] (by simp) _ hk.symm
          refine tr_run (d := some 14) rfl rfl rfl (.slice (some ⟨kb, 0, none⟩) 2 2) W4 (by rw [hw, hk]; simp [execOp, Act.eval, go_sem, Instr.buildSlice]) (fun _ => ⟨HR1.out.1.below HB4.out, HR1.out.2.1.below HB4.out⟩) ?_
          simp only [ap_s, ap_n, ls_z, ls_s]
          clear hw hk hb
          refine tr_call (d := some 17) rfl rfl rfl ⟨_, Tryz.func74, by kernel_rfl, by kernel_rfl⟩ _ _ _ rfl rfl [.slice (some ⟨kb, 0, none⟩) 2 2, .agg #[.int .i64 (n : Int), .slice da dn dc, .slice fa fn fc, .slice none 0 0]] rfl (HCh.out kb k1 k2 _ HB4.out Hkb4.out Hk14.out Hk24.out) ?_
          rintro e W5 ⟨hst, hb⟩
          obtain ⟨m, a1, n1, c1, a2, n2, c2, a3, n3, c3, q, rfl, hst, hbd⟩ := stp_out hst
          have HB5 := Lib.hid (below_then HB4.out hb)
          have Hk15 := Lib.hid (Hk14.out.below hb)
          clear Hk14
          have Hk25 := Lib.hid (Hk24.out.below hb)
          clear Hk24
          have Hkb5 := Lib.hid (Hkb4.out.below hb)
          clear Hkb4
          have Hy5 := Lib.hid (Hy4.out.below hb)
          clear Hy4
          have Hst5 : Hid (StO n fr sl mv D F w1.heap.size W5 m (.slice a1 n1 c1) (.slice a2 n2 c2) q) := hst.mono HB4.out.size
          have HZs := Lib.hid hbd
          have hz5 : W4.heap.size ≤ W5.heap.size := hb.size
          clear hst hb hbd
          refine ⟨_, rfl, fun _ => ⟨HR1.out.1.below HB5.out, HR1.out.2.1.below HB5.out⟩, ?_⟩
          simp only [ap_s, ap_n, ls_z, ls_s]
          refine tr_q (d := some 9) rfl rfl rfl (.tuple #[.agg #[.int .i64 m, .slice a1 n1 c1, .slice a2 n2 c2, .slice a3 n3 c3], .int .i64 q]) (fun w => rfl) ?_
          simp only [ap_s, ap_n, ls_z, ls_s]
          refine tr_q (d := some 18) rfl rfl rfl (.agg #[.int .i64 m, .slice a1 n1 c1, .slice a2 n2 c2, .slice a3 n3 c3]) (fun w => by simp [execOp, Act.eval, go_sem]) ?_
          simp only [ap_s, ap_n, ls_z, ls_s]
          refine tr_q (d := some 19) rfl rfl rfl (.int .i64 q) (fun w => by simp [execOp, Act.eval, go_sem]) ?_
          simp only [ap_s, ap_n, ls_z, ls_s]
          refine tr_rowst (d := none) rfl rfl rfl _ _ rfl pb rfl [.int .i64 0, .slice none 0 0, .slice none 0 0, .slice none 0 0] [.int .i64 m, .slice a1 n1 c1, .slice a2 n2 c2, .slice a3 n3 c3] rfl Hy5.out rfl rowT_pr (by intro v hv; simp at hv; rcases hv with rfl | rfl | rfl | rfl <;> rfl) ?_
          intro W9 hr ha
          refine ⟨(fun h => by cases h), ?_⟩
          simp only [ap_s, ap_n, ls_z, ls_s]
          refine tr_q (d := some 8) rfl rfl rfl (.int .i64 q) (fun w => rfl) ?_
          simp only [ap_s, ap_n, ls_z, ls_s]
          refine tr_end ?_
          exact ⟨rfl, pb, k1, k2, kb, m, a1, n1, c1, a2, n2, c2, a3, n3, c3, q, rfl, hr, HPl.out, HB5.out.trans (ha.below HPl.out), Hst5.out.of (fun v g hv hg _ _ => ha.2.2.2.2 g (fun e => by have z1 := HZs.out v g hv hg; have z2 := HZy.out; omega))⟩
      · obtain ⟨W2, hw⟩ : ∃ u, u = W1.alloc (.cells #[.int .i64 0, .slice none 0 0, .slice none 0 0, .slice none 0 0] 129) := ⟨_, rfl⟩
        obtain ⟨pb, hy⟩ : ∃ u, u = W1.heap.size := ⟨_, rfl⟩
        have hb : Below W1.heap.size W1 W2 := by rw [hw]; exact (Below.refl _ _).alloc (Nat.le_refl _) _
        have HB2 := Lib.hid (below_then HB1.out hb)
        have HPl : Hid (w1.heap.size ≤ pb) := by have := HB1.out.size; unfold Hid; rw [hy]; exact this
        have Hk12 := Lib.hid (Hk11.out.below hb)
        clear Hk11
        have hz2 : W1.heap.size ≤ W2.heap.size := hb.size
        have Hy2 : Hid (RowAt W2 pb [.int .i64 0, .slice none 0 0, .slice none 0 0, .slice none 0 0]) := by rw [hw]; exact RowAt.new _ [.int .i64 0, .slice none 0 0, .slice none 0 0, .slice none 0 0] (by simp) _ hy.symm
        have HZy : Hid (W1.heap.size ≤ pb ∧ pb < W2.heap.size) := ⟨Nat.le_of_eq hy.symm, Hy2.out.lt⟩
        refine tr_run (d := some 7) rfl rfl rfl (.pointer (some ⟨pb, 0, none⟩)) W2 (by rw [hw, hy]; simp [execOp, Act.eval, go_sem]) (fun _ => ⟨HR1.out.1.below HB2.out, HR1.out.2.1.below HB2.out⟩) ?_
        simp only [ap_s, ap_n, ls_z, ls_s]
        clear hw hy hb
        refine tr_call (d := some 13) rfl rfl rfl ⟨_, Tryz.func73, by kernel_rfl, by kernel_rfl⟩ _ _ _ rfl rfl [.agg #[.int .i64 fr, .int .i64 sl, .int .i64 mv]] rfl (pmk2_any fr sl mv _) ?_
        rintro e W3 ⟨rfl, hw⟩
        have hb : Below W2.heap.size W2 W3 := by rw [hw]; exact (Below.refl _ _).alloc (Nat.le_refl _) _
        obtain ⟨k2, hk⟩ : ∃ x, x = W2.heap.size := ⟨_, rfl⟩
        have HB3 := Lib.hid (below_then HB2.out hb)
        have Hk13 := Lib.hid (Hk12.out.below hb)
        clear Hk12
        have Hy3 := Lib.hid (Hy2.out.below hb)
        clear Hy2
        have Hk23 : Hid (RowAt W3 k2 [.int .i64 fr, .int .i64 sl, .int .i64 mv]) := by rw [hw]; exact RowAt.new _ [.int .i64 fr, .int .i64 sl, .int .i64 mv] (by simp) _ hk.symm
        have hz3 : W2.heap.size ≤ W3.heap.size := hb.size
        rw [← hk]
        clear hw hk hb
        refine ⟨_, rfl, fun _ => ⟨HR1.out.1.below HB3.out, HR1.out.2.1.below HB3.out⟩, ?_⟩
        simp only [ap_s, ap_n, ls_z, ls_s]
        obtain ⟨W4, hw⟩ : ∃ u, u = W3.alloc (.cells #[.func (.func 89) #[] #[.pointer (some ⟨k1, 0, none⟩)], .func (.func 91) #[] #[.pointer (some ⟨k2, 0, none⟩)]] 131) := ⟨_, rfl⟩
        obtain ⟨kb, hk⟩ : ∃ x, x = W3.heap.size := ⟨_, rfl⟩
        have hb : Below W3.heap.size W3 W4 := by rw [hw]; exact (Below.refl _ _).alloc (Nat.le_refl _) _
        have HB4 := Lib.hid (below_then HB3.out hb)
        have Hk14 := Lib.hid (Hk13.out.below hb)
        clear Hk13
        have Hk24 := Lib.hid (Hk23.out.below hb)
        clear Hk23
        have Hy4 := Lib.hid (Hy3.out.below hb)
        clear Hy3
        have hz4 : W3.heap.size ≤ W4.heap.size := hb.size
        have Hkb4 : Hid (RowAt W4 kb [.func (.func 89) #[] #[.pointer (some ⟨k1, 0, none⟩)], .func (.func 91) #[] #[.pointer (some ⟨k2, 0, none⟩)]]) := by rw [hw]; exact RowAt.new _ [.func (.func 89) #[] #[.pointer (some ⟨k1, 0, none⟩)], .func (.func 91) #[] #[.pointer (some ⟨k2, 0, none⟩)]] (by simp) _ hk.symm
        refine tr_run (d := some 14) rfl rfl rfl (.slice (some ⟨kb, 0, none⟩) 2 2) W4 (by rw [hw, hk]; simp [execOp, Act.eval, go_sem, Instr.buildSlice]) (fun _ => ⟨HR1.out.1.below HB4.out, HR1.out.2.1.below HB4.out⟩) ?_
        simp only [ap_s, ap_n, ls_z, ls_s]
        clear hw hk hb
        refine tr_call (d := some 17) rfl rfl rfl ⟨_, Tryz.func74, by kernel_rfl, by kernel_rfl⟩ _ _ _ rfl rfl [.slice (some ⟨kb, 0, none⟩) 2 2, .agg #[.int .i64 (n : Int), .slice da dn dc, .slice fa fn fc, .slice none 0 0]] rfl (HCh.out kb k1 k2 _ HB4.out Hkb4.out Hk14.out Hk24.out) ?_
        rintro e W5 ⟨hst, hb⟩
        obtain ⟨m, a1, n1, c1, a2, n2, c2, a3, n3, c3, q, rfl, hst, hbd⟩ := stp_out hst
        have HB5 := Lib.hid (below_then HB4.out hb)
        have Hk15 := Lib.hid (Hk14.out.below hb)
        clear Hk14
        have Hk25 := Lib.hid (Hk24.out.below hb)
        clear Hk24
        have Hkb5 := Lib.hid (Hkb4.out.below hb)
        clear Hkb4
        have Hy5 := Lib.hid (Hy4.out.below hb)
        clear Hy4
        have Hst5 : Hid (StO n fr sl mv D F w1.heap.size W5 m (.slice a1 n1 c1) (.slice a2 n2 c2) q) := hst.mono HB4.out.size
        have HZs := Lib.hid hbd
        have hz5 : W4.heap.size ≤ W5.heap.size := hb.size
        clear hst hb hbd
        refine ⟨_, rfl, fun _ => ⟨HR1.out.1.below HB5.out, HR1.out.2.1.below HB5.out⟩, ?_⟩
        simp only [ap_s, ap_n, ls_z, ls_s]
        refine tr_q (d := some 9) rfl rfl rfl (.tuple #[.agg #[.int .i64 m, .slice a1 n1 c1, .slice a2 n2 c2, .slice a3 n3 c3], .int .i64 q]) (fun w => rfl) ?_
        simp only [ap_s, ap_n, ls_z, ls_s]
        refine tr_q (d := some 18) rfl rfl rfl (.agg #[.int .i64 m, .slice a1 n1 c1, .slice a2 n2 c2, .slice a3 n3 c3]) (fun w => by simp [execOp, Act.eval, go_sem]) ?_
        simp only [ap_s, ap_n, ls_z, ls_s]
        refine tr_q (d := some 19) rfl rfl rfl (.int .i64 q) (fun w => by simp [execOp, Act.eval, go_sem]) ?_
        simp only [ap_s, ap_n, ls_z, ls_s]
        refine tr_rowst (d := none) rfl rfl rfl _ _ rfl pb rfl [.int .i64 0, .slice none 0 0, .slice none 0 0, .slice none 0 0] [.int .i64 m, .slice a1 n1 c1, .slice a2 n2 c2, .slice a3 n3 c3] rfl Hy5.out rfl rowT_pr (by intro v hv; simp at hv; rcases hv with rfl | rfl | rfl | rfl <;> rfl) ?_
        intro W9 hr ha
        refine ⟨(fun h => by cases h), ?_⟩
        simp only [ap_s, ap_n, ls_z, ls_s]
        refine tr_q (d := some 8) rfl rfl rfl (.int .i64 q) (fun w => rfl) ?_
        simp only [ap_s, ap_n, ls_z, ls_s]
        refine tr_end ?_
        exact ⟨rfl, pb, k1, k2, kb, m, a1, n1, c1, a2, n2, c2, a3, n3, c3, q, rfl, hr, HPl.out, HB5.out.trans (ha.below HPl.out), Hst5.out.of (fun v g hv hg _ _ => ha.2.2.2.2 g (fun e => by have z1 := HZs.out v g hv hg; have z2 := HZy.out; omega))⟩
    · obtain ⟨W1, hw⟩ : ∃ u, u = w1.drew.alloc (.cells #[.int .i64 0, .slice none 0 0, .slice none 0 0, .slice none 0 0] 129) := ⟨_, rfl⟩
      obtain ⟨pb, hy⟩ : ∃ u, u = w1.drew.heap.size := ⟨_, rfl⟩
      have hb : Below w1.drew.heap.size w1.drew W1 := by rw [hw]; exact (Below.refl _ _).alloc (Nat.le_refl _) _
      have HB1 := Lib.hid (below_then HB0.out hb)
      have HPl : Hid (w1.heap.size ≤ pb) := by have := HB0.out.size; unfold Hid; rw [hy]; exact this
      have hz1 : w1.drew.heap.size ≤ W1.heap.size := hb.size
      have Hy1 : Hid (RowAt W1 pb [.int .i64 0, .slice none 0 0, .slice none 0 0, .slice none 0 0]) := by rw [hw]; exact RowAt.new _ [.int .i64 0, .slice none 0 0, .slice none 0 0, .slice none 0 0] (by simp) _ hy.symm
      have HZy : Hid (w1.drew.heap.size ≤ pb ∧ pb < W1.heap.size) := ⟨Nat.le_of_eq hy.symm, Hy1.out.lt⟩
      refine tr_run (d := some 7) rfl rfl rfl (.pointer (some ⟨pb, 0, none⟩)) W1 (by rw [hw, hy]; simp [execOp, Act.eval, go_sem]) (fun _ => ⟨HR1.out.1.below HB1.out, HR1.out.2.1.below HB1.out⟩) ?_
      simp only [ap_s, ap_n, ls_z, ls_s]
      clear hw hy hb
      refine tr_call (d := some 11) rfl rfl rfl ⟨_, Tryz.func72, by kernel_rfl, by kernel_rfl⟩ _ _ _ rfl rfl [.agg #[.int .i64 fr, .int .i64 sl, .int .i64 mv]] rfl (pmk1_any fr sl mv _) ?_
      rintro e W2 ⟨rfl, hw⟩
      have hb : Below W1.heap.size W1 W2 := by rw [hw]; exact (Below.refl _ _).alloc (Nat.le_refl _) _
      obtain ⟨k1, hk⟩ : ∃ x, x = W1.heap.size := ⟨_, rfl⟩
      have HB2 := Lib.hid (below_then HB1.out hb)
      have Hy2 := Lib.hid (Hy1.out.below hb)
      clear Hy1
      have Hk12 : Hid (RowAt W2 k1 [.int .i64 fr, .int .i64 sl, .int .i64 mv]) := by rw [hw]; exact RowAt.new _ [.int .i64 fr, .int .i64 sl, .int .i64 mv] (by simp) _ hk.symm
      have hz2 : W1.heap.size ≤ W2.heap.size := hb.size
      rw [← hk]
      clear hw hk hb
      refine ⟨_, rfl, fun _ => ⟨HR1.out.1.below HB2.out, HR1.out.2.1.below HB2.out⟩, ?_⟩
      simp only [ap_s, ap_n, ls_z, ls_s]
      refine tr_call (d := some 13) rfl rfl rfl ⟨_, Tryz.func73, by kernel_rfl, by kernel_rfl⟩ _ _ _ rfl rfl [.agg #[.int .i64 fr, .int .i64 sl, .int .i64 mv]] rfl (pmk2_any fr sl mv _) ?_
      rintro e W3 ⟨rfl, hw⟩
      have hb : Below W2.heap.size W2 W3 := by rw [hw]; exact (Below.refl _ _).alloc (Nat.le_refl _) _
      obtain ⟨k2, hk⟩ : ∃ x, x = W2.heap.size := ⟨_, rfl⟩
      have HB3 := Lib.hid (below_then HB2.out hb)
      have Hk13 := Lib.hid (Hk12.out.below hb)
      clear Hk12
      have Hy3 := Lib.hid (Hy2.out.below hb)
      clear Hy2
      have Hk23 : Hid (RowAt W3 k2 [.int .i64 fr, .int .i64 sl, .int .i64 mv]) := by rw [hw]; exact RowAt.new _ [.int .i64 fr, .int .i64 sl, .int .i64 mv] (by simp) _ hk.symm
      have hz3 : W2.heap.size ≤ W3.heap.size := hb.size
      rw [← hk]
      clear hw hk hb
      refine ⟨_, rfl, fun _ => ⟨HR1.out.1.below HB3.out, HR1.out.2.1.below HB3.out⟩, ?_⟩
      simp only [ap_s, ap_n, ls_z, ls_s]
      obtain ⟨W4, hw⟩ : ∃ u, u = W3.alloc (.cells #[.func (.func 89) #[] #[.pointer (some ⟨k1, 0, none⟩)], .func (.func 91) #[] #[.pointer (some ⟨k2, 0, none⟩)]] 131) := ⟨_, rfl⟩
      obtain ⟨kb, hk⟩ : ∃ x, x = W3.heap.size := ⟨_, rfl⟩
      have hb : Below W3.heap.size W3 W4 := by rw [hw]; exact (Below.refl _ _).alloc (Nat.le_refl _) _
      have HB4 := Lib.hid (below_then HB3.out hb)
      have Hk14 := Lib.hid (Hk13.out.below hb)
      clear Hk13
      have Hk24 := Lib.hid (Hk23.out.below hb)
      clear Hk23
      have Hy4 := Lib.hid (Hy3.out.below hb)
      clear Hy3
      have hz4 : W3.heap.size ≤ W4.heap.size := hb.size
      have Hkb4 : Hid (RowAt W4 kb [.func (.func 89) #[] #[.pointer (some ⟨k1, 0, none⟩)], .func (.func 91) #[] #[.pointer (some ⟨k2, 0, none⟩)]]) := by rw [hw]; exact RowAt.new _ [.func (.func 89) #[] #[.pointer (some ⟨k1, 0, none⟩)], .func (.func 91) #[] #[.pointer (some ⟨k2, 0, none⟩)]] (by simp) _ hk.symm
      refine tr_run (d := some 14) rfl rfl rfl (.slice (some ⟨kb, 0, none⟩) 2 2) W4 (by rw [hw, hk]; simp [execOp, Act.eval, go_sem, Instr.buildSlice]) (fun _ => ⟨HR1.out.1.below HB4.out, HR1.out.2.1.below HB4.out⟩) ?_
      simp only [ap_s, ap_n, ls_z, ls_s]
      clear hw hk hb
      refine tr_call (d := some 17) rfl rfl rfl ⟨_, Tryz.func74, by kernel_rfl, by kernel_rfl⟩ _ _ _ rfl rfl [.slice (some ⟨kb, 0, none⟩) 2 2, .agg #[.int .i64 (n : Int), .slice da dn dc, .slice fa fn fc, .slice none 0 0]] rfl (HCh.out kb k1 k2 _ HB4.out Hkb4.out Hk14.out Hk24.out) ?_
      rintro e W5 ⟨hst, hb⟩
      obtain ⟨m, a1, n1, c1, a2, n2, c2, a3, n3, c3, q, rfl, hst, hbd⟩ := stp_out hst
      have HB5 := Lib.hid (below_then HB4.out hb)
      have Hk15 := Lib.hid (Hk14.out.below hb)
      clear Hk14
      have Hk25 := Lib.hid (Hk24.out.below hb)
      clear Hk24
      have Hkb5 := Lib.hid (Hkb4.out.below hb)
      clear Hkb4
      have Hy5 := Lib.hid (Hy4.out.below hb)
      clear Hy4
      have Hst5 : Hid (StO n fr sl mv D F w1.heap.size W5 m (.slice a1 n1 c1) (.slice a2 n2 c2) q) := hst.mono HB4.out.size
      have HZs := Lib.hid hbd
      have hz5 : W4.heap.size ≤ W5.heap.size := hb.size
      clear hst hb hbd
      refine ⟨_, rfl, fun _ => ⟨HR1.out.1.below HB5.out, HR1.out.2.1.below HB5.out⟩, ?_⟩
      simp only [ap_s, ap_n, ls_z, ls_s]
      refine tr_q (d := some 9) rfl rfl rfl (.tuple #[.agg #[.int .i64 m, .slice a1 n1 c1, .slice a2 n2 c2, .slice a3 n3 c3], .int .i64 q]) (fun w => rfl) ?_
      simp only [ap_s, ap_n, ls_z, ls_s]
      refine tr_q (d := some 18) rfl rfl rfl (.agg #[.int .i64 m, .slice a1 n1 c1, .slice a2 n2 c2, .slice a3 n3 c3]) (fun w => by simp [execOp, Act.eval, go_sem]) ?_
      simp only [ap_s, ap_n, ls_z, ls_s]
      refine tr_q (d := some 19) rfl rfl rfl (.int .i64 q) (fun w => by simp [execOp, Act.eval, go_sem]) ?_
      simp only [ap_s, ap_n, ls_z, ls_s]
      refine tr_rowst (d := none) rfl rfl rfl _ _ rfl pb rfl [.int .i64 0, .slice none 0 0, .slice none 0 0, .slice none 0 0] [.int .i64 m, .slice a1 n1 c1, .slice a2 n2 c2, .slice a3 n3 c3] rfl Hy5.out rfl rowT_pr (by intro v hv; simp at hv; rcases hv with rfl | rfl | rfl | rfl <;> rfl) ?_
      intro W9 hr ha
      refine ⟨(fun h => by cases h), ?_⟩
      simp only [ap_s, ap_n, ls_z, ls_s]
      refine tr_q (d := some 8) rfl rfl rfl (.int .i64 q) (fun w => rfl) ?_
      simp only [ap_s, ap_n, ls_z, ls_s]
      refine tr_end ?_
      exact ⟨rfl, pb, k1, k2, kb, m, a1, n1, c1, a2, n2, c2, a3, n3, c3, q, rfl, hr, HPl.out, HB5.out.trans (ha.below HPl.out), Hst5.out.of (fun v g hv hg _ _ => ha.2.2.2.2 g (fun e => by have z1 := HZs.out v g hv hg; have z2 := HZy.out; omega))⟩
  rintro a W ⟨pb, k1, k2, kb, m, a1, n1, c1, a2, n2, c2, a3, n3, c3, q, rfl, hM⟩
  simp only [List.cons_append, List.nil_append]
  have HM := Lib.hid hM
  have HR := Lib.hid (HR1.out.2.2.below hM.be)
  have hrl : w.heap.size + 1 + 1 < w1.heap.size := HR1.out.2.2.lt
  have Hrl := Lib.hid hrl
  clear hM hrl
  go_upto_region 2 with fail
  refine wp_region_seq (by kernel_rfl) (fun w' => RowAt w' pb [.int .i64 m, .slice a1 n1 c1, .slice a2 n2 c2, .slice a3 n3 c3]) [(0, true), (1, true), (2, true), (3, true), (4, true), (5, false), (6, true), (7, true)] (by kernel_rfl) (HM.out.row.drew) ?_
  refine seq_q (d := some 20) rfl rfl rfl (.pointer (some ⟨pb, 0, none⟩)) (fun w hw => by go_simp) ?_
  simp only [ap_s, ap_n, ls_z, ls_s]
  refine seq_q (d := some 21) rfl rfl rfl (.agg #[.int .i64 m, .slice a1 n1 c1, .slice a2 n2 c2]) (fun w hw => by have c0 := hw.at 0 rfl; have c1 := hw.at 1 rfl; have c2 := hw.at 2 rfl; simp [execOp, Act.eval, go_sem, c0, c1, c2]) ?_
  simp only [ap_s, ap_n, ls_z, ls_s]
  refine seq_q (d := some 22) rfl rfl rfl (.pointer (some ⟨pb, 3, none⟩)) (fun w hw => by go_simp) ?_
  simp only [ap_s, ap_n, ls_z, ls_s]
  refine seq_q (d := some 23) rfl rfl rfl (.slice a3 n3 c3) (fun w hw => by have c0 := hw.at 3 rfl; simp [execOp, Act.eval, go_sem, c0]) ?_
  simp only [ap_s, ap_n, ls_z, ls_s]
  refine seq_q (d := some 24) rfl rfl rfl (.int .i64 q) (fun w hw => rfl) ?_
  simp only [ap_s, ap_n, ls_z, ls_s]
  refine seq_rowst (d := none) rfl rfl rfl _ _ rfl (w.heap.size + 1 + 1) rfl [.int .i64 0, .slice none 0 0, .slice none 0 0] [.int .i64 m, .slice a1 n1 c1, .slice a2 n2 c2] rfl HR.out.drew rfl rowT_st (by intro v hv; simp at hv; rcases hv with rfl | rfl | rfl <;> rfl) ?_
  intro V hrow hap
  refine ⟨HM.out.row.drew.of_block (hap.2.2.2.2 _ (by have := Hrl.out; have := HM.out.lo; omega)), ?_⟩
  simp only [ap_s, ap_n, ls_z, ls_s]
  refine seq_q (d := some 5) rfl rfl rfl (.slice a3 n3 c3) (fun w hw => rfl) ?_
  simp only [ap_s, ap_n, ls_z, ls_s]
  refine seq_q (d := some 6) rfl rfl rfl (.int .i64 q) (fun w hw => rfl) ?_
  simp only [ap_s, ap_n, ls_z, ls_s]
  refine seq_end ?_
  have HE : Hid (StO n fr sl mv D F w.heap.size V m (.slice a1 n1 c1) (.slice a2 n2 c2) q ∧ Below w.heap.size w V) :=
    ⟨(HM.out.st.of (fun v g _ _ hg _ => hap.2.2.2.2 g (by have := Hrl.out; omega))).mono HB1.out.size, (HB1.out.trans (HM.out.be.mono HB1.out.size)).drew.trans (hap.below (by omega))⟩
  have HV := Lib.hid hrow
  clear hrow hap
  go_wp2_with fail
  exact ret_row3 rfl _ [.int .i64 m, .slice a1 n1 c1, .slice a2 n2 c2] _ _ HV.out rowT_st rfl rfl rfl rfl ⟨⟨_, _, _, _, _, _, _, _, _, rfl, HE.out.1⟩, HE.out.2⟩
end Go.Proofs.YtkpgciimhjkajaaGreatDoor
/- The program's model: Run. -/
namespace Go.Proofs.YtkpgciimhjkajaaGreatDoor
open Go Go.RowKit
def runN (n : Nat) (fr sl mv : Int) : Nat → List Int → List Int → Option (List Int × List Int)
  | 0, D, F => some (D, F)
  | k + 1, D, F => if outB (stD n fr sl mv D F) 0 16777216 = true then none else runN n fr sl mv k (stD n fr sl mv D F) (accN n fr sl D F)
theorem stD_ok {n : Nat} {fr sl mv : Int} {D F : List Int} (h : SOk n D F) (ho : outB (stD n fr sl mv D F) 0 16777216 = false) : SOk n (stD n fr sl mv D F) (accN n fr sl D F) := by
  have h2 := accN_ok (fr := fr) (sl := sl) h
  refine ⟨by unfold stD mvN; rw [mvF_length]; exact h.dl, h2.fl, fun x hx => ?_, h2.fr⟩
  unfold outB at ho
  rw [List.any_eq_false] at ho
  have := ho x hx
  simpa [outV] using this
theorem pchk2_any (n : Nat) (hn : Fq n) (fr sl mv : Int) (hsc : outB [fr, sl, mv] 1 4 = false) (dv fv : Value) (D F : List Int) (B0 : Nat) (w : World) (hcr : Crn w) (hg : 0 < w.heap.size) (hok : SOk n D F) (hd : OwnI w B0 dv D) (hf : OwnI w B0 fv F) :
    Calls Tryz.prog 56 #[.agg #[.int .i64 fr, .int .i64 sl, .int .i64 mv], stv n dv fv] w fun e w' => e = .returned (.int .i64 0) ∧ Below w.heap.size w w' := by
  obtain ⟨da, dn, dc, rfl⟩ : ∃ a m c, dv = .slice a m c := by obtain ⟨a, c, h⟩ := hd.slice; exact ⟨a, _, c, h⟩
  obtain ⟨fa, fn, fc, rfl⟩ : ∃ a m c, fv = .slice a m c := by obtain ⟨a, c, h⟩ := hf.slice; exact ⟨a, _, c, h⟩
  obtain ⟨w1, hw1⟩ : ∃ u, u = (w.alloc (.cells #[.int .i64 fr, .int .i64 sl, .int .i64 mv] 24)).alloc (.cells #[.int .i64 (n : Int), .slice da dn dc, .slice fa fn fc] 36) := ⟨_, rfl⟩
  have hb1 : Below w.heap.size w w1 := by rw [hw1]; exact ((Below.refl _ _).alloc (Nat.le_refl _) _).alloc (by simp) _
  have hC1 : RowAt w1 w.heap.size [.int .i64 fr, .int .i64 sl, .int .i64 mv] := by rw [hw1]; exact (RowAt.new _ [.int .i64 fr, .int .i64 sl, .int .i64 mv] (by simp) _ rfl).alloc _
  have hS1 : RowAt w1 (w.heap.size + 1) [.int .i64 (n : Int), .slice da dn dc, .slice fa fn fc] := by rw [hw1]; exact RowAt.new _ [.int .i64 (n : Int), .slice da dn dc, .slice fa fn fc] (by simp) _ (by simp)
  have HSc := Lib.hid (pscheme_any fr sl mv w1)
  rw [hsc] at HSc
  have HCk := Lib.hid (fun w2 (hb : Below w1.heap.size w1 w2) => pcheck_any n hn _ _ D F B0 w2 ((hcr.below hb1 hg).below hb (Nat.lt_of_lt_of_le hg hb1.size)) (Nat.lt_of_lt_of_le (Nat.lt_of_lt_of_le hg hb1.size) hb.size) hok ((hd.below hb1).below hb) ((hf.below hb1).below hb))
  have HB1 := Lib.hid hb1
  have HS1 := Lib.hid hS1
  have Hw1 := Lib.hid hw1
  have c0 := hC1.at 0 rfl
  have c1 := hC1.at 1 rfl
  have c2 := hC1.at 2 rfl
  clear hn hsc hcr hg hok hd hf hb1 hw1 hC1 hS1
  unfold stv at *
  go_enter Tryz.func56, Tryz.ntmps56
  go_upto_region 1 with fail
  rw [← Hw1.out]
  go_wp2_with fail
  clear c0 c1 c2
  refine HSc.out.mono ?_
  rintro e w2 ⟨he, hb2⟩
  obtain rfl : e = .returned (.int .i64 0) := he
  have hS2 := HS1.out.below hb2
  have c0 := hS2.at 0 rfl
  have c1 := hS2.at 1 rfl
  have c2 := hS2.at 2 rfl
  have HB2 := Lib.hid (below_then HB1.out hb2)
  have HC2 := Lib.hid (HCk.out w2 hb2)
  clear hb2 hS2 HCk HSc
  go_wp2_with fail
  refine HC2.out.mono ?_
  rintro e w3 ⟨rfl, hb3⟩
  have HB3 := Lib.hid (below_then HB2.out hb3)
  clear hb3 c0 c1 c2
  go_wp2_with fail
  go_ret
  exact ⟨rfl, HB3.out⟩
def runPr (n : Nat) (r : Option (List Int × List Int)) (e : Ending) (w w' : World) : Prop :=
  (r = none → e = .returned (.tuple #[stv 0 (.slice none 0 0) (.slice none 0 0), .int .i64 7])) ∧
  (∀ D F, r = some (D, F) → ∃ dv fv, e = .returned (.tuple #[stv n dv fv, .int .i64 0]) ∧ OwnI w' w.heap.size dv D ∧ OwnI w' w.heap.size fv F)
structure Rn (n : Nat) (w3 wr : World) (yb : Nat) (D F : List Int) (dv fv : Value) : Prop where
  row : RowAt wr yb [.int .i64 (n : Int), dv, fv]
  od : OwnI wr w3.heap.size dv D
  of : OwnI wr w3.heap.size fv F
  yd : dv.ownBlock ≠ some yb
  yf : fv.ownBlock ≠ some yb
  be : Below w3.heap.size w3 wr
  ok : SOk n D F
set_option maxRecDepth 100000 in
set_option maxHeartbeats 16000000 in
theorem prun_any (n : Nat) (hn : Fq n) (fr sl mv : Int) (hsc : outB [fr, sl, mv] 1 4 = false) (dv fv : Value) (D F : List Int) (B0 : Nat) (k : Nat) (hk : k ≤ 400) (w : World) (hcr : Crn w) (hg : 0 < w.heap.size) (hok : SOk n D F) (hd : OwnI w B0 dv D) (hf : OwnI w B0 fv F) :
    Calls Tryz.prog 39 #[.agg #[.int .i64 fr, .int .i64 sl, .int .i64 mv], stv n dv fv, .int .i64 (k : Int)] w fun e w' => runPr n (runN n fr sl mv k D F) e w w' ∧ Below w.heap.size w w' := by
  obtain ⟨da, dn, dc, rfl⟩ : ∃ a m c, dv = .slice a m c := by obtain ⟨a, c, h⟩ := hd.slice; exact ⟨a, _, c, h⟩
  obtain ⟨fa, fn, fc, rfl⟩ : ∃ a m c, fv = .slice a m c := by obtain ⟨a, c, h⟩ := hf.slice; exact ⟨a, _, c, h⟩
  obtain ⟨w1, hw1⟩ : ∃ u, u = ((w.alloc (.cells #[.int .i64 fr, .int .i64 sl, .int .i64 mv] 24)).alloc (.cells #[.int .i64 (n : Int), .slice da dn dc, .slice fa fn fc] 36)).alloc (.cells #[.int .i64 0, .slice none 0 0, .slice none 0 0] 36) := ⟨_, rfl⟩
  have hb1 : Below w.heap.size w w1 := by rw [hw1]; exact (((Below.refl _ _).alloc (Nat.le_refl _) _).alloc (by simp) _).alloc (by simp; omega) _
  have hC1 : RowAt w1 w.heap.size [.int .i64 fr, .int .i64 sl, .int .i64 mv] := by rw [hw1]; exact ((RowAt.new _ [.int .i64 fr, .int .i64 sl, .int .i64 mv] (by simp) _ rfl).alloc _).alloc _
  have hS1 : RowAt w1 (w.heap.size + 1) [.int .i64 (n : Int), .slice da dn dc, .slice fa fn fc] := by rw [hw1]; exact (RowAt.new _ [.int .i64 (n : Int), .slice da dn dc, .slice fa fn fc] (by simp) _ (by simp)).alloc _
  have hR1 : RowAt w1 (w.heap.size + 1 + 1) [.int .i64 0, .slice none 0 0, .slice none 0 0] := by rw [hw1]; exact RowAt.new _ [.int .i64 0, .slice none 0 0, .slice none 0 0] (by simp) _ (by simp)
  have hcr1 := hcr.below hb1 hg
  have hg1 := Nat.lt_of_lt_of_le hg hb1.size
  have HCk := Lib.hid (pchk2_any n hn fr sl mv hsc _ _ D F B0 w1 hcr1 hg1 hok (hd.below hb1) (hf.below hb1))
  have HFix := Lib.hid (And.intro hn (And.intro hsc (And.intro hok (And.intro hcr1 hg1))))
  have HL1 := Lib.hid (And.intro (hd.below hb1) (hf.below hb1))
  have HR1 := Lib.hid (And.intro hC1 (And.intro hS1 hR1))
  have HB1 := Lib.hid hb1
  have Hw1 := Lib.hid hw1
  have k0 : 0 ≤ (k : Int) := by omega
  have k4 : (k : Int) ≤ 400 := by omega
  have c0 := hC1.at 0 rfl
  have c1 := hC1.at 1 rfl
  have c2 := hC1.at 2 rfl
  have s0 := hS1.at 0 rfl
  have s1 := hS1.at 1 rfl
  have s2 := hS1.at 2 rfl
  clear hcr hg hn hok hd hf hb1 hw1 hsc hC1 hS1 hR1 hcr1 hg1
  unfold stv at *
  go_enter Tryz.func39, Tryz.ntmps39
  go_upto_region 1 with fail
  rw [← Hw1.out]
  go_wp2_with fail
  clear c0 c1 c2 s0 s1 s2
  refine HCk.out.mono ?_
  rintro e w3 ⟨rfl, hb3⟩
  have HR3 := Lib.hid (And.intro (HR1.out.1.below hb3) (And.intro (HR1.out.2.1.below hb3) (HR1.out.2.2.below hb3)))
  have HL3 := Lib.hid (And.intro (HL1.out.1.below hb3) (HL1.out.2.below hb3))
  have HB3 := Lib.hid (below_then HB1.out hb3)
  have HCr3 := Lib.hid (And.intro (HFix.out.2.2.2.1.below hb3 HFix.out.2.2.2.2) (Nat.lt_of_lt_of_le HFix.out.2.2.2.2 hb3.size))
  have HDl : Hid (D.length ≤ 1000000 ∧ F.length ≤ 1000000) := by
    have h1 := HFix.out.2.2.1.dl
    have h2 := HFix.out.2.2.1.fl
    have h3 := edgesN_le HFix.out.1
    have h8 : n ≤ 8 := HFix.out.1.2
    have := Nat.mul_le_mul (Nat.mul_le_mul_left 10 h8) h8
    unfold Hid; omega
  clear hb3 HR1 HL1 HB1 HCk
  go_wp2_with fail
  refine region_cut (fun a W => ∃ yb v31 v34, a = { tmps := (([.agg #[.int .i64 fr, .int .i64 sl, .int .i64 mv], .agg #[.int .i64 (n : Int), .slice da dn dc, .slice fa fn fc], .int .i64 (k : Int), .pointer (some ⟨w.heap.size, 0, none⟩), .pointer (some ⟨w.heap.size + 1, 0, none⟩), undef, .pointer (some ⟨w.heap.size + 1 + 1, 0, none⟩), .int .i64 0, .int .i64 0, .pointer (some ⟨yb, 0, none⟩), undef, .int .i64 (k : Int), .bool (decide ((k : Int) < 0))] : List Value) ++ ([.bool (decide ((k : Int) < 0)), .int .i64 (k : Int), .bool (decide (400 < (k : Int))), .bool (decide ((k : Int) < 0) || decide (400 < (k : Int))), undef, .agg #[.int .i64 fr, .int .i64 sl, .int .i64 mv], .agg #[.int .i64 (n : Int), .slice da dn dc, .slice fa fn fc], .int .i64 0, .int .i64 0, .bool false, undef, undef, .pointer (some ⟨w.heap.size + 1, 0, none⟩)] ++ ([.int .i64 (n : Int), .pointer (some ⟨w.heap.size + 1, 1, none⟩), .slice da dn dc, v31, .pointer (some ⟨w.heap.size + 1, 2, none⟩), .slice fa fn fc, v34, .agg #[.int .i64 (n : Int), v31, v34], undef, undef, undef, undef, undef] ++ ([undef, undef, undef, undef, undef, undef, undef, undef, undef, undef, undef])))).toArray, defers := [] } ∧ M6 n D F w3 W yb v31 v34) ?_ ?_
  · have HB0 : Hid (Below w3.heap.size w3 w3.drew) := (Below.refl _ _).drew
    refine wp_region_tree (by kernel_rfl) (fun w' => RowAt w' (w.heap.size + 1) [.int .i64 (n : Int), .slice da dn dc, .slice fa fn fc]) 10 (.q 0 0 (.q 1 1 (.q 2 0 (.q 3 1 (.q 5 0 (.q 6 1 (.fork (.e 4 (.fork (.e 7 (.q 8 0 (.e 9 (.e 10 (.nil))))) (.e 9 (.e 7 (.q 8 0 (.e 10 (.nil))))))) (.e 9 (.e 4 (.e 7 (.q 8 0 (.e 10 (.nil))))))))))))) (by kernel_rfl) (HR3.out.2.1.drew) ?_
    refine tr_q (d := some 25) rfl rfl rfl (.pointer (some ⟨w.heap.size + 1, 0, none⟩)) (fun w => by go_simp) ?_
    simp only [ap_s, ap_n, ls_z, ls_s]
    refine tr_s (d := some 26) rfl rfl rfl (.int .i64 (n : Int)) (fun w hw => by have c := hw.at 0 rfl; simp [execOp, Act.eval, go_sem, c]) ?_
    simp only [ap_s, ap_n, ls_z, ls_s]
    refine tr_q (d := some 27) rfl rfl rfl (.pointer (some ⟨w.heap.size + 1, 1, none⟩)) (fun w => by go_simp) ?_
    simp only [ap_s, ap_n, ls_z, ls_s]
    refine tr_s (d := some 28) rfl rfl rfl (.slice da dn dc) (fun w hw => by have c := hw.at 1 rfl; simp [execOp, Act.eval, go_sem, c]) ?_
    simp only [ap_s, ap_n, ls_z, ls_s]
    refine tr_q (d := some 30) rfl rfl rfl (.pointer (some ⟨w.heap.size + 1, 2, none⟩)) (fun w => by go_simp) ?_
    simp only [ap_s, ap_n, ls_z, ls_s]
    refine tr_s (d := some 31) rfl rfl rfl (.slice fa fn fc) (fun w hw => by have c := hw.at 2 rfl; simp [execOp, Act.eval, go_sem, c]) ?_
    simp only [ap_s, ap_n, ls_z, ls_s]
    refine tr_fork ?_ ?_
    · refine tr_call (d := some 29) rfl rfl rfl ⟨_, Tryz.func57, by kernel_rfl, by kernel_rfl⟩ _ _ _ rfl rfl [.slice da dn dc] rfl (pclone_any _ D B0 _ (HL3.out.1.below HB0.out) HDl.out.1) ?_
      rintro e W1 ⟨vv, rfl, hv, hb⟩
      obtain ⟨pa, pc, rfl⟩ := hv.slice
      have HB1 := Lib.hid (below_then HB0.out hb)
      have Hd1 := Lib.hid (hv.mono (base := w3.drew.heap.size) HB0.out.size)
      have HZ1 : Hid (∀ g, (.slice pa D.length pc : Value).ownBlock = some g → w3.drew.heap.size ≤ g ∧ g < W1.heap.size) := hv.lt
      have hz1 : w3.drew.heap.size ≤ W1.heap.size := hb.size
      clear hv hb
      refine ⟨_, rfl, fun _ => HR3.out.2.1.below HB1.out, ?_⟩
      simp only [ap_s, ap_n, ls_z, ls_s]
      refine tr_fork ?_ ?_
      · refine tr_call (d := some 32) rfl rfl rfl ⟨_, Tryz.func57, by kernel_rfl, by kernel_rfl⟩ _ _ _ rfl rfl [.slice fa fn fc] rfl (pclone_any _ F B0 _ (HL3.out.2.below HB1.out) HDl.out.2) ?_
        rintro e W2 ⟨vv, rfl, hv, hb⟩
        obtain ⟨qa, qc, rfl⟩ := hv.slice
        have HB2 := Lib.hid (below_then HB1.out hb)
        have Hd2 := Lib.hid (Hd1.out.below hb)
        clear Hd1
        have Hf2 := Lib.hid (hv.mono (base := W1.heap.size) HB1.out.size)
        have HZ2 : Hid (∀ g, (.slice qa F.length qc : Value).ownBlock = some g → W1.heap.size ≤ g ∧ g < W2.heap.size) := hv.lt
        have hz2 : W1.heap.size ≤ W2.heap.size := hb.size
        clear hv hb
        refine ⟨_, rfl, fun _ => HR3.out.2.1.below HB2.out, ?_⟩
        simp only [ap_s, ap_n, ls_z, ls_s]
        refine tr_q (d := some 33) rfl rfl rfl (.agg #[.int .i64 (n : Int), .slice pa D.length pc, .slice qa F.length qc]) (fun w => by simp [execOp, Act.eval, go_sem]) ?_
        simp only [ap_s, ap_n, ls_z, ls_s]
        obtain ⟨W3, hw⟩ : ∃ u, u = W2.alloc (.cells #[.int .i64 0, .slice none 0 0, .slice none 0 0] 36) := ⟨_, rfl⟩
        obtain ⟨yb, hy⟩ : ∃ u, u = W2.heap.size := ⟨_, rfl⟩
        have hb : Below W2.heap.size W2 W3 := by rw [hw]; exact (Below.refl _ _).alloc (Nat.le_refl _) _
        have HB3 := Lib.hid (below_then HB2.out hb)
        have Hd3 := Lib.hid (Hd2.out.below hb)
        clear Hd2
        have Hf3 := Lib.hid (Hf2.out.below hb)
        clear Hf2
        have Hy3 : Hid (RowAt W3 yb [.int .i64 0, .slice none 0 0, .slice none 0 0]) := by rw [hw]; exact RowAt.new _ [.int .i64 0, .slice none 0 0, .slice none 0 0] (by simp) _ hy.symm
        have HZ3 : Hid (W2.heap.size ≤ yb ∧ yb < W3.heap.size) := ⟨Nat.le_of_eq hy.symm, Hy3.out.lt⟩
        have hz3 : W2.heap.size ≤ W3.heap.size := hb.size
        refine tr_run (d := some 9) rfl rfl rfl (.pointer (some ⟨yb, 0, none⟩)) W3 (by rw [hw, hy]; simp [execOp, Act.eval, go_sem]) (fun _ => HR3.out.2.1.below HB3.out) ?_
        simp only [ap_s, ap_n, ls_z, ls_s]
        clear hw hy hb
        have q1 := HZ1.out
        have q2 := HZ2.out
        have q3 := HZ3.out
        have q0 : w3.heap.size ≤ w3.drew.heap.size := Nat.le_refl _
        have yd : (.slice pa D.length pc : Value).ownBlock ≠ some yb := fun e => by have := q1 yb e; omega
        have yf : (.slice qa F.length qc : Value).ownBlock ≠ some yb := fun e => by have := q2 yb e; omega
        have df : ∀ g, (.slice pa D.length pc : Value).ownBlock = some g → (.slice qa F.length qc : Value).ownBlock ≠ some g := fun g e1 e2 => by have := q1 g e1; have := q2 g e2; omega
        have ly : w3.heap.size ≤ yb := by omega
        refine tr_rowst (d := none) rfl rfl rfl _ _ rfl yb rfl [.int .i64 0, .slice none 0 0, .slice none 0 0] [.int .i64 (n : Int), .slice pa D.length pc, .slice qa F.length qc] rfl Hy3.out rfl rowT_st (by intro v hv; simp at hv; rcases hv with rfl | rfl | rfl <;> first | rfl | exact Hd3.out.one | exact Hf3.out.one) ?_
        intro W9 hr ha
        refine ⟨(fun h => by cases h), ?_⟩
        simp only [ap_s, ap_n, ls_z, ls_s]
        refine tr_end ?_
        exact ⟨rfl, yb, _, _, rfl, hr, ly, Hd3.out.apart ha yd, Hf3.out.apart ha yf, HB3.out.trans (ha.below ly), yd, yf, df⟩
      · obtain ⟨W2, hw⟩ : ∃ u, u = W1.alloc (.cells #[.int .i64 0, .slice none 0 0, .slice none 0 0] 36) := ⟨_, rfl⟩
        obtain ⟨yb, hy⟩ : ∃ u, u = W1.heap.size := ⟨_, rfl⟩
        have hb : Below W1.heap.size W1 W2 := by rw [hw]; exact (Below.refl _ _).alloc (Nat.le_refl _) _
        have HB2 := Lib.hid (below_then HB1.out hb)
        have Hd2 := Lib.hid (Hd1.out.below hb)
        clear Hd1
        have Hy2 : Hid (RowAt W2 yb [.int .i64 0, .slice none 0 0, .slice none 0 0]) := by rw [hw]; exact RowAt.new _ [.int .i64 0, .slice none 0 0, .slice none 0 0] (by simp) _ hy.symm
        have HZ2 : Hid (W1.heap.size ≤ yb ∧ yb < W2.heap.size) := ⟨Nat.le_of_eq hy.symm, Hy2.out.lt⟩
        have hz2 : W1.heap.size ≤ W2.heap.size := hb.size
        refine tr_run (d := some 9) rfl rfl rfl (.pointer (some ⟨yb, 0, none⟩)) W2 (by rw [hw, hy]; simp [execOp, Act.eval, go_sem]) (fun _ => HR3.out.2.1.below HB2.out) ?_
        simp only [ap_s, ap_n, ls_z, ls_s]
        clear hw hy hb
        refine tr_call (d := some 32) rfl rfl rfl ⟨_, Tryz.func57, by kernel_rfl, by kernel_rfl⟩ _ _ _ rfl rfl [.slice fa fn fc] rfl (pclone_any _ F B0 _ (HL3.out.2.below HB2.out) HDl.out.2) ?_
        rintro e W3 ⟨vv, rfl, hv, hb⟩
        obtain ⟨qa, qc, rfl⟩ := hv.slice
        have HB3 := Lib.hid (below_then HB2.out hb)
        have Hd3 := Lib.hid (Hd2.out.below hb)
        clear Hd2
        have Hy3 := Lib.hid (Hy2.out.below hb)
        clear Hy2
        have Hf3 := Lib.hid (hv.mono (base := W2.heap.size) HB2.out.size)
        have HZ3 : Hid (∀ g, (.slice qa F.length qc : Value).ownBlock = some g → W2.heap.size ≤ g ∧ g < W3.heap.size) := hv.lt
        have hz3 : W2.heap.size ≤ W3.heap.size := hb.size
        clear hv hb
        refine ⟨_, rfl, fun _ => HR3.out.2.1.below HB3.out, ?_⟩
        simp only [ap_s, ap_n, ls_z, ls_s]
        refine tr_q (d := some 33) rfl rfl rfl (.agg #[.int .i64 (n : Int), .slice pa D.length pc, .slice qa F.length qc]) (fun w => by simp [execOp, Act.eval, go_sem]) ?_
        simp only [ap_s, ap_n, ls_z, ls_s]
        have q1 := HZ1.out
        have q2 := HZ3.out
        have q3 := HZ2.out
        have q0 : w3.heap.size ≤ w3.drew.heap.size := Nat.le_refl _
        have yd : (.slice pa D.length pc : Value).ownBlock ≠ some yb := fun e => by have := q1 yb e; omega
        have yf : (.slice qa F.length qc : Value).ownBlock ≠ some yb := fun e => by have := q2 yb e; omega
        have df : ∀ g, (.slice pa D.length pc : Value).ownBlock = some g → (.slice qa F.length qc : Value).ownBlock ≠ some g := fun g e1 e2 => by have := q1 g e1; have := q2 g e2; omega
        have ly : w3.heap.size ≤ yb := by omega
        refine tr_rowst (d := none) rfl rfl rfl _ _ rfl yb rfl [.int .i64 0, .slice none 0 0, .slice none 0 0] [.int .i64 (n : Int), .slice pa D.length pc, .slice qa F.length qc] rfl Hy3.out rfl rowT_st (by intro v hv; simp at hv; rcases hv with rfl | rfl | rfl <;> first | rfl | exact Hd3.out.one | exact Hf3.out.one) ?_
        intro W9 hr ha
        refine ⟨(fun h => by cases h), ?_⟩
        simp only [ap_s, ap_n, ls_z, ls_s]
        refine tr_end ?_
        exact ⟨rfl, yb, _, _, rfl, hr, ly, Hd3.out.apart ha yd, Hf3.out.apart ha yf, HB3.out.trans (ha.below ly), yd, yf, df⟩
    · obtain ⟨W1, hw⟩ : ∃ u, u = w3.drew.alloc (.cells #[.int .i64 0, .slice none 0 0, .slice none 0 0] 36) := ⟨_, rfl⟩
      obtain ⟨yb, hy⟩ : ∃ u, u = w3.drew.heap.size := ⟨_, rfl⟩
      have hb : Below w3.drew.heap.size w3.drew W1 := by rw [hw]; exact (Below.refl _ _).alloc (Nat.le_refl _) _
      have HB1 := Lib.hid (below_then HB0.out hb)
      have Hy1 : Hid (RowAt W1 yb [.int .i64 0, .slice none 0 0, .slice none 0 0]) := by rw [hw]; exact RowAt.new _ [.int .i64 0, .slice none 0 0, .slice none 0 0] (by simp) _ hy.symm
      have HZ1 : Hid (w3.drew.heap.size ≤ yb ∧ yb < W1.heap.size) := ⟨Nat.le_of_eq hy.symm, Hy1.out.lt⟩
      have hz1 : w3.drew.heap.size ≤ W1.heap.size := hb.size
      refine tr_run (d := some 9) rfl rfl rfl (.pointer (some ⟨yb, 0, none⟩)) W1 (by rw [hw, hy]; simp [execOp, Act.eval, go_sem]) (fun _ => HR3.out.2.1.below HB1.out) ?_
      simp only [ap_s, ap_n, ls_z, ls_s]
      clear hw hy hb
      refine tr_call (d := some 29) rfl rfl rfl ⟨_, Tryz.func57, by kernel_rfl, by kernel_rfl⟩ _ _ _ rfl rfl [.slice da dn dc] rfl (pclone_any _ D B0 _ (HL3.out.1.below HB1.out) HDl.out.1) ?_
      rintro e W2 ⟨vv, rfl, hv, hb⟩
      obtain ⟨pa, pc, rfl⟩ := hv.slice
      have HB2 := Lib.hid (below_then HB1.out hb)
      have Hy2 := Lib.hid (Hy1.out.below hb)
      clear Hy1
      have Hd2 := Lib.hid (hv.mono (base := W1.heap.size) HB1.out.size)
      have HZ2 : Hid (∀ g, (.slice pa D.length pc : Value).ownBlock = some g → W1.heap.size ≤ g ∧ g < W2.heap.size) := hv.lt
      have hz2 : W1.heap.size ≤ W2.heap.size := hb.size
      clear hv hb
      refine ⟨_, rfl, fun _ => HR3.out.2.1.below HB2.out, ?_⟩
      simp only [ap_s, ap_n, ls_z, ls_s]
      refine tr_call (d := some 32) rfl rfl rfl ⟨_, Tryz.func57, by kernel_rfl, by kernel_rfl⟩ _ _ _ rfl rfl [.slice fa fn fc] rfl (pclone_any _ F B0 _ (HL3.out.2.below HB2.out) HDl.out.2) ?_
      rintro e W3 ⟨vv, rfl, hv, hb⟩
      obtain ⟨qa, qc, rfl⟩ := hv.slice
      have HB3 := Lib.hid (below_then HB2.out hb)
      have Hd3 := Lib.hid (Hd2.out.below hb)
      clear Hd2
      have Hy3 := Lib.hid (Hy2.out.below hb)
      clear Hy2
      have Hf3 := Lib.hid (hv.mono (base := W2.heap.size) HB2.out.size)
      have HZ3 : Hid (∀ g, (.slice qa F.length qc : Value).ownBlock = some g → W2.heap.size ≤ g ∧ g < W3.heap.size) := hv.lt
      have hz3 : W2.heap.size ≤ W3.heap.size := hb.size
      clear hv hb
      refine ⟨_, rfl, fun _ => HR3.out.2.1.below HB3.out, ?_⟩
      simp only [ap_s, ap_n, ls_z, ls_s]
      refine tr_q (d := some 33) rfl rfl rfl (.agg #[.int .i64 (n : Int), .slice pa D.length pc, .slice qa F.length qc]) (fun w => by simp [execOp, Act.eval, go_sem]) ?_
      simp only [ap_s, ap_n, ls_z, ls_s]
      have q1 := HZ2.out
      have q2 := HZ3.out
      have q3 := HZ1.out
      have q0 : w3.heap.size ≤ w3.drew.heap.size := Nat.le_refl _
      have yd : (.slice pa D.length pc : Value).ownBlock ≠ some yb := fun e => by have := q1 yb e; omega
      have yf : (.slice qa F.length qc : Value).ownBlock ≠ some yb := fun e => by have := q2 yb e; omega
      have df : ∀ g, (.slice pa D.length pc : Value).ownBlock = some g → (.slice qa F.length qc : Value).ownBlock ≠ some g := fun g e1 e2 => by have := q1 g e1; have := q2 g e2; omega
      have ly : w3.heap.size ≤ yb := by omega
      refine tr_rowst (d := none) rfl rfl rfl _ _ rfl yb rfl [.int .i64 0, .slice none 0 0, .slice none 0 0] [.int .i64 (n : Int), .slice pa D.length pc, .slice qa F.length qc] rfl Hy3.out rfl rowT_st (by intro v hv; simp at hv; rcases hv with rfl | rfl | rfl <;> first | rfl | exact Hd3.out.one | exact Hf3.out.one) ?_
      intro W9 hr ha
      refine ⟨(fun h => by cases h), ?_⟩
      simp only [ap_s, ap_n, ls_z, ls_s]
      refine tr_end ?_
      exact ⟨rfl, yb, _, _, rfl, hr, ly, Hd3.out.apart ha yd, Hf3.out.apart ha yf, HB3.out.trans (ha.below ly), yd, yf, df⟩
  rintro a w5 ⟨yb, v31, v34, rfl, hM⟩
  simp only [List.cons_append, List.nil_append]
  obtain ⟨ya, yn, yc, rfl⟩ : ∃ a m c, v31 = .slice a m c := by obtain ⟨a, c, h⟩ := hM.od.slice; exact ⟨a, _, c, h⟩
  obtain ⟨za, zn, zc, rfl⟩ : ∃ a m c, v34 = .slice a m c := by obtain ⟨a, c, h⟩ := hM.of.slice; exact ⟨a, _, c, h⟩
  have HRn : Hid (Rn n w3 w5 yb D F (.slice ya yn yc) (.slice za zn zc)) := ⟨hM.row, hM.od, hM.of, hM.yd, hM.yf, hM.be, HFix.out.2.2.1⟩
  have Hyl : Hid (w3.heap.size ≤ yb ∧ w.heap.size + 1 + 1 < w3.heap.size) := ⟨hM.lo, HR3.out.2.2.lt⟩
  clear hM
  go_wp2_with fail
  go_loopw [35] (fun kv wr => ∃ c : Nat, c ≤ k ∧ kv = .int .i64 c ∧ Hid (∃ D2 F2 a1 n1 c1 a2 n2 c2, Rn n w3 wr yb D2 F2 (.slice a1 n1 c1) (.slice a2 n2 c2) ∧ runN n fr sl mv k D F = runN n fr sl mv (k - c) D2 F2)) (fun kv _ => (1000 - intOf kv).toNat)
  case atStart => exact ⟨0, by omega, rfl, _, _, _, _, _, _, _, _, HRn.out, rfl⟩
  case round =>
    clear HRn
    obtain ⟨c, hc, rfl, hs⟩ := hrel
    obtain ⟨D2, F2, a1, n1, c1, a2, n2, c2, hs, hrn⟩ := hs.out
    have HS := Lib.hid hs
    have hwl : w.heap.size ≤ w3.heap.size := HB3.out.size
    have hC : RowAt wr w.heap.size [.int .i64 fr, .int .i64 sl, .int .i64 mv] := HR3.out.1.below hs.be
    have hR : RowAt wr (w.heap.size + 1 + 1) [.int .i64 0, .slice none 0 0, .slice none 0 0] := HR3.out.2.2.below hs.be
    have y0 := hs.row.at 0 rfl
    have y1 := hs.row.at 1 rfl
    have y2 := hs.row.at 2 rfl
    by_cases hlt : c < k
    · have i0 : (c : Int) < (k : Int) := by omega
      have HSt := Lib.hid (pstep_any n HFix.out.1 fr sl mv HFix.out.2.1 _ _ D2 F2 w3.heap.size wr (HCr3.out.1.below hs.be HCr3.out.2) (Nat.lt_of_lt_of_le HCr3.out.2 hs.be.size) hs.ok hs.od hs.of)
      unfold stv at HSt
      have hkc : k - c = (k - (c + 1)) + 1 := by omega
      rw [hkc] at hrn
      have Hrn := Lib.hid hrn
      have HR := Lib.hid hR
      have c0 := hC.at 0 rfl
      have c11 := hC.at 1 rfl
      have c22 := hC.at 2 rfl
      clear hs hrn hC hR hkc hwl
      go_wp2_with fail
      clear y0 y1 y2 c0 c11 c22
      refine HSt.out.mono ?_
      rintro e w6 ⟨⟨m, x1, m1, e1, x2, m2, e2, bv, q, rfl, hst⟩, hb6⟩
      have hY6 := HS.out.row.below hb6
      have y0 := hY6.at 0 rfl
      have y1 := hY6.at 1 rfl
      have y2 := hY6.at 2 rfl
      have f0 := hY6.2.2 0 (by simp)
      have f1 := hY6.2.2 1 (by simp)
      have f2 := hY6.2.2 2 (by simp)
      obtain ⟨q1, q2, q3⟩ := set3 hY6 _ rfl w3.heap.size (a0 := .int .i64 m) (a1 := .slice x1 m1 e1) (a2 := .slice x2 m2 e2) Hyl.out.1
      have hyr := HS.out.row.lt
      have hR6 := (HR.out.below hb6).of_block (q2 _ (by have := Hyl.out; omega))
      have hbe := (below_then HS.out.be hb6).trans q3
      cases ho : outB (stD n fr sl mv D2 F2) 0 16777216 with
      | true =>
        obtain ⟨rfl, h1, h2, rfl⟩ := hst.t ho
        injection h1 with h11 h12 h13
        injection h2 with h21 h22 h23
        subst h11 h12 h13 h21 h22 h23
        have HNo : Hid (runN n fr sl mv k D F = none) := by unfold Hid; rw [Hrn.out]; unfold runN; rw [if_pos ho]
        have r0 := hR6.at 0 rfl
        have r1 := hR6.at 1 rfl
        have r2 := hR6.at 2 rfl
        have g0 := hR6.2.2 0 (by simp)
        have g1 := hR6.2.2 1 (by simp)
        have g2 := hR6.2.2 2 (by simp)
        obtain ⟨p1, p2, p3⟩ := set3 hR6 _ rfl w.heap.size (a0 := .int .i64 0) (a1 := .slice none 0 0) (a2 := .slice none 0 0) (by omega)
        have HE := Lib.hid (And.intro p1 ((HB3.out.trans (hbe.mono HB3.out.size)).trans p3))
        clear hst hb6 hY6 q1 q2 q3 hyr hR6 hbe p1 p2 p3 ho HS HR Hrn HSt
        go_wp2_with fail
        refine ret_row2 rfl _ [.int .i64 0, .slice none 0 0, .slice none 0 0] _ HE.out.1 rowT_st rfl rfl rfl ⟨⟨fun _ => rfl, fun D' F' h => ?_⟩, HE.out.2⟩
        rw [HNo.out] at h; cases h
      | false =>
        obtain ⟨hm, rfl, h1, h2⟩ := hst.f ho
        subst hm
        have hRn : Hid (∃ D3 F3 b1 m1 d1 b2 m2 d2, Rn n w3 _ yb D3 F3 (.slice b1 m1 d1) (.slice b2 m2 d2) ∧ runN n fr sl mv k D F = runN n fr sl mv (k - (c + 1)) D3 F3) :=
          ⟨_, _, _, _, _, _, _, _, ⟨q1, (h1.of_same2 (fun g hg => q2 g (by have := (h1.lt g hg).1; omega))).mono HS.out.be.size, (h2.of_same2 (fun g hg => q2 g (by have := (h2.lt g hg).1; omega))).mono HS.out.be.size, fun e => by have := (h1.lt _ e).1; omega, fun e => by have := (h2.lt _ e).1; omega, hbe, stD_ok HS.out.ok ho⟩, by rw [Hrn.out]; show (if _ then _ else _) = _; rw [ho]; rfl⟩
        clear hst hb6 hY6 q1 q2 q3 hyr hR6 hbe ho HS HR Hrn HSt h1 h2
        go_wp2_with fail
        refine ⟨⟨c + 1, by omega, by go_num, hRn⟩, ?_⟩
        simp [intOf]; omega
    · obtain rfl : c = k := by omega
      have HNo : Hid (runN n fr sl mv c D F = some (D2, F2)) := by unfold Hid; rw [hrn, Nat.sub_self]; rfl
      have r0 := hR.at 0 rfl
      have r1 := hR.at 1 rfl
      have r2 := hR.at 2 rfl
      have g0 := hR.2.2 0 (by simp)
      have g1 := hR.2.2 1 (by simp)
      have g2 := hR.2.2 2 (by simp)
      obtain ⟨p1, p2, p3⟩ := set3 hR _ rfl w.heap.size (a0 := .int .i64 (n : Int)) (a1 := .slice a1 n1 c1) (a2 := .slice a2 n2 c2) (by omega)
      have hl := Hyl.out.2
      have HE := Lib.hid (And.intro p1 (And.intro ((HB3.out.trans (HS.out.be.mono HB3.out.size)).trans p3) (And.intro ((HS.out.od.of_same2 (fun g hg => p2 g (by have := (HS.out.od.lt g hg).1; omega))).mono (B := w.heap.size) hwl) ((HS.out.of.of_same2 (fun g hg => p2 g (by have := (HS.out.of.lt g hg).1; omega))).mono (B := w.heap.size) hwl))))
      clear hrn hC hR p1 p2 p3 hl hwl HS
      go_wp2_with fail
      refine ret_row2 rfl _ [.int .i64 (n : Int), .slice a1 n1 c1, .slice a2 n2 c2] _ HE.out.1 rowT_st rfl rfl rfl ⟨⟨fun h => ?_, fun D' F' h => ?_⟩, HE.out.2.1⟩
      · rw [HNo.out] at h; cases h
      · rw [HNo.out] at h; injection h with h; injection h with h1 h2; subst h1 h2
        exact ⟨_, _, rfl, HE.out.2.2.1, HE.out.2.2.2⟩
end Go.Proofs.YtkpgciimhjkajaaGreatDoor
/- The library's Repeat of one number. -/
namespace Go.Proofs.YtkpgciimhjkajaaGreatDoor
open Go Go.RowKit
set_option maxRecDepth 100000 in
theorem pmul_any (N : Nat) (hN : N ≤ 1000000) (w : World) : Calls Tryz.prog 67 #[.int .u64 1, .int .u64 (N : Int)] w fun e w' => e = .returned (.tuple #[.int .u64 0, .int .u64 (N : Int)]) ∧ w' = w := by
  have h := Tryz.bits_Mul64 1 N (by omega) (by omega) w
  have e1 : 1 * N / 18446744073709551616 = 0 := by omega
  have e2 : 1 * N % 18446744073709551616 = N := by omega
  rw [e1, e2] at h
  have HM := Lib.hid h
  clear h e1 e2
  have hN2 : (N : Int) ≤ 1000000 := by omega
  have hN3 : 0 ≤ (N : Int) := by omega
  go_enter Tryz.func67, Tryz.ntmps67
  go_wp2_with fail
  refine HM.out.mono ?_
  rintro e w1 ⟨rfl, rfl⟩
  go_wp2_with fail
  go_ret2
  exact ⟨rfl, rfl⟩
def rpC (d : Int) (N j : Nat) : List Value := ics (List.replicate j d ++ List.replicate (N - j) 0)
theorem rpC_length (d : Int) (N j : Nat) (h : j ≤ N) : (rpC d N j).length = N := by simp [rpC, ics]; omega
theorem run_copyB {P : Program} {o : Oper} {a : Act} {w w' : World} (s x : Operand) (ts : Array TypeId) (ho : o.op = .call { callee := .builtin .copy, args := #[s, x], argTypes := ts }) (v xv : Value) (hs : a.eval s = v) (hx : a.eval x = xv) {v' : Value}
    (hrun : (Builtin.copy_ ts o.type #[v, xv]).run P w = .ok v' w') : (execOp a.eval o).run P w = .ok (.value v') w' := by
  unfold execOp
  simp only [ho, resolve, invoke, builtin, Sem.run_bind, Sem.run_pure, Result.andThen_ok, List.map_toArray, List.map_cons, List.map_nil, hs, hx, hrun]
theorem rp_copy {w : World} {X N j m : Nat} {d : Int} (hj : j ≤ N) (hm : j + m ≤ N) : ((rpC d N j).toArray.toList.take j ++ ics (List.replicate m d) ++ (rpC d N j).toArray.toList.drop (j + (ics (List.replicate m d)).length)).toArray = (rpC d N (j + m)).toArray := by
  congr 1
  simp only [rpC, ics, List.map_append, List.map_replicate, List.length_replicate, List.take_append, List.drop_append, List.take_replicate, List.drop_replicate]
  simp only [Nat.min_self, Nat.sub_self, Nat.zero_min, List.replicate_zero, List.append_nil]
  have e1 : j - (j + m) = 0 := by omega
  have e2 : N - j - (j + m - j) = N - (j + m) := by omega
  rw [e1, e2]
  simp only [List.replicate_zero, List.nil_append]
  rw [List.replicate_append_replicate]
set_option maxRecDepth 100000 in
set_option maxHeartbeats 16000000 in
theorem prepeat_any (xb : Nat) (d : Int) (N : Nat) (hN : 1 ≤ N ∧ N ≤ 1000000) (w : World) (hx : w.cell? ⟨xb, 0, none⟩ = some (.int .i64 d)) :
    Calls Tryz.prog 49 #[.slice (some ⟨xb, 0, none⟩) 1 1, .int .i64 (N : Int)] w fun e w' => ∃ v, e = .returned v ∧ OwnI w' w.heap.size v (List.replicate N d) ∧ Below w.heap.size w w' := by
  have HMu := Lib.hid (pmul_any N (by omega) w)
  have n0 : 0 ≤ (N : Int) := by omega
  have n1 : (N : Int) ≤ 1000000 := by omega
  have n2 : 1 ≤ (N : Int) := by omega
  have hmk := run_make_row' (P := Tryz.prog) 34 3 (.int .i64 0) 8 Tryz.underlying34 iinfoN rfl .i64 .i64 N (by omega) (by omega)
  have hxl := World.block_lt_of_cell? _ _ hx
  obtain ⟨X, hX⟩ : ∃ x, x = w.heap.size := ⟨_, rfl⟩
  obtain ⟨w1, hw1⟩ : ∃ u, u = w.alloc (.cells (madeCells #[.int .i64 0] N) 3) := ⟨_, rfl⟩
  have hb1 : Below w.heap.size w w1 := by rw [hw1]; exact (Below.refl _ _).alloc (Nat.le_refl _) _
  have h0 : w1.heap[X]? = some (.cells (rpC d N 0).toArray 3 (0, 0)) := by
    have e : madeCells #[.int .i64 0] N = (rpC d N 0).toArray := Array.ext' (by rw [toList_madeCells_one]; simp [rpC, ics])
    rw [hw1, hX, ← e]; exact heap_alloc_new w _
  have hrun := run_copy_row (P := Tryz.prog) w1 34 34 3 3 X 0 N N ⟨xb, 0, none⟩ 1 1 (rpC d N 0).toArray 3 (ics (List.replicate 1 d)) Tryz.underlying34 (by kernel_rfl) h0 (by rw [show (ics (List.replicate 1 d)).length = 1 by simp [ics]]; exact (Nat.min_eq_left hN.1).symm)
    (fun j v hj => by
      have : j = 0 := by have := (List.getElem?_eq_some_iff.1 hj).1; simp [ics] at this; omega
      subst this
      have hv : v = .int .i64 d := by simp [ics] at hj; exact hj.symm
      rw [hv, Go.WideShapes.add_plain, hb1.cell (p := ⟨xb, 0 + 0, none⟩) hxl]
      exact hx) (by simp [ics]; rw [rpC_length d N 0 (by omega)]; omega) (by intro v hv; simp [ics] at hv; subst hv; rfl)
  have e01 := rp_copy (w := w) (X := X) (N := N) (j := 0) (m := 1) (d := d) (by omega) (by omega)
  rw [e01] at hrun
  have hl1 : (ics (List.replicate 1 d)).length = 1 := by simp [ics]
  rw [hl1] at hrun
  obtain ⟨w2, hw2⟩ : ∃ u, u = w1.setRow X (rpC d N (0 + 1)).toArray := ⟨_, rfl⟩
  rw [← hw2] at hrun
  have h2 : w2.heap[X]? = some (.cells (rpC d N 1).toArray 3 (0, 0)) := by rw [hw2]; exact setRow_heap w1 X _ _ _ _ h0
  have ho2 : ∀ k, k ≠ X → w2.heap[k]? = w1.heap[k]? := fun k hk => by rw [hw2]; exact setRow_other w1 X k _ hk
  have hb2 : Below w.heap.size w w2 := hb1.trans ⟨by rw [hw2]; rfl, by rw [hw2]; rfl, by rw [hw2]; rfl, by rw [hw2]; simp, fun k hk => ho2 k (by omega)⟩
  have Hrun := Lib.hid hrun
  have H2 : Hid (w2.heap[X]? = some (.cells (rpC d N 1).toArray 3 (0, 0)) ∧ Below w.heap.size w w2) := ⟨h2, hb2⟩
  have HX := Lib.hid hX
  have Hw1 := Lib.hid hw1
  have HN := Lib.hid hN
  clear hrun hb2 h2 ho2 hw2 e01 hl1 h0 hb1 hw1 hX hxl hx hN
  go_enter Tryz.func49, Tryz.ntmps49
  go_wp2_with fail
  refine HMu.out.mono ?_
  rintro e w3 ⟨rfl, rfl⟩
  go_upto_region 7 with fail
  rw [← Hw1.out, ← HX.out]
  have hrun := Hrun.out
  clear hmk HMu
  go_wp2_with fail
  clear hrun
  obtain ⟨w, rfl⟩ : ∃ u, u = w3 := ⟨_, rfl⟩
  go_loopw [8] (fun kv wr => ∃ j : Nat, 1 ≤ j ∧ j ≤ N ∧ kv = .int .i64 j ∧ Hid (wr.heap[X]? = some (.cells (rpC d N j).toArray 3 (0, 0)) ∧ Below w.heap.size w wr)) (fun kv _ => (2000000 - intOf kv).toNat)
  case atStart => exact ⟨1, by omega, HN.out.1, rfl, H2.out⟩
  case round =>
    obtain ⟨j, hj1, hj2, rfl, hs⟩ := hrel
    by_cases hlt : j < N
    · have j0 : (j : Int) < (N : Int) := by omega
      have j1 : 1 ≤ (j : Int) := by omega
      have j2 : (j : Int) ≤ (N : Int) := by omega
      obtain ⟨m, hm⟩ : ∃ m, m = Nat.min j (N - j) := ⟨_, rfl⟩
      have hmj : 1 ≤ m ∧ m ≤ j ∧ j + m ≤ N := by
        rw [hm, show Nat.min j (N - j) = min j (N - j) from rfl]
        omega
      go_upto_region 9 with fail
      have h0 := hs.out.1
      have hrun := run_copy_row (P := Tryz.prog) wr.drew 34 34 3 3 X j (N - j) (N - j) ⟨X, 0, none⟩ j N (rpC d N j).toArray 3 (ics (List.replicate m d)) Tryz.underlying34 (by kernel_rfl) h0 (by simp [ics]; exact hm)
        (fun q v hq => by
          have hql : q < m := by have := (List.getElem?_eq_some_iff.1 hq).1; simpa [ics] using this
          have hv : v = .int .i64 d := by simp [ics, hql] at hq; exact hq.symm
          rw [hv, Go.WideShapes.add_plain, Nat.zero_add]
          show wr.cell? _ = _
          simp only [World.cell?, h0]
          rw [if_neg (by simp)]
          have hqj : q < j := by omega
          simp [rpC, ics, List.getElem?_append_left, hqj]) (by simp [ics]; rw [rpC_length d N j hj2]; omega) (by intro v hv; simp [ics] at hv; obtain ⟨_, rfl⟩ := hv; rfl)
      rw [rp_copy (w := w) (X := X) (N := N) (j := j) (m := m) (d := d) hj2 hmj.2.2] at hrun
      rw [show (ics (List.replicate m d)).length = m by simp [ics]] at hrun
      obtain ⟨w4, hw4⟩ : ∃ u, u = wr.drew.setRow X (rpC d N (j + m)).toArray := ⟨_, rfl⟩
      rw [← hw4] at hrun
      have HApp := Lib.hid hrun
      have HE : Hid (w4.heap[X]? = some (.cells (rpC d N (j + m)).toArray 3 (0, 0)) ∧ Below w.heap.size w w4) := by
        refine ⟨by rw [hw4]; exact setRow_heap wr.drew X _ _ _ _ h0, hs.out.2.drew.trans ⟨by rw [hw4]; rfl, by rw [hw4]; rfl, by rw [hw4]; rfl, by rw [hw4]; simp, fun k hk => ?_⟩⟩
        rw [hw4]
        have hXk : k ≠ X := by have := HX.out; omega
        rw [setRow_other wr.drew X k _ hXk]
      have HIx : Hid (¬ N = j ∧ (j : Int) ≤ (N : Int) ∧ 0 ≤ (j : Int) ∧ (N : Int) - (j : Int) = ((N - j : Nat) : Int) ∧ IntKind.i64.wrap ((j : Int) + (m : Int)) = ((j + m : Nat) : Int)) := ⟨by omega, j2, by omega, by omega, by rw [IntWalk.i64_in _ (by have := HN.out.2; omega)]; omega⟩
      clear hrun hw4 h0 hm hs
      refine wp_region_seqL (by kernel_rfl) (fun _ => True) 7 [(0, 0), (1, 0), (2, 0), (3, 0), (4, 0), (5, 0), (6, 0), (7, 2), (8, 0), (9, 0)] (by kernel_rfl) (trivial) ?_
      refine sl_q (d := some 38) rfl rfl rfl (.int .i64 (j : Int)) (fun w => rfl) ?_
      simp only [ap_s, ap_n, ls_z, ls_s]
      refine sl_q (d := some 39) rfl rfl rfl (.slice (some ⟨X, 0, none⟩) N N) (fun w => rfl) ?_
      simp only [ap_s, ap_n, ls_z, ls_s]
      refine sl_q (d := some 40) rfl rfl rfl (.int .i64 (j : Int)) (fun w => rfl) ?_
      simp only [ap_s, ap_n, ls_z, ls_s]
      refine sl_q (d := some 41) rfl rfl rfl (.slice (some ⟨X, j, none⟩) (N - j) (N - j)) (fun w => by obtain ⟨i0, i1, i2, i3, _⟩ := HIx.out; simp [execOp, Act.eval, go_sem, i0, i1, i2, i3]) ?_
      simp only [ap_s, ap_n, ls_z, ls_s]
      refine sl_q (d := some 42) rfl rfl rfl (.slice (some ⟨X, 0, none⟩) N N) (fun w => rfl) ?_
      simp only [ap_s, ap_n, ls_z, ls_s]
      refine sl_q (d := some 43) rfl rfl rfl (.int .i64 (j : Int)) (fun w => rfl) ?_
      simp only [ap_s, ap_n, ls_z, ls_s]
      refine sl_q (d := some 44) rfl rfl rfl (.slice (some ⟨X, 0, none⟩) j N) (fun w => by obtain ⟨i0, i1, i2, i3, _⟩ := HIx.out; simp [execOp, Act.eval, go_sem, i0, i1, i2, i3]) ?_
      simp only [ap_s, ap_n, ls_z, ls_s]
      refine sl_run (d := some 45) rfl rfl rfl (goInt m) w4 (run_copyB _ _ _ rfl _ _ rfl rfl HApp.out) (fun h => by cases h) ?_
      simp only [ap_s, ap_n, ls_z, ls_s]
      refine sl_q (d := some 46) rfl rfl rfl (.int .i64 ((j + m : Nat) : Int)) (fun w => by have c := HIx.out.2.2.2.2; simp only [goInt] ; simp [execOp, Act.eval, go_sem, goInt, c]) ?_
      simp only [ap_s, ap_n, ls_z, ls_s]
      refine sl_q (d := some 8) rfl rfl rfl (.int .i64 ((j + m : Nat) : Int)) (fun w => rfl) ?_
      simp only [ap_s, ap_n, ls_z, ls_s]
      refine sl_end ?_
      go_wp2_with fail
      refine ⟨⟨j + m, by omega, by omega, by go_num, HE⟩, ?_⟩
      simp [intOf]; have := HN.out.2; omega
    · obtain rfl : j = N := by omega
      have hB : BlkI wr X (List.replicate j d) j := ⟨[], by have h := hs.out.1; simp only [rpC, Nat.sub_self, List.replicate_zero, List.append_nil] at h; rw [List.append_nil]; exact h, by simp⟩
      have hO := hB.own (base := w.heap.size) (by have := HX.out; omega) (by have := HN.out.2; omega)
      rw [List.length_replicate] at hO
      have HE := Lib.hid (And.intro hO hs.out.2)
      clear hO hB hs
      go_wp2_with fail
      go_ret
      exact ⟨_, rfl, HE.out⟩
end Go.Proofs.YtkpgciimhjkajaaGreatDoor
