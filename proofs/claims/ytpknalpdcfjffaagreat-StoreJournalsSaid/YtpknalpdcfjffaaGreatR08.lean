/- Part 8 of the proof: laws on memory and what functions of the program return. No conditions but those that each theorem names. -/
import Derived.Test.YtpknalpdcfjffaaGreatR07
import Derived.Laws.IdiomStrings
set_option linter.unusedVariables false
set_option linter.unusedSimpArgs false
/- The law's made. Printed by gen_law.py. -/
namespace Go.Proofs.YtpknalpdcfjffaaGreat
open Go Go.RowKit

theorem i64_0 : I64 0 := by unfold I64; omega
theorem i64_1 : I64 1 := by unfold I64; omega
theorem lo_0 : 0 < 18446744073709551616 := by decide
theorem sz_ana : (Tryz.prog.info? 45).map (·.size) = some 8 := by kernel_rfl
theorem sz_cyc : (Tryz.prog.info? 53).map (·.size) = some 17 := by kernel_rfl
theorem sz_cert : (Tryz.prog.info? 43).map (·.size) = some 4 := by kernel_rfl
theorem cyc_load (w : World) (b : Nat) (es : List Value) (hl : es.length = 17) (hr : w.rangeAt b 0 es) : (loadVar 53 ⟨b, 0, none⟩).run Tryz.prog w = .ok (.agg es.toArray) w := run_loadVar_mid w b 0 _ es _ hr Tryz.underlying53 rfl (by rw [sz_cyc, hl])
theorem rdk {α : Type} {E : El α} (hE : E.OK) {b P base : Nat} {W W' : World} {v : Value} {l : List α} (h : RdS E (fun k => nb b P k ∧ base < k) W v l) (hk : Kp b P W W') : RdS E (fun k => nb b P k ∧ base < k) W' v l := h.keep hE fun k c t f e e1 ha => hk.keeps k c t f e e1 ha.1
def smRep (r : Rep) : Prop := r.rds.length ≤ 2 ∧ r.name.size ≤ 5
def smCnts (l : List Cnt) : Prop := l.length ≤ 2 ∧ ∀ c ∈ l, c.name.size ≤ 5
def smCyc (x : Cyc) : Prop := (x.reps.length ≤ 2 ∧ ∀ r ∈ x.reps, smRep r) ∧ (x.ana.bg.length ≤ 4 ∧ x.ana.inc.length ≤ 4 ∧ x.ana.field.length ≤ 4) ∧ x.depth.length = 12 ∧ x.flow.length ≤ 1440 ∧ (x.cycles.length ≤ 2 ∧ ∀ l ∈ x.cycles, smCnts l) ∧ x.listed.length ≤ 2 ∧ ∀ s ∈ x.listed, s.size ≤ 5
def MadeIs (B b : Nat) (w : World) (e : Ending) (w' : World) : Prop := ∃ (x : Cyc) (cs : List Value), e = .returned (.agg cs.toArray) ∧ cycE.rep (w.heap.size ≤ ·) w' cs x ∧ smCyc x ∧ St w B b w'
theorem rowT_cyc : RowT 53 17 := ⟨by kernel_rfl, _, Tryz.underlying53, rfl⟩
set_option maxHeartbeats 16000000 in
set_option maxRecDepth 100000 in
theorem made_ok (B b : Nat) (w : World) (h : CodesIs w B b) :
    Calls Tryz.prog 23 #[.pointer (some ⟨b, 0, none⟩)] w (MadeIs B b w) := by
  have hle := h.le
  have hbw : Hid (b < w.heap.size) := h.lt
  have H0 := Lib.hid (Mk.new (St.start h) hle zCyc (by decide) 53 (by decide))
  clear h hle
  go_enter Tryz.func23, Tryz.ntmps23
  go_wp2_with fail
  change Hid (Mk w B b w.heap.size zCyc (w.alloc (.cells #[.int .i64 0, .int .i64 0, .int .i64 0, .slice none 0 0, .slice none 0 0, .slice none 0 0, .slice none 0 0, .int .i64 0, .int .u64 0, .int .i64 0, .int .i64 0, .int .i64 0, .int .i64 0, .slice none 0 0, .slice none 0 0, .slice none 0 0, .slice none 0 0] 53))) at H0
  generalize w.alloc (.cells #[.int .i64 0, .int .i64 0, .int .i64 0, .slice none 0 0, .slice none 0 0, .slice none 0 0, .slice none 0 0, .int .i64 0, .int .u64 0, .int .i64 0, .int .i64 0, .int .i64 0, .int .i64 0, .slice none 0 0, .slice none 0 0, .slice none 0 0, .slice none 0 0] 53) = w0 at H0 ⊢
  refine (next_ok B b 9 w0 H0.out.st.1 (by omega) (by omega)).mono ?_
  rintro e w1 ⟨x1, g1, g2, rfl, hs⟩
  have H1 := Lib.hid (H0.out.call hs)
  have HX1 : Hid (I64 x1) := by unfold Hid; unfold I64; omega
  clear hs g1 g2 H0
  go_wp2_with fail
  refine (int_ok B b w1 H1.out.st.1).mono ?_
  rintro e w2 ⟨x2, hx, rfl, hs⟩
  have H2 := Lib.hid (H1.out.call hs)
  have HX2 := Lib.hid hx
  clear hs hx H1
  go_wp2_with fail
  refine (int_ok B b w2 H2.out.st.1).mono ?_
  rintro e w3 ⟨x3, hx, rfl, hs⟩
  have H3 := Lib.hid (H2.out.call hs)
  have HX3 := Lib.hid hx
  clear hs hx H2
  go_wp2_with fail
  refine (state_ok B b w3 H3.out.st.1).mono ?_
  rintro e w4 ⟨dv, fv, dl, fl, rfl, hd1, hd2, hf1, hf2, ho1, ho2, hs⟩
  have H4 := Lib.hid (H3.out.call hs)
  have HDl := Lib.hid hd1
  have HFl := Lib.hid hf1
  have HRd1 := Lib.hid (OwnI.rd ho1 hd2 (by decide) (by decide) (by omega))
  have HRd2 := Lib.hid (OwnI.rd ho2 hf2 (by decide) (by decide) (by omega))
  have HW3 : Hid (w.heap.size < w3.heap.size) := H3.out.lt
  obtain ⟨da, dc, rfl⟩ := ho1.slice
  obtain ⟨fa, fc, rfl⟩ := ho2.slice
  clear hs hd1 hd2 hf1 hf2 ho1 ho2 H3
  go_wp2_with fail
  have HM : Hid (Cy w B b w4.heap.size ⟨x1, x2, x3, [], ⟨[], [], [], 0, 0, 0, 0, 0⟩, 1, dl, fl, [], []⟩ (.slice none 0 0) (.slice none 0 0) (.slice none 0 0) (.slice none 0 0) (.slice da dl.length dc) (.slice fa fl.length fc) (.slice none 0 0) (.slice none 0 0) (w4.alloc (.cells #[.int .i64 x1, .int .i64 x2, .int .i64 x3, .slice none 0 0, .slice none 0 0, .slice none 0 0, .slice none 0 0, .int .i64 0, .int .u64 0, .int .i64 0, .int .i64 0, .int .i64 0, .int .i64 1, .slice da dl.length dc, .slice fa fl.length fc, .slice none 0 0, .slice none 0 0] 53))) :=
    ⟨Mk.new H4.out.st H4.out.bb (cycCells ⟨x1, x2, x3, [], ⟨[], [], [], 0, 0, 0, 0, 0⟩, 1, dl, fl, [], []⟩ (.slice none 0 0) (.slice none 0 0) (.slice none 0 0) (.slice none 0 0) (.slice da dl.length dc) (.slice fa fl.length fc) (.slice none 0 0) (.slice none 0 0)) (by simp [cycCells]) 53 (by decide),
      cycR.keep ⟨HX1.out, HX2.out, HX3.out, .nil _ _ _, ⟨.nil _ _ _, .nil _ _ _, .nil _ _ _, i64_0, lo_0, i64_0, i64_0, i64_0⟩, i64_1, HRd1.out.weak intE_ok fun k hk hk2 => by
        have h1 : w3.heap.size ≤ k := hk
        have := HW3.out
        have := hbw.out
        exact ⟨⟨by omega, by omega⟩, by omega⟩, HRd2.out.weak intE_ok fun k hk hk2 => by
        have h1 : w3.heap.size ≤ k := hk
        have := HW3.out
        have := hbw.out
        exact ⟨⟨by omega, by omega⟩, by omega⟩, .nil _ _ _, .nil _ _ _⟩ (Keeps.of_below ((Below.refl _ _).alloc (Nat.le_refl _) _)), H4.out.pa.below ((Below.refl _ _).alloc (Nat.le_refl _) _), H4.out.lt, hbw.out⟩
  clear H4 HRd1 HRd2 HW3
  generalize w4.heap.size = P at HM ⊢
  generalize w4.alloc (.cells #[.int .i64 x1, .int .i64 x2, .int .i64 x3, .slice none 0 0, .slice none 0 0, .slice none 0 0, .slice none 0 0, .int .i64 0, .int .u64 0, .int .i64 0, .int .i64 0, .int .i64 0, .int .i64 1, .slice da dl.length dc, .slice fa fl.length fc, .slice none 0 0, .slice none 0 0] 53) = wM at HM ⊢
  refine (next_ok B b 3 wM HM.out.m.st.1 (by omega) (by omega)).mono ?_
  rintro e W0 ⟨n, n0, n1, rfl, hs⟩
  obtain ⟨n, rfl⟩ := Int.eq_ofNat_of_zero_le n0
  have HC0 := Lib.hid (HM.out.call hs)
  have HS := Lib.hid (Lp.start (E := repE) (T := 32) HC0.out.m)
  clear hs HM
  go_wp2_with fail
  go_loopw [4] (fun kv wr => ∃ (k : Nat) (v : Value) (l : List Rep), kv = .int .i64 k ∧ l.length + k ≤ 2 ∧ Hid (∀ r ∈ l, smRep r) ∧ Hid (Lp repE 32 w B b P (cycCells ⟨x1, x2, x3, [], ⟨[], [], [], 0, 0, 0, 0, 0⟩, 1, dl, fl, [], []⟩ v (.slice none 0 0) (.slice none 0 0) (.slice none 0 0) (.slice da dl.length dc) (.slice fa fl.length fc) (.slice none 0 0) (.slice none 0 0)) W0 v l wr)) (fun kv _ => (intOf kv).toNat)
  case atStart => exact ⟨n, _, [], rfl, by simp; omega, fun r hr => by simp at hr, HS⟩
  case round =>
    clear HS
    obtain ⟨k, v, l, rfl, hk, HSm, H0⟩ := hrel
    by_cases hk0 : 0 < k
    · have k0 : (0 : Int) < (k : Int) := by omega
      obtain ⟨va0, vc0, rfl⟩ := H0.out.row.slice
      have HL := Lib.hid hk
      clear hk
      go_upto_region 5 with fail
      refine wp_region_seqL (by kernel_rfl) (fun w' => PAt w' P (cycCells ⟨x1, x2, x3, [], ⟨[], [], [], 0, 0, 0, 0, 0⟩, 1, dl, fl, [], []⟩ (.slice va0 l.length vc0) (.slice none 0 0) (.slice none 0 0) (.slice none 0 0) (.slice da dl.length dc) (.slice fa fl.length fc) (.slice none 0 0) (.slice none 0 0))) 7 [(0, 0), (1, 1), (2, 0), (3, 2), (4, 2), (5, 2), (6, 0), (7, 2)] (by kernel_rfl) (H0.out.m.pa.drew) ?_
      refine sl_q (d := some 24) rfl rfl rfl (.pointer (some ⟨P, 3, none⟩)) (fun w => by go_simp) ?_
      simp only [Act.put, List.setIfInBounds_toArray, List.set_cons_zero, List.set_cons_succ]
      refine sl_s (d := some 25) rfl rfl rfl (.slice va0 l.length vc0) (fun w hw => by have hw0 := hw.1.at 3 rfl; simp [execOp, Act.eval, hw0, go_sem]) ?_
      simp only [Act.put, List.setIfInBounds_toArray, List.set_cons_zero, List.set_cons_succ]
      refine sl_q (d := some 26) rfl rfl rfl (.pointer (some ⟨b, 0, none⟩)) (fun w => rfl) ?_
      simp only [Act.put, List.setIfInBounds_toArray, List.set_cons_zero, List.set_cons_succ]
      refine sl_call (d := some 27) rfl rfl rfl ⟨_, Tryz.func20, by kernel_rfl, by kernel_rfl⟩ _ _ _ rfl rfl [.pointer (some ⟨b, 0, none⟩)] rfl (report_ok B b (wr.drew) ((H0.out.drew repE_ok).m.st.1)) ?_
      rintro e w1 ⟨r, rc, rfl, hrep, h1, h2, hs⟩
      have H1 := Lib.hid ((H0.out.drew repE_ok).call repE_ok hs)
      have HSr : Hid (smRep r) := ⟨h1, h2⟩
      have HRe : Hid (repE.rep (avR W0.heap.size (.slice va0 l.length vc0)) w1 rc r) := repE_ok.weak hrep fun k hk _ => by
        have h1 : wr.drew.heap.size ≤ k := hk
        refine ⟨Nat.le_trans (H0.out.drew repE_ok).kp.size h1, fun e => ?_⟩
        have := ((H0.out.drew repE_ok).row.lt k e).2
        omega
      clear hs hrep h1 h2
      refine ⟨_, rfl, fun _ => H1.out.m.pa, ?_⟩
      simp only [Act.put, List.setIfInBounds_toArray, List.set_cons_zero, List.set_cons_succ]
      have hre : repE.rep (avR W0.heap.size (.slice va0 l.length vc0)) (w1) rc r := HRe.out
      obtain ⟨va, wa, hrun, hr, hb⟩ := RowE.append repE_ok repT H1.out.row hre (by have := HL.out; omega) H1.out.kp.size 37
      have HA := Lib.hid (Lp.next H1.out hr hb)
      have HRun := Lib.hid hrun
      clear hrun hr hb
      refine sl_run (d := some 28) rfl rfl rfl (.slice (some ⟨(w1).heap.size, 0, none⟩) 1 1) ((w1).alloc (.cells (rc).toArray 32)) (lit_run repT _ rfl _ rc rfl (repE_ok.len hre) (repE_ok.one hre)) (fun _ => (H1.out.alloc repE_ok _).m.pa) ?_
      clear hre
      simp only [Act.put, List.setIfInBounds_toArray, List.set_cons_zero, List.set_cons_succ]
      refine sl_run (d := some 29) rfl rfl rfl va wa (run_append _ _ _ rfl _ _ rfl rfl HRun.out) (fun _ => HA.out.m.pa) ?_
      simp only [Act.put, List.setIfInBounds_toArray, List.set_cons_zero, List.set_cons_succ]
      refine sl_q (d := some 30) rfl rfl rfl (.pointer (some ⟨P, 3, none⟩)) (fun w => by go_simp) ?_
      simp only [Act.put, List.setIfInBounds_toArray, List.set_cons_zero, List.set_cons_succ]
      obtain ⟨va1, va2, va3⟩ := HA.out.row.slice
      subst va3
      have q0 := HA.out.m.pa.1.at 3 rfl
      have q1 := HA.out.m.pa.1.2.2 3 (by simp [cycCells])
      have HZ := Lib.hid (HA.out.set repE_ok 3 (.slice va1 (l ++ [r]).length va2) (by simp [cycCells]))
      clear HA
      refine sl_skip (d := none) rfl rfl rfl (wa.setCell ⟨P, 3, none⟩ (.slice va1 (l ++ [r]).length va2)) (by simp [execOp, Act.eval, q0, q1, go_sem]) (fun h => by cases h) ?_
      clear q0 q1
      simp only [Act.put, List.setIfInBounds_toArray, List.set_cons_zero, List.set_cons_succ]
      refine sl_end ?_
      have HZ1 : Hid (Lp repE 32 w B b P (cycCells ⟨x1, x2, x3, [], ⟨[], [], [], 0, 0, 0, 0, 0⟩, 1, dl, fl, [], []⟩ (.slice va1 (l ++ [r]).length va2) (.slice none 0 0) (.slice none 0 0) (.slice none 0 0) (.slice da dl.length dc) (.slice fa fl.length fc) (.slice none 0 0) (.slice none 0 0)) W0 (.slice va1 (l ++ [r]).length va2) (l ++ [r]) (wa.setCell ⟨P, 3, none⟩ (.slice va1 (l ++ [r]).length va2))) := HZ
      generalize wa.setCell ⟨P, 3, none⟩ (.slice va1 (l ++ [r]).length va2) = wz at HZ1 ⊢
      clear HZ HRun H0 H1
      have hk2 : k ≤ 2 := by have := HL.out; omega
      go_wp2_with fail
      go_roundw
      case rel => exact ⟨k - 1, _, _, by go_num, by have := HL.out; simp; omega, fun r' hr => by
        rcases List.mem_append.1 hr with hr | hr
        · exact HSm.out r' hr
        · simp at hr; subst hr; exact HSr.out, HZ1⟩
      case measure => simp [intOf]; omega
    · obtain rfl : k = 0 := by omega
      obtain ⟨va0, vc0, rfl⟩ := H0.out.row.slice
      have HSl : Hid (l.length ≤ 2) := by have := hk; unfold Hid; omega
      have HC := Lib.hid (HC0.out.put (x' := ⟨x1, x2, x3, l, ⟨[], [], [], 0, 0, 0, 0, 0⟩, 1, dl, fl, [], []⟩) H0.out.kp H0.out.m (by
        have d := HC0.out.dk H0.out.kp
        have hrd := Cy.rd (b := b) (P := P) (w := w) repE_ok (H0.out.row.rd repE_ok (by decide) (by omega)) H0.out.pb (by have := H0.out.pb; have := H0.out.m.lo; omega) HC0.out.r.lt
        exact ⟨d.1, d.2.1, d.2.2.1, hrd, d.2.2.2.2⟩))
      clear hk H0 HC0
      go_wp2_with fail
      refine (next_ok B b 5 wr HC.out.m.st.1 (by omega) (by omega)).mono ?_
      rintro e y1 ⟨j1, j0, jm, rfl, hs⟩
      obtain ⟨j1, rfl⟩ := Int.eq_ofNat_of_zero_le j0
      have HJ1 : Hid (j1 ≤ 4) := by unfold Hid; omega
      have HC1 := Lib.hid (HC.out.call hs)
      clear hs HC j0 jm
      go_wp2_with fail
      refine (vector_ok B b j1 100 100 y1 HC1.out.m.st.1 (by have := HJ1.out; omega) (by omega) (by omega) (by omega)).mono ?_
      rintro e y2 ⟨v1, l1, rfl, hl1, hb1, ho1, hs⟩
      have HC2 := Lib.hid (HC1.out.call hs)
      have HR1 := Lib.hid (Cy.rd (b := b) (P := P) (w := w) intE_ok (ho1.rd hb1 (by decide) (by decide) (by have := HJ1.out; omega)) HC1.out.m.lt HC1.out.m.st.lt HC1.out.r.lt)
      have HV1 : Hid (l1.length ≤ 4) := by have := HJ1.out; unfold Hid; omega
      obtain ⟨a1, c1, rfl⟩ := ho1.slice
      clear hs HC1 hl1 hb1 ho1 HJ1
      go_wp2_with fail
      refine (next_ok B b 5 y2 HC2.out.m.st.1 (by omega) (by omega)).mono ?_
      rintro e y3 ⟨j2, j0, jm, rfl, hs⟩
      obtain ⟨j2, rfl⟩ := Int.eq_ofNat_of_zero_le j0
      have HJ2 : Hid (j2 ≤ 4) := by unfold Hid; omega
      have HCa := Lib.hid (HC2.out.call hs)
      have HRa1 := Lib.hid (rdk intE_ok HR1.out (Kp.st (P := P) hs))
      clear hs HC2 j0 jm HR1
      go_wp2_with fail
      refine (vector_ok B b j2 100 100 y3 HCa.out.m.st.1 (by have := HJ2.out; omega) (by omega) (by omega) (by omega)).mono ?_
      rintro e y4 ⟨v2, l2, rfl, hl1, hb1, ho1, hs⟩
      have HC4 := Lib.hid (HCa.out.call hs)
      have HR1 := Lib.hid (rdk intE_ok HRa1.out (Kp.st (P := P) hs))
      have HR2 := Lib.hid (Cy.rd (b := b) (P := P) (w := w) intE_ok (ho1.rd hb1 (by decide) (by decide) (by have := HJ2.out; omega)) HCa.out.m.lt HCa.out.m.st.lt HCa.out.r.lt)
      have HV2 : Hid (l2.length ≤ 4) := by have := HJ2.out; unfold Hid; omega
      obtain ⟨a2, c2, rfl⟩ := ho1.slice
      clear hs HCa hl1 hb1 ho1 HJ2 HRa1
      go_wp2_with fail
      refine (next_ok B b 5 y4 HC4.out.m.st.1 (by omega) (by omega)).mono ?_
      rintro e y5 ⟨j3, j0, jm, rfl, hs⟩
      obtain ⟨j3, rfl⟩ := Int.eq_ofNat_of_zero_le j0
      have HJ3 : Hid (j3 ≤ 4) := by unfold Hid; omega
      have HCa := Lib.hid (HC4.out.call hs)
      have HRa1 := Lib.hid (rdk intE_ok HR1.out (Kp.st (P := P) hs))
      have HRa2 := Lib.hid (rdk intE_ok HR2.out (Kp.st (P := P) hs))
      clear hs HC4 j0 jm HR1 HR2
      go_wp2_with fail
      refine (vector_ok B b j3 100 100 y5 HCa.out.m.st.1 (by have := HJ3.out; omega) (by omega) (by omega) (by omega)).mono ?_
      rintro e y6 ⟨v3, l3, rfl, hl1, hb1, ho1, hs⟩
      have HC6 := Lib.hid (HCa.out.call hs)
      have HR1 := Lib.hid (rdk intE_ok HRa1.out (Kp.st (P := P) hs))
      have HR2 := Lib.hid (rdk intE_ok HRa2.out (Kp.st (P := P) hs))
      have HR3 := Lib.hid (Cy.rd (b := b) (P := P) (w := w) intE_ok (ho1.rd hb1 (by decide) (by decide) (by have := HJ3.out; omega)) HCa.out.m.lt HCa.out.m.st.lt HCa.out.r.lt)
      have HV3 : Hid (l3.length ≤ 4) := by have := HJ3.out; unfold Hid; omega
      obtain ⟨a3, c3, rfl⟩ := ho1.slice
      clear hs HCa hl1 hb1 ho1 HJ3 HRa1 HRa2
      go_wp2_with fail
      refine (next_ok B b 9 y6 HC6.out.m.st.1 (by omega) (by omega)).mono ?_
      rintro e y7 ⟨rd, j0, jm, rfl, hs⟩
      have HRo : Hid (I64 rd) := by unfold Hid; unfold I64; omega
      have HC7 := Lib.hid (HC6.out.call hs)
      have HRa1 := Lib.hid (rdk intE_ok HR1.out (Kp.st (P := P) hs))
      have HRa2 := Lib.hid (rdk intE_ok HR2.out (Kp.st (P := P) hs))
      have HRa3 := Lib.hid (rdk intE_ok HR3.out (Kp.st (P := P) hs))
      clear hs HC6 j0 jm HR1 HR2 HR3
      go_wp2_with (refine list_storeAgg rfl _ _ rfl P 4 rfl [.slice a1 l1.length c1, .slice a2 l2.length c2, .slice a3 l3.length c3, .int .i64 0, .int .u64 0, .int .i64 0, .int .i64 0, .int .i64 rd] rfl sz_ana (all_one rfl) (HC7.out.m.pa.thereMid 4 8 (by simp [cycCells])) ?_
                   intro y8 hy8
                   have HC8 : Hid (Cy w B b P ⟨x1, x2, x3, l, ⟨l1, l2, l3, 0, 0, 0, 0, rd⟩, 1, dl, fl, [], []⟩ (.slice va0 l.length vc0) (.slice a1 l1.length c1) (.slice a2 l2.length c2) (.slice a3 l3.length c3) (.slice da dl.length dc) (.slice fa fl.length fc) (.slice none 0 0) (.slice none 0 0) y8) := by
                     rw [hy8]
                     exact HC7.out.put (Kp.mid 4 _) (HC7.out.m.mid 4 [.slice a1 l1.length c1, .slice a2 l2.length c2, .slice a3 l3.length c3, .int .i64 0, .int .u64 0, .int .i64 0, .int .i64 0, .int .i64 rd] (by simp [cycCells])) (by
                       have d := HC7.out.dk (Kp.mid (b := b) 4 [.slice a1 l1.length c1, .slice a2 l2.length c2, .slice a3 l3.length c3, .int .i64 0, .int .u64 0, .int .i64 0, .int .i64 0, .int .i64 rd])
                       exact ⟨d.1, d.2.1, d.2.2.1, d.2.2.2.1, ⟨rdk intE_ok HRa1.out (Kp.mid 4 _), rdk intE_ok HRa2.out (Kp.mid 4 _), rdk intE_ok HRa3.out (Kp.mid 4 _), i64_0, lo_0, i64_0, i64_0, HRo.out⟩, d.2.2.2.2.2⟩)
                   clear hy8 HC7 HRa1 HRa2 HRa3)
      refine (int_ok B b y8 HC8.out.m.st.1).mono ?_
      rintro e y9 ⟨hi, hx, rfl, hs⟩
      have HC9 := Lib.hid (HC8.out.call hs)
      have HX9 := Lib.hid hx
      clear hs hx HC8
      go_wp2_with fail
      refine (int_ok B b y9 HC9.out.m.st.1).mono ?_
      rintro e y10 ⟨lo, hx, rfl, hs⟩
      have HC10 := Lib.hid (HC9.out.call hs)
      clear hs hx HC9
      go_wp2_with fail
      refine (int_ok B b y10 HC10.out.m.st.1).mono ?_
      rintro e y11 ⟨an, hx, rfl, hs⟩
      have HC11 := Lib.hid (HC10.out.call hs)
      have HX11 := Lib.hid hx
      clear hs hx HC10
      go_wp2_with fail
      refine (int_ok B b y11 HC11.out.m.st.1).mono ?_
      rintro e y12 ⟨ra, hx, rfl, hs⟩
      have HC12 := Lib.hid (HC11.out.call hs)
      have HX12 := Lib.hid hx
      clear hs hx HC11
      obtain ⟨lw, hlw, hlb⟩ := u64_nat lo
      have HLw := Lib.hid hlb
      rw [hlw]
      clear hlw hlb
      go_wp2_with (refine list_storeAgg rfl _ _ rfl P 7 rfl [.int .i64 hi, .int .u64 lw, .int .i64 an, .int .i64 ra] rfl sz_cert (all_one rfl) (HC12.out.m.pa.thereMid 7 4 (by simp [cycCells])) ?_
                   intro y13 hy
                   have HC13 : Hid (Cy w B b P ⟨x1, x2, x3, l, ⟨l1, l2, l3, hi, lw, an, ra, rd⟩, 1, dl, fl, [], []⟩ (.slice va0 l.length vc0) (.slice a1 l1.length c1) (.slice a2 l2.length c2) (.slice a3 l3.length c3) (.slice da dl.length dc) (.slice fa fl.length fc) (.slice none 0 0) (.slice none 0 0) y13) := by
                     rw [hy]
                     exact HC12.out.put (Kp.mid 7 _) (HC12.out.m.mid 7 [.int .i64 hi, .int .u64 lw, .int .i64 an, .int .i64 ra] (by simp [cycCells])) (by
                       have d := HC12.out.dk (Kp.mid (b := b) 7 [.int .i64 hi, .int .u64 lw, .int .i64 an, .int .i64 ra])
                       exact ⟨d.1, d.2.1, d.2.2.1, d.2.2.2.1, ⟨d.2.2.2.2.1.1, d.2.2.2.2.1.2.1, d.2.2.2.2.1.2.2.1, HX9.out, HLw.out, HX11.out, HX12.out, HRo.out⟩, d.2.2.2.2.2⟩)
                   clear hy HC12)
      refine (next_ok B b 3 y13 HC13.out.m.st.1 (by omega) (by omega)).mono ?_
      rintro e Wb ⟨nb2, j0, jm, rfl, hs⟩
      obtain ⟨nb2, rfl⟩ := Int.eq_ofNat_of_zero_le j0
      have HCb := Lib.hid (HC13.out.call hs)
      have HS := Lib.hid (Lp.start (E := sliE cntE) (T := 95) HCb.out.m)
      clear hs HC13
      go_wp2_with fail
      obtain ⟨wout, rfl⟩ : ∃ wout : World, wout = wr := ⟨_, rfl⟩
      go_loopw [5] (fun kv wr => ∃ (k : Nat) (v : Value) (lc : List (List Cnt)), kv = .int .i64 k ∧ lc.length + k ≤ 2 ∧ Hid (∀ u ∈ lc, smCnts u) ∧ Hid (Lp (sliE cntE) 95 w B b P (cycCells ⟨x1, x2, x3, l, ⟨l1, l2, l3, hi, lw, an, ra, rd⟩, 1, dl, fl, [], []⟩ (.slice va0 l.length vc0) (.slice a1 l1.length c1) (.slice a2 l2.length c2) (.slice a3 l3.length c3) (.slice da dl.length dc) (.slice fa fl.length fc) v (.slice none 0 0)) Wb v lc wr)) (fun kv _ => (intOf kv).toNat)
      case atStart => exact ⟨nb2, _, [], rfl, by simp; omega, fun r hr => by simp at hr, HS⟩
      case round =>
        clear HS
        obtain ⟨k, v, lc, rfl, hk, HSc, H0⟩ := hrel
        obtain ⟨vb0, vd0, rfl⟩ := H0.out.row.slice
        have HL := Lib.hid hk
        by_cases hk0 : 0 < k
        · have k0 : (0 : Int) < (k : Int) := by omega
          clear hk
          go_wp2_with fail
          refine (next_ok B b 3 wr H0.out.m.st.1 (by omega) (by omega)).mono ?_
          rintro e z1 ⟨m, j0, jm, rfl, hs⟩
          obtain ⟨m, rfl⟩ := Int.eq_ofNat_of_zero_le j0
          have HO := Lib.hid (H0.out.call (sliE_ok cntE_ok) hs)
          have HS := Lib.hid (Lp.start (E := cntE) (T := 97) HO.out.m)
          clear hs H0
          go_wp2_with fail
          obtain ⟨wo2, rfl⟩ : ∃ wo2 : World, wo2 = wr := ⟨_, rfl⟩
          go_loopw [6, 7] (fun bv kv wr => ∃ (j : Nat) (u : List Cnt), kv = .int .i64 j ∧ u.length + j ≤ 2 ∧ Hid (∀ c ∈ u, c.name.size ≤ 5) ∧ Hid (Lp cntE 97 w B b P (cycCells ⟨x1, x2, x3, l, ⟨l1, l2, l3, hi, lw, an, ra, rd⟩, 1, dl, fl, [], []⟩ (.slice va0 l.length vc0) (.slice a1 l1.length c1) (.slice a2 l2.length c2) (.slice a3 l3.length c3) (.slice da dl.length dc) (.slice fa fl.length fc) (.slice vb0 lc.length vd0) (.slice none 0 0)) z1 bv u wr)) (fun _ kv _ => (intOf kv).toNat)
          case atStart => exact ⟨m, [], rfl, by simp; omega, fun r hr => by simp at hr, HS⟩
          case round =>
            clear HS
            obtain ⟨j, u, rfl, hj, HSu, HI⟩ := hrel
            obtain ⟨ia, ic, rfl⟩ := HI.out.row.slice
            have HJ := Lib.hid hj
            by_cases hj0 : 0 < j
            · have k1 : (0 : Int) < (j : Int) := by omega
              clear hj
              go_wp2_with fail
              refine (name_ok B b wr HI.out.m.st.1).mono ?_
              rintro e z2 ⟨nm, hx, rfl, hs⟩
              have HI2 := Lib.hid (HI.out.call cntE_ok hs)
              have HNm := Lib.hid hx
              clear hs hx HI
              go_wp2_with fail
              refine (next_ok B b 9 z2 HI2.out.m.st.1 (by omega) (by omega)).mono ?_
              rintro e z3 ⟨tot, j0, jm, rfl, hs⟩
              have HI3 := Lib.hid (HI2.out.call cntE_ok hs)
              have HTo : Hid (I64 tot) := by unfold Hid; unfold I64; omega
              clear hs j0 jm HI2
              go_wp2_with fail
              refine (int_ok B b z3 HI3.out.m.st.1).mono ?_
              rintro e z4 ⟨rej, hx, rfl, hs⟩
              have HI4 := Lib.hid (HI3.out.call cntE_ok hs)
              have HRj := Lib.hid hx
              clear hs hx HI3
              have hre : cntE.rep (avR z1.heap.size (.slice ia u.length ic)) z4 [.string nm, .int .i64 tot, .int .i64 rej] ⟨nm, tot, rej⟩ := ⟨rfl, Nat.le_trans HNm.out (by decide), HTo.out, HRj.out⟩
              obtain ⟨va, wa, hrun, hr, hb⟩ := RowE.append cntE_ok cntT HI4.out.row hre (by have := HJ.out; omega) HI4.out.kp.size 95
              have HA := Lib.hid (Lp.next HI4.out hr hb)
              have HRun := Lib.hid hrun
              clear hre hrun hr hb HI4
              have hj2 : j ≤ 2 := by have := HJ.out; omega
              go_wp2_with (first
                | (refine list_lit cntT rfl _ rfl [.string nm, .int .i64 tot, .int .i64 rej] rfl rfl (all_one rfl) ?_)
                | (at_builtin; refine wpList_append_run rfl _ _ _ rfl _ _ _ _ rfl rfl HRun.out ?_; clear HRun))
              go_roundw
              case rel => exact ⟨j - 1, _, by go_num, by have := HJ.out; simp; omega, fun c hc => by
                rcases List.mem_append.1 hc with hc | hc
                · exact HSu.out c hc
                · simp at hc; subst hc; exact HNm.out, HA⟩
              case measure => simp [intOf]; omega
            · obtain rfl : j = 0 := by omega
              have HSl2 : Hid (smCnts u) := ⟨by omega, HSu.out⟩
              have hO2 : Lp (sliE cntE) 95 w B b P (cycCells ⟨x1, x2, x3, l, ⟨l1, l2, l3, hi, lw, an, ra, rd⟩, 1, dl, fl, [], []⟩ (.slice va0 l.length vc0) (.slice a1 l1.length c1) (.slice a2 l2.length c2) (.slice a3 l3.length c3) (.slice da dl.length dc) (.slice fa fl.length fc) (.slice vb0 lc.length vd0) (.slice none 0 0)) Wb (.slice vb0 lc.length vd0) lc wr := HO.out.kept' (sliE_ok cntE_ok) HI.out.kp HI.out.m
              have hre : (sliE cntE).rep (avR Wb.heap.size (.slice vb0 lc.length vd0)) wr [.slice ia u.length ic] u := ⟨_, rfl, (HI.out.row.rd cntE_ok (by decide) (by omega)).weak cntE_ok fun k hk _ => by
                have h1 : z1.heap.size ≤ k := hk
                refine ⟨Nat.le_trans HO.out.kp.size h1, fun e => ?_⟩
                have := (HO.out.row.lt k e).2
                omega⟩
              obtain ⟨va, wa, hrun, hr, hb⟩ := RowE.append (sliE_ok cntE_ok) cntsT hO2.row hre (by have := HL.out; omega) hO2.kp.size 48
              have HA := Lib.hid (Lp.next hO2 hr hb)
              have HRun := Lib.hid hrun
              have q15 : wr.cell? ⟨P, 15, none⟩ = some (.slice vb0 lc.length vd0) := hO2.m.pa.1.at 15 rfl
              clear hre hrun hr hb hO2 HI hj HO HSu
              obtain ⟨va1, va2, va3⟩ := HA.out.row.slice
              subst va3
              have q0 := HA.out.m.pa.1.at 15 rfl
              have q1 := HA.out.m.pa.1.2.2 15 (by simp [cycCells])
              go_wp2_with (first
                | (refine list_lit cntsT rfl _ rfl [.slice ia u.length ic] rfl rfl (all_one rfl) ?_)
                | (at_builtin; refine wpList_append_run rfl _ _ _ rfl _ _ _ _ rfl rfl HRun.out ?_; clear HRun)
                | (refine list_skipE rfl _ _ rfl (wa.setCell ⟨P, 15, none⟩ (.slice va1 (lc ++ [u]).length va2)) (by simp [execOp, Act.eval, q0, q1, go_sem]) ?_
                   intro wz hwz
                   have HZ1 : Hid (Lp (sliE cntE) 95 w B b P (cycCells ⟨x1, x2, x3, l, ⟨l1, l2, l3, hi, lw, an, ra, rd⟩, 1, dl, fl, [], []⟩ (.slice va0 l.length vc0) (.slice a1 l1.length c1) (.slice a2 l2.length c2) (.slice a3 l3.length c3) (.slice da dl.length dc) (.slice fa fl.length fc) (.slice va1 (lc ++ [u]).length va2) (.slice none 0 0)) Wb (.slice va1 (lc ++ [u]).length va2) (lc ++ [u]) wz) := by
                     rw [hwz]
                     exact HA.out.set (sliE_ok cntE_ok) 15 (.slice va1 (lc ++ [u]).length va2) (by simp [cycCells])
                   clear hwz q0 q1 q15 HA
                   have hk2 : k ≤ 2 := by have := HL.out; omega)
                | fail)
              go_roundw
              case rel => exact ⟨k - 1, _, _, by go_num, by have := HL.out; simp; omega, fun r' hr => by
                rcases List.mem_append.1 hr with hr | hr
                · exact HSc.out r' hr
                · simp at hr; subst hr; exact HSl2.out, HZ1⟩
              case measure => simp [intOf]; omega
        · obtain rfl : k = 0 := by omega
          have HSl3 : Hid (lc.length ≤ 2) := by unfold Hid; omega
          have HCd := Lib.hid (HCb.out.put (x' := ⟨x1, x2, x3, l, ⟨l1, l2, l3, hi, lw, an, ra, rd⟩, 1, dl, fl, lc, []⟩) H0.out.kp H0.out.m (by
            have d := HCb.out.dk H0.out.kp
            have hrd := Cy.rd (b := b) (P := P) (w := w) (sliE_ok cntE_ok) (H0.out.row.rd (sliE_ok cntE_ok) (by decide) (by omega)) H0.out.pb (by have := H0.out.pb; have := H0.out.m.lo; omega) HCb.out.r.lt
            exact ⟨d.1, d.2.1, d.2.2.1, d.2.2.2.1, d.2.2.2.2.1, d.2.2.2.2.2.1, d.2.2.2.2.2.2.1, d.2.2.2.2.2.2.2.1, hrd, d.2.2.2.2.2.2.2.2.2⟩))
          clear hk H0 HCb HL
          go_wp2_with fail
          refine (next_ok B b 3 wr HCd.out.m.st.1 (by omega) (by omega)).mono ?_
          rintro e Wd ⟨nd, j0, jm, rfl, hs⟩
          obtain ⟨nd, rfl⟩ := Int.eq_ofNat_of_zero_le j0
          have HCe := Lib.hid (HCd.out.call hs)
          have HS := Lib.hid (Lp.start (E := strE) (T := 9) HCe.out.m)
          clear hs HCd
          go_wp2_with fail
          obtain ⟨wo3, rfl⟩ : ∃ wo3 : World, wo3 = wr := ⟨_, rfl⟩
          go_loopw [8] (fun kv wr => ∃ (k : Nat) (v : Value) (ls : List ByteArray), kv = .int .i64 k ∧ ls.length + k ≤ 2 ∧ Hid (∀ s ∈ ls, s.size ≤ 5) ∧ Hid (Lp strE 9 w B b P (cycCells ⟨x1, x2, x3, l, ⟨l1, l2, l3, hi, lw, an, ra, rd⟩, 1, dl, fl, lc, []⟩ (.slice va0 l.length vc0) (.slice a1 l1.length c1) (.slice a2 l2.length c2) (.slice a3 l3.length c3) (.slice da dl.length dc) (.slice fa fl.length fc) (.slice vb0 lc.length vd0) v) Wd v ls wr)) (fun kv _ => (intOf kv).toNat)
          case atStart => exact ⟨nd, _, [], rfl, by simp; omega, fun r hr => by simp at hr, HS⟩
          case round =>
            clear HS
            obtain ⟨k, v, ls, rfl, hk, HSt, H0⟩ := hrel
            obtain ⟨ve0, vf0, rfl⟩ := H0.out.row.slice
            have HL := Lib.hid hk
            by_cases hk0 : 0 < k
            · have k0 : (0 : Int) < (k : Int) := by omega
              clear hk
              go_upto_region 20 with fail
              refine wp_region_seqL (by kernel_rfl) (fun w' => PAt w' P (cycCells ⟨x1, x2, x3, l, ⟨l1, l2, l3, hi, lw, an, ra, rd⟩, 1, dl, fl, lc, []⟩ (.slice va0 l.length vc0) (.slice a1 l1.length c1) (.slice a2 l2.length c2) (.slice a3 l3.length c3) (.slice da dl.length dc) (.slice fa fl.length fc) (.slice vb0 lc.length vd0) (.slice ve0 ls.length vf0))) 9 [(0, 0), (1, 0), (2, 1), (3, 0), (4, 2), (5, 2), (6, 2), (7, 0), (8, 0), (9, 2)] (by kernel_rfl) (H0.out.m.pa.drew) ?_
              refine sl_q (d := some 96) rfl rfl rfl (.pointer (some ⟨P, 15, none⟩)) (fun w => by go_simp) ?_
              simp only [Act.put, List.setIfInBounds_toArray, List.set_cons_zero, List.set_cons_succ]
              refine sl_q (d := some 97) rfl rfl rfl (.pointer (some ⟨P, 16, none⟩)) (fun w => by go_simp) ?_
              simp only [Act.put, List.setIfInBounds_toArray, List.set_cons_zero, List.set_cons_succ]
              refine sl_s (d := some 98) rfl rfl rfl (.slice ve0 ls.length vf0) (fun w hw => by have hw0 := hw.1.at 16 rfl; simp [execOp, Act.eval, hw0, go_sem]) ?_
              simp only [Act.put, List.setIfInBounds_toArray, List.set_cons_zero, List.set_cons_succ]
              refine sl_q (d := some 99) rfl rfl rfl (.pointer (some ⟨b, 0, none⟩)) (fun w => rfl) ?_
              simp only [Act.put, List.setIfInBounds_toArray, List.set_cons_zero, List.set_cons_succ]
              refine sl_call (d := some 100) rfl rfl rfl ⟨_, Tryz.func21, by kernel_rfl, by kernel_rfl⟩ _ _ _ rfl rfl [.pointer (some ⟨b, 0, none⟩)] rfl (name_ok B b (wr.drew) ((H0.out.drew strE_ok).m.st.1)) ?_
              rintro e w1 ⟨y1, hx, rfl, hs⟩
              have H1 := Lib.hid ((H0.out.drew strE_ok).call strE_ok hs)
              have HY1 := Lib.hid hx
              clear hs hx
              refine ⟨_, rfl, fun _ => H1.out.m.pa, ?_⟩
              simp only [Act.put, List.setIfInBounds_toArray, List.set_cons_zero, List.set_cons_succ]
              have hre : strE.rep (avR Wd.heap.size (.slice ve0 ls.length vf0)) (w1) [.string y1] y1 := ⟨rfl, Nat.le_trans HY1.out (by decide)⟩
              obtain ⟨va, wa, hrun, hr, hb⟩ := RowE.append strE_ok strT H1.out.row hre (by have := HL.out; omega) H1.out.kp.size 49
              have HA := Lib.hid (Lp.next H1.out hr hb)
              have HRun := Lib.hid hrun
              clear hrun hr hb
              refine sl_run (d := some 101) rfl rfl rfl (.slice (some ⟨(w1).heap.size, 0, none⟩) 1 1) ((w1).alloc (.cells ([.string y1]).toArray 9)) (lit_run strT _ rfl _ [.string y1] rfl (strE_ok.len hre) (strE_ok.one hre)) (fun _ => (H1.out.alloc strE_ok _).m.pa) ?_
              clear hre
              simp only [Act.put, List.setIfInBounds_toArray, List.set_cons_zero, List.set_cons_succ]
              refine sl_run (d := some 102) rfl rfl rfl va wa (run_append _ _ _ rfl _ _ rfl rfl HRun.out) (fun _ => HA.out.m.pa) ?_
              simp only [Act.put, List.setIfInBounds_toArray, List.set_cons_zero, List.set_cons_succ]
              refine sl_q (d := some 103) rfl rfl rfl (.pointer (some ⟨P, 15, none⟩)) (fun w => by go_simp) ?_
              simp only [Act.put, List.setIfInBounds_toArray, List.set_cons_zero, List.set_cons_succ]
              refine sl_q (d := some 104) rfl rfl rfl (.pointer (some ⟨P, 16, none⟩)) (fun w => by go_simp) ?_
              simp only [Act.put, List.setIfInBounds_toArray, List.set_cons_zero, List.set_cons_succ]
              obtain ⟨va1, va2, va3⟩ := HA.out.row.slice
              subst va3
              have q0 := HA.out.m.pa.1.at 16 rfl
              have q1 := HA.out.m.pa.1.2.2 16 (by simp [cycCells])
              have HZ := Lib.hid (HA.out.set strE_ok 16 (.slice va1 (ls ++ [y1]).length va2) (by simp [cycCells]))
              clear HA
              refine sl_skip (d := none) rfl rfl rfl (wa.setCell ⟨P, 16, none⟩ (.slice va1 (ls ++ [y1]).length va2)) (by simp [execOp, Act.eval, q0, q1, go_sem]) (fun h => by cases h) ?_
              clear q0 q1
              simp only [Act.put, List.setIfInBounds_toArray, List.set_cons_zero, List.set_cons_succ]
              refine sl_end ?_
              have HZ1 : Hid (Lp strE 9 w B b P (cycCells ⟨x1, x2, x3, l, ⟨l1, l2, l3, hi, lw, an, ra, rd⟩, 1, dl, fl, lc, []⟩ (.slice va0 l.length vc0) (.slice a1 l1.length c1) (.slice a2 l2.length c2) (.slice a3 l3.length c3) (.slice da dl.length dc) (.slice fa fl.length fc) (.slice vb0 lc.length vd0) (.slice va1 (ls ++ [y1]).length va2)) Wd (.slice va1 (ls ++ [y1]).length va2) (ls ++ [y1]) (wa.setCell ⟨P, 16, none⟩ (.slice va1 (ls ++ [y1]).length va2))) := HZ
              generalize wa.setCell ⟨P, 16, none⟩ (.slice va1 (ls ++ [y1]).length va2) = wz at HZ1 ⊢
              clear HZ HRun H0 H1
              have hk2 : k ≤ 2 := by have := HL.out; omega
              go_wp2_with fail
              go_roundw
              case rel => exact ⟨k - 1, _, _, by go_num, by have := HL.out; simp; omega, fun r' hr => by
                rcases List.mem_append.1 hr with hr | hr
                · exact HSt.out r' hr
                · simp at hr; subst hr; exact HY1.out, HZ1⟩
              case measure => simp [intOf]; omega
            · obtain rfl : k = 0 := by omega
              have HSl4 : Hid (ls.length ≤ 2) := by unfold Hid; omega
              have HCf := Lib.hid (HCe.out.put (x' := ⟨x1, x2, x3, l, ⟨l1, l2, l3, hi, lw, an, ra, rd⟩, 1, dl, fl, lc, ls⟩) H0.out.kp H0.out.m (by
                have d := HCe.out.dk H0.out.kp
                have hrd := Cy.rd (b := b) (P := P) (w := w) strE_ok (H0.out.row.rd strE_ok (by decide) (by omega)) H0.out.pb (by have := H0.out.pb; have := H0.out.m.lo; omega) HCe.out.r.lt
                exact ⟨d.1, d.2.1, d.2.2.1, d.2.2.2.1, d.2.2.2.2.1, d.2.2.2.2.2.1, d.2.2.2.2.2.2.1, d.2.2.2.2.2.2.2.1, d.2.2.2.2.2.2.2.2.1, hrd⟩))
              clear hk H0 HCe HL
              go_wp2_with (first
                | (refine list_loadAgg (cyc_load _ P (cycCells ⟨x1, x2, x3, l, ⟨l1, l2, l3, hi, lw, an, ra, rd⟩, 1, dl, fl, lc, ls⟩ (.slice va0 l.length vc0) (.slice a1 l1.length c1) (.slice a2 l2.length c2) (.slice a3 l3.length c3) (.slice da dl.length dc) (.slice fa fl.length fc) (.slice vb0 lc.length vd0) (.slice ve0 ls.length vf0)) rfl HCf.out.m.pa.1.range) rfl _ rfl rfl ?_)
                | (refine list_storeAgg rfl _ _ rfl w.heap.size 0 rfl (cycCells ⟨x1, x2, x3, l, ⟨l1, l2, l3, hi, lw, an, ra, rd⟩, 1, dl, fl, lc, ls⟩ (.slice va0 l.length vc0) (.slice a1 l1.length c1) (.slice a2 l2.length c2) (.slice a3 l3.length c3) (.slice da dl.length dc) (.slice fa fl.length fc) (.slice vb0 lc.length vd0) (.slice ve0 ls.length vf0)) rfl sz_cyc (all_one rfl) (HCf.out.r.1.there (n := 17) (by decide)) ?_; intro wz hwz)
                | fail)
              have hpz : PAt wz w.heap.size (cycCells ⟨x1, x2, x3, l, ⟨l1, l2, l3, hi, lw, an, ra, rd⟩, 1, dl, fl, lc, ls⟩ (.slice va0 l.length vc0) (.slice a1 l1.length c1) (.slice a2 l2.length c2) (.slice a3 l3.length c3) (.slice da dl.length dc) (.slice fa fl.length fc) (.slice vb0 lc.length vd0) (.slice ve0 ls.length vf0)) := by
                rw [hwz]; exact HCf.out.r.setCells _ rfl
              refine ret_row rfl _ _ hpz.1 rowT_cyc rfl rfl ?_
              have hk8 : KeptBut w.heap.size wr wz := by rw [hwz]; exact setCells_kept _ _ _ _
              refine ⟨⟨x1, x2, x3, l, ⟨l1, l2, l3, hi, lw, an, ra, rd⟩, 1, dl, fl, lc, ls⟩, _, rfl, ⟨_, _, _, _, _, _, _, _, rfl, cycR.weak (HCf.out.d.keep (hk8.keeps (by omega))) fun k hk _ => Nat.le_of_lt hk.2⟩, ⟨⟨HSl.out, HSm.out⟩, ⟨HV1.out, HV2.out, HV3.out⟩, HDl.out, HFl.out, ⟨HSl3.out, HSc.out⟩, HSl4.out, HSt.out⟩, ?_⟩
              rw [hwz]
              exact St.setCells (Nat.le_refl _) (by have := hbw.out; omega) (by have := hbw.out; have := HCf.out.m.bb; omega) _ _ HCf.out.m.st
end Go.Proofs.YtpknalpdcfjffaaGreat
/- The reader of package store: take, its methods, and that it is a walker. -/
namespace Go.Proofs.YtpknalpdcfjffaaGreat
open Go Go.RowKit

theorem BytesL.nil (w : World) (base : Nat) : BytesL w base (.slice none 0 0) [] := ⟨none, 0, rfl, Nat.le_refl _, by omega, fun i hi => by simp at hi⟩
theorem BytesL.take {w : World} {base : Nat} {a : Option Addr} {m c : Nat} {l : List UInt8} (h : BytesL w base (.slice a m c) l) (n : Nat) (hn : n ≤ l.length) : BytesL w base (.slice a n c) (l.take n) := by
  obtain ⟨a', c', e, h1, h2, h3⟩ := h
  obtain ⟨rfl, rfl, rfl⟩ : a = a' ∧ m = l.length ∧ c = c' := by simpa using e
  have hl : (l.take n).length = n := by rw [List.length_take]; omega
  refine ⟨a, c, by rw [hl], by omega, h2, fun i hi => ?_⟩
  obtain ⟨ab, ao, ea, hlt, hc⟩ := h3 i (by omega)
  exact ⟨ab, ao, ea, hlt, by rw [hc]; simp⟩
theorem BytesL.drop {w : World} {base : Nat} {a a2 : Option Addr} {m c : Nat} {l : List UInt8} (h : BytesL w base (.slice a m c) l) (n : Nat) (hn : n ≤ l.length) (ha : n < l.length → ∀ ab ao, a = some ⟨ab, ao, none⟩ → a2 = some ⟨ab, ao + n, none⟩) : BytesL w base (.slice a2 (l.length - n) (c - n)) (l.drop n) := by
  obtain ⟨a', c', e, h1, h2, h3⟩ := h
  obtain ⟨rfl, rfl, rfl⟩ : a = a' ∧ m = l.length ∧ c = c' := by simpa using e
  have hl : (l.drop n).length = l.length - n := by rw [List.length_drop]
  refine ⟨a2, c - n, by rw [hl], by omega, by omega, fun i hi => ?_⟩
  obtain ⟨ab, ao, ea, hlt, hc⟩ := h3 (n + i) (by omega)
  refine ⟨ab, ao + n, ha (by omega) ab ao ea, hlt, ?_⟩
  rw [Nat.add_assoc, hc]; simp
/-- Block b is a reader; what is left is s, none if something did not fit. -/
def ReSt (base b : Nat) (s : Option (List UInt8)) (w : World) : Prop := base ≤ b ∧ match s with
  | some l => l.length ≤ 1048576 ∧ ∃ v, PAt w b [v, .bool false] ∧ BytesL w base v l
  | none => ∃ a n c, PAt w b [.slice a n c, .bool true]
theorem ReSt.lt {base b : Nat} {s : Option (List UInt8)} {w : World} (h : ReSt base b s w) : base ≤ b ∧ b < w.heap.size := by
  obtain ⟨h0, h1⟩ := h
  cases s with
  | some l => obtain ⟨_, v, h2, _⟩ := h1; exact ⟨h0, h2.lt⟩
  | none => obtain ⟨a, n, c, h2⟩ := h1; exact ⟨h0, h2.lt⟩
theorem ReSt.stable {base b : Nat} {s : Option (List UInt8)} {w w' : World} (h : ReSt base b s w) (hq : Quiet base b w w') : ReSt base b s w' := by
  obtain ⟨h0, h1⟩ := h
  refine ⟨h0, ?_⟩
  cases s with
  | some l => obtain ⟨hl, v, h2, h3⟩ := h1; exact ⟨hl, v, h2.of_block hq.blk, h3.below hq.below⟩
  | none => obtain ⟨a, n, c, h2⟩ := h1; exact ⟨a, n, c, h2.of_block hq.blk⟩
/-- What reader.take leaves. -/
def Took (base b : Nat) (q : Option (List UInt8) × List UInt8) (w : World) (e : Ending) (w' : World) : Prop := ∃ v, e = .returned v ∧ BytesL w' base v q.2 ∧ ReSt base b q.1 w' ∧ ApartR b w w'
theorem apartR_set (b o : Nat) (w : World) (u : Value) : ApartR b w (w.setCell ⟨b, o, none⟩ u) := apartR_setCells b [u] o w
set_option maxHeartbeats 16000000 in
set_option maxRecDepth 100000 in
theorem take_any (base b : Nat) (s : Option (List UInt8)) (n : Nat) (w : World) (h : ReSt base b s w) (hn : n ≤ 4294967296) :
    Calls Tryz.prog 123 #[.pointer (some ⟨b, 0, none⟩), .int .i64 n] w (Took base b (rkTake s n) w) := by
  obtain ⟨hb, h1⟩ := h
  have n0 : (n : Int) ≤ 4294967296 := by omega
  cases s with
  | none =>
    obtain ⟨a, m, c, h2⟩ := h1
    have c0 := h2.1.at 0 rfl
    have c1 := h2.1.at 1 rfl
    have f1 := h2.1.2.2 1 (by simp)
    have HF : Hid (Took base b (rkTake none n) w (.returned (.slice none 0 0)) (w.setCell ⟨b, 1, none⟩ (.bool true))) :=
      ⟨_, rfl, BytesL.nil _ _, ⟨hb, a, m, c, by have := h2.set 1 (by simp) (.bool true); exact this⟩, apartR_set _ _ _ _⟩
    clear h2
    go_enter Tryz.func123, Tryz.ntmps123
    go_wp2_with fail
    go_ret
    exact HF.out
  | some l =>
    obtain ⟨hl, v, h2, h3⟩ := h1
    obtain ⟨a, c, rfl⟩ := h3.slice
    have c0 := h2.1.at 0 rfl
    have c1 := h2.1.at 1 rfl
    have f1 := h2.1.2.2 1 (by simp)
    have f0 := h2.1.2.2 0 (by simp)
    have l0 : (l.length : Int) ≤ 1048576 := by omega
    by_cases hnl : n ≤ l.length
    · have i0 : (n : Int) ≤ (l.length : Int) := by omega
      have hcap : l.length ≤ c ∧ c ≤ 9223372036854775807 := by
        obtain ⟨a', c', e, q1, q2, _⟩ := h3
        obtain ⟨_, rfl⟩ : a = a' ∧ c = c' := by simpa using e
        exact ⟨q1, q2⟩
      have i1 : (n : Int) ≤ (c : Int) := by omega
      have i2 : (l.length : Int) ≤ (c : Int) := by omega
      have HF : Hid (∀ a2, (n < l.length → ∀ ab ao, a = some ⟨ab, ao, none⟩ → a2 = some ⟨ab, ao + n, none⟩) → Took base b (rkTake (some l) n) w (.returned (.slice a n c)) (w.setCell ⟨b, 0, none⟩ (.slice a2 (l.length - n) (c - n)))) := fun a2 ha2 => by
        rw [rkTake_yes _ _ hnl]
        have hap := apartR_set b 0 w (.slice a2 (l.length - n) (c - n))
        refine ⟨_, rfl, (h3.take n hnl).below (hap.below hb), ⟨hb, by rw [List.length_drop]; omega, .slice a2 (l.length - n) (c - n), by have := h2.set 0 (by simp) (.slice a2 (l.length - n) (c - n)); exact this, (h3.drop n hnl ha2).below (hap.below hb)⟩, hap⟩
      clear h2 h3 hcap
      go_enter Tryz.func123, Tryz.ntmps123
      go_wp2_with fail
      · obtain rfl : c = n := by assumption
        go_ret
        have := HF.out a (fun h => absurd h (by omega))
        rw [Nat.sub_self] at this
        exact this
      · go_ret
        exact HF.out _ (fun _ ab ao e => by rw [e]; simp [Addr.add_mid])
    · have i0 : (l.length : Int) < (n : Int) := by omega
      have HF : Hid (Took base b (rkTake (some l) n) w (.returned (.slice none 0 0)) (w.setCell ⟨b, 1, none⟩ (.bool true))) := by
        rw [rkTake_no _ _ hnl]
        exact ⟨_, rfl, BytesL.nil _ _, ⟨hb, a, l.length, c, by have := h2.set 1 (by simp) (.bool true); exact this⟩, apartR_set _ _ _ _⟩
      clear h2 h3
      go_enter Tryz.func123, Tryz.ntmps123
      go_wp2_with fail
      go_ret
      exact HF.out
theorem ApartR.trans {b : Nat} {x y z : World} (h : ApartR b x y) (g : ApartR b y z) : ApartR b x z := ⟨g.1.trans h.1, g.2.1.trans h.2.1, g.2.2.1.trans h.2.2.1, g.2.2.2.1.trans h.2.2.2.1, fun k hk => (g.2.2.2.2 k hk).trans (h.2.2.2.2 k hk)⟩
/-- Behind what is taken, and the store of what it is. -/
theorem ReSt.wrote {base b p o : Nat} {s : Option (List UInt8)} {cs : List Value} {w w1 : World} {u : Value} (h : ReSt base b s w1) (ha : ApartR b w w1) (hp : PAt w p cs) (hbase : base ≤ p) (hpb : p ≠ b) (ho : o < cs.length) :
    ReSt base b s (w1.setCell ⟨p, o, none⟩ u) ∧ Fr base b p w (w1.setCell ⟨p, o, none⟩ u) ∧ PAt (w1.setCell ⟨p, o, none⟩ u) p (putL cs o [u]) := by
  have hp1 : PAt w1 p cs := hp.of_block (ha.2.2.2.2 p hpb)
  refine ⟨h.stable (hp1.quiet hbase hpb o u), ⟨(ha.below h.1).setCell hbase _, fun k c t f _ _ hk => ?_⟩, by rw [← putL_one ho]; exact hp1.set o ho u⟩
  rw [Below.heap_setCell _ _ _ _ (fun e => hk.2 e)]
  exact ha.2.2.2.2 k hk.1
theorem rkTake_len (s : Option (List UInt8)) (n : Nat) : (rkTake s n).2.length ≤ n := by
  unfold rkTake
  cases s with
  | none => simp
  | some l => simp only; split <;> simp; omega
theorem ReSt.take_len {base b : Nat} {t : Option (List UInt8)} {w : World} (h : ReSt base b t w) (n : Nat) : (rkTake t n).2.length ≤ 1048576 := by
  cases t with
  | none => simp [rkTake]
  | some l =>
    have := h.2.1
    unfold rkTake
    simp only
    split
    · rw [List.length_take]; omega
    · simp
theorem run_bytes_none (w : World) (c : Nat) : (convert 22 9 (.slice none 0 c)).run Tryz.prog w = .ok (.string ⟨#[]⟩) w := by
  simp [convert, run_underlying Tryz.underlying22, run_underlying Tryz.underlying9, run_underlying Tryz.underlying5, Conv.bytesToString, go_sem]
  rfl
theorem pow8 : (256 : Nat) ^ 8 = 18446744073709551616 := by decide
theorem pow4 : (256 : Nat) ^ 4 = 4294967296 := by decide
theorem num_take_lt' (s : Option (List UInt8)) (n m : Nat) (hn : n ≤ m) : num (rkTake s n).2 < 256 ^ m := by
  have h1 := num_lt (rkTake s n).2
  have h2 := rkTake_len s n
  exact Nat.lt_of_lt_of_le h1 (Nat.pow_le_pow_right (by decide) (by omega))
def ReK (K : WkM rk) : Prop := K.St = ReSt K.base K.b
set_option maxHeartbeats 16000000 in
set_option maxRecDepth 100000 in
theorem re_int (K : WkM rk) (hK : ReK K) : Walks K 120 K.ptr [] intE rk.int := by
  intro s x w p o cs es av h1 h2 h3 h4 h5 h6 h7 h8
  obtain ⟨base, b, ty, St⟩ := K
  unfold ReK at hK
  simp only at hK
  subst hK
  obtain ⟨rfl, _⟩ := h6
  have HS := Lib.hid h1
  have HP := Lib.hid h4
  have hle := h5.le (by simp)
  have HO : Hid (o < cs.length) := by unfold Hid; simp at hle; omega
  have cp : w.cell? ⟨p, o, none⟩ = some (.int .i64 x) := h4.1.at o (h5 0 (by simp))
  clear h1 h4 h5 h7 h8 hle cp
  unfold WkM.ptr
  go_enter Tryz.func120, Tryz.ntmps120
  go_wp2_with fail
  refine (take_any base b s 8 w HS.out (by omega)).mono ?_
  rintro e w1 ⟨v, rfl, hbl, hst, hap⟩
  have hn := num_take_lt' s 8 8 (Nat.le_refl _)
  rw [pow8] at hn
  have hw := wrap_i64of _ hn
  have HW := Lib.hid (ReSt.wrote (u := .int .i64 (i64of (num (rkTake s 8).2))) hst hap HP.out h2 h3 HO.out)
  have HI := Lib.hid (i64of_I64 hn)
  have HBl := Lib.hid hbl
  have HL := Lib.hid (rkTake_len s 8)
  have hp1 : PAt w1 p cs := HP.out.of_block (hap.2.2.2.2 p h3)
  obtain ⟨cv, hcv⟩ : ∃ cv, w1.cell? ⟨p, o, none⟩ = some cv := ⟨cs[o]'HO.out, hp1.1.at o (List.getElem?_eq_getElem HO.out)⟩
  have hf := hp1.1.2.2 o HO.out
  obtain ⟨va, vc, rfl⟩ := hbl.slice
  clear hbl hst hap hp1 hn
  go_wp2_with fail
  refine (get_any base _ _ w1 HBl.out HL.out).mono ?_
  rintro e w2 ⟨rfl, rfl⟩
  go_wp2_with fail
  go_end0
  exact ⟨rfl, HW.out.1, HW.out.2.1, _, HW.out.2.2, rfl, HI.out⟩
set_option maxHeartbeats 16000000 in
set_option maxRecDepth 100000 in
theorem re_word (K : WkM rk) (hK : ReK K) : Walks K 122 K.ptr [] wordE rk.word := by
  intro s x w p o cs es av h1 h2 h3 h4 h5 h6 h7 h8
  obtain ⟨base, b, ty, St⟩ := K
  unfold ReK at hK
  simp only at hK
  subst hK
  obtain ⟨rfl, _⟩ := h6
  have HS := Lib.hid h1
  have HP := Lib.hid h4
  have hle := h5.le (by simp)
  have HO : Hid (o < cs.length) := by unfold Hid; simp at hle; omega
  clear h1 h4 h5 h7 h8 hle
  unfold WkM.ptr
  go_enter Tryz.func122, Tryz.ntmps122
  go_wp2_with fail
  refine (take_any base b s 8 w HS.out (by omega)).mono ?_
  rintro e w1 ⟨v, rfl, hbl, hst, hap⟩
  have hn := num_take_lt' s 8 8 (Nat.le_refl _)
  rw [pow8] at hn
  have HW := Lib.hid (ReSt.wrote (u := .int .u64 (num (rkTake s 8).2 : Nat)) hst hap HP.out h2 h3 HO.out)
  have HI := Lib.hid hn
  have HBl := Lib.hid hbl
  have HL := Lib.hid (rkTake_len s 8)
  have hp1 : PAt w1 p cs := HP.out.of_block (hap.2.2.2.2 p h3)
  obtain ⟨cv, hcv⟩ : ∃ cv, w1.cell? ⟨p, o, none⟩ = some cv := ⟨cs[o]'HO.out, hp1.1.at o (List.getElem?_eq_getElem HO.out)⟩
  have hf := hp1.1.2.2 o HO.out
  obtain ⟨va, vc, rfl⟩ := hbl.slice
  clear hbl hst hap hp1 hn
  go_wp2_with fail
  refine (get_any base _ _ w1 HBl.out HL.out).mono ?_
  rintro e w2 ⟨rfl, rfl⟩
  go_wp2_with fail
  go_end0
  exact ⟨rfl, HW.out.1, HW.out.2.1, _, HW.out.2.2, rfl, HI.out⟩
set_option maxHeartbeats 16000000 in
set_option maxRecDepth 100000 in
theorem re_text (K : WkM rk) (hK : ReK K) : Walks K 121 K.ptr [] strE rk.text := by
  intro s x w p o cs es av h1 h2 h3 h4 h5 h6 h7 h8
  obtain ⟨base, b, ty, St⟩ := K
  unfold ReK at hK
  simp only at hK
  subst hK
  obtain ⟨rfl, _⟩ := h6
  have HS := Lib.hid h1
  have HP := Lib.hid h4
  have hle := h5.le (by simp)
  have HO : Hid (o < cs.length) := by unfold Hid; simp at hle; omega
  clear h1 h4 h5 h7 h8 hle
  unfold WkM.ptr
  go_enter Tryz.func121, Tryz.ntmps121
  go_wp2_with fail
  refine (take_any base b s 4 w HS.out (by omega)).mono ?_
  rintro e w1 ⟨v, rfl, hbl, hst, hap⟩
  have hn := num_take_lt' s 4 4 (Nat.le_refl _)
  rw [pow4] at hn
  have HBl := Lib.hid hbl
  have HL := Lib.hid (rkTake_len s 4)
  have HS1 := Lib.hid hst
  have HA1 := Lib.hid hap
  obtain ⟨va, vc, rfl⟩ := hbl.slice
  clear hbl hst hap HS
  go_wp2_with fail
  refine (get_any base _ _ w1 HBl.out (by have := HL.out; omega)).mono ?_
  rintro e w2 ⟨rfl, rfl⟩
  have HD : Hid (∀ r : Option (List UInt8) × List UInt8, r = rkTake (rkTake s 4).1 (num (rkTake s 4).2) → rk.text s x = (r.1, ⟨r.2.toArray⟩)) := fun r hr => by rw [hr]; rfl
  obtain ⟨N, hN⟩ : ∃ N, N = num (rkTake s 4).2 := ⟨_, rfl⟩
  rw [← hN] at hn HD ⊢
  have n0 : (N : Int) < 4294967296 := by omega
  have HNn := Lib.hid hN
  clear hN HBl HL
  go_wp2_with fail
  refine (take_any base b (rkTake s 4).1 N w1 HS1.out (by omega)).mono ?_
  rintro e w3 ⟨u, rfl, hbl, hst, hap⟩
  have hsz := HS1.out.take_len N
  have HD2 := Lib.hid (HD.out _ rfl)
  generalize rkTake (rkTake s 4).1 N = q at hbl hst hsz HD2
  have HW := Lib.hid (ReSt.wrote (u := .string ⟨q.2.toArray⟩) hst (HA1.out.trans hap) HP.out h2 h3 HO.out)
  have hp1 : PAt w3 p cs := HP.out.of_block ((HA1.out.trans hap).2.2.2.2 p h3)
  obtain ⟨cv, hcv⟩ : ∃ cv, w3.cell? ⟨p, o, none⟩ = some cv := ⟨cs[o]'HO.out, hp1.1.at o (List.getElem?_eq_getElem HO.out)⟩
  have hf := hp1.1.2.2 o HO.out
  have hcv1 : (convert 22 9 u).run Tryz.prog w3 = .ok (.string ⟨q.2.toArray⟩) w3 := by
    obtain ⟨a, c, e, q1, q2, q3⟩ := hbl
    subst e
    rcases Nat.eq_zero_or_pos q.2.length with h0 | h0
    · have e0 : q.2 = [] := List.eq_nil_of_length_eq_zero h0
      rw [e0]
      cases a with
      | none => exact run_bytes_none w3 c
      | some a => exact run_convert_bytes_back (P := Tryz.prog) w3 22 9 5 a c [] Tryz.underlying22 Tryz.underlying5 Tryz.underlying9 (fun j hj => by simp at hj)
    · obtain ⟨ab, ao, rfl, _, _⟩ := q3 0 h0
      refine run_convert_bytes_back (P := Tryz.prog) w3 22 9 5 ⟨ab, ao, none⟩ c q.2 Tryz.underlying22 Tryz.underlying5 Tryz.underlying9 (fun j hj => ?_)
      obtain ⟨ab', ao', e', _, hc⟩ := q3 j hj
      obtain ⟨rfl, rfl⟩ : ab = ab' ∧ ao = ao' := by simpa using e'
      rw [Addr.add_mid]; exact hc
  have HI : Hid (ByteArray.size ⟨q.2.toArray⟩ ≤ 10000000) := by
    unfold Hid
    rw [← size_list]; simp; omega
  obtain ⟨va', vc', rfl⟩ := hbl.slice
  clear hbl hst hap hp1 hsz HD HNn
  go_wp2_with fail
  go_end0
  rw [HD2.out]
  exact ⟨rfl, HW.out.1, HW.out.2.1, _, HW.out.2.2, rfl, HI.out⟩
theorem ReSt.bad {base b : Nat} {l : List UInt8} {w : World} (h : ReSt base b (some l) w) : ReSt base b none (w.setCell ⟨b, 1, none⟩ (.bool true)) := by
  obtain ⟨h0, _, v, h2, h3⟩ := h
  obtain ⟨a, c, rfl⟩ := h3.slice
  exact ⟨h0, a, l.length, c, by have := h2.set 1 (by simp) (.bool true); exact this⟩
theorem ReSt.good {base b : Nat} {l : List UInt8} {w : World} (h : ReSt base b (some l) w) : ReSt base b (some l) (w.setCell ⟨b, 1, none⟩ (.bool false)) := by
  obtain ⟨h0, hl, v, h2, h3⟩ := h
  exact ⟨h0, hl, v, by have := h2.set 1 (by simp) (.bool false); exact this, h3.below ((apartR_set b 1 w _).below h0)⟩
theorem ReSt.none_ {base b : Nat} {w : World} (h : ReSt base b none w) : ReSt base b none (w.setCell ⟨b, 1, none⟩ (.bool true)) := by
  obtain ⟨h0, a, n, c, h2⟩ := h
  exact ⟨h0, a, n, c, by have := h2.set 1 (by simp) (.bool true); exact this⟩
set_option maxHeartbeats 16000000 in
set_option maxRecDepth 100000 in
theorem re_bool (K : WkM rk) (hK : ReK K) : Walks K 118 K.ptr [] boolE rk.bool := by
  intro s x w p o cs es av h1 h2 h3 h4 h5 h6 h7 h8
  obtain ⟨base, b, ty, St⟩ := K
  unfold ReK at hK
  simp only at hK
  subst hK
  obtain rfl := h6
  have HS := Lib.hid h1
  have HP := Lib.hid h4
  have hle := h5.le (by simp)
  have HO : Hid (o < cs.length) := by unfold Hid; simp at hle; omega
  clear h1 h4 h5 h7 h8 hle
  unfold WkM.ptr
  go_enter Tryz.func118, Tryz.ntmps118
  go_wp2_with fail
  refine (take_any base b s 1 w HS.out (by omega)).mono ?_
  rintro e w1 ⟨v, rfl, hbl, hst, hap⟩
  have HBl := Lib.hid hbl
  have HL := Lib.hid (rkTake_len s 1)
  have HS1 := Lib.hid hst
  have HA1 := Lib.hid hap
  obtain ⟨va, vc, rfl⟩ := hbl.slice
  clear hbl hst hap HS
  go_wp2_with fail
  refine (get_any base _ _ w1 HBl.out (by have := HL.out; omega)).mono ?_
  rintro e w2 ⟨rfl, rfl⟩
  have HD : Hid (∀ r : Option (List UInt8) × List UInt8, r = rkTake s 1 → rk.bool s x = (if 1 < num r.2 then none else r.1, num r.2 == 1)) := fun r hr => by rw [hr]; rfl
  have HNb : Hid (∀ r : Option (List UInt8) × List UInt8, r = rkTake s 1 → r.1 = none → num r.2 = 0) := fun r hr h0 => by
    rw [hr] at h0 ⊢
    unfold rkTake at h0 ⊢
    cases s with
    | none => rfl
    | some l => simp only at h0 ⊢; split at h0 <;> rename_i h1; · cases h0
                · rw [if_neg h1]; rfl
  have HD2 := Lib.hid (HD.out _ rfl)
  have HN2 := Lib.hid (HNb.out _ rfl)
  clear HD HNb HL HBl
  obtain ⟨q, hq⟩ : ∃ q, q = rkTake s 1 := ⟨_, rfl⟩
  rw [← hq] at HD2 HN2 HS1 ⊢
  clear hq
  obtain ⟨q1, q2⟩ := q
  simp only at HD2 HN2 HS1 ⊢
  obtain ⟨N, hN⟩ : ∃ N, N = num q2 := ⟨_, rfl⟩
  rw [← hN] at HD2 HN2 ⊢
  clear hN
  cases q1 with
  | none =>
    obtain rfl : N = 0 := HN2.out rfl
    have HW := Lib.hid (ReSt.wrote (u := .bool false) HS1.out.none_ (HA1.out.trans (apartR_set b 1 w1 (.bool true))) HP.out h2 h3 HO.out)
    obtain ⟨_, ba, bn, bc, hp0⟩ := HS1.out
    have c1 := hp0.1.at 1 rfl
    have f1 := hp0.1.2.2 1 (by simp)
    have hp1 : PAt (w1.setCell ⟨b, 1, none⟩ (.bool true)) p cs := HP.out.of_block ((HA1.out.trans (apartR_set b 1 w1 (.bool true))).2.2.2.2 p h3)
    obtain ⟨cv, hcv⟩ : ∃ cv, (w1.setCell ⟨b, 1, none⟩ (.bool true)).cell? ⟨p, o, none⟩ = some cv := ⟨cs[o]'HO.out, hp1.1.at o (List.getElem?_eq_getElem HO.out)⟩
    have hf := hp1.1.2.2 o HO.out
    clear hp0 hp1
    go_wp2_with fail
    go_end0
    rw [HD2.out]
    exact ⟨rfl, HW.out.1, HW.out.2.1, _, HW.out.2.2, rfl⟩
  | some l =>
    obtain ⟨_, _, bv, hp0, hby⟩ := HS1.out
    obtain ⟨ba, bc, rfl⟩ := hby.slice
    have c1 := hp0.1.at 1 rfl
    have f1 := hp0.1.2.2 1 (by simp)
    clear hp0 hby
    by_cases hN1 : 1 < N
    · have i1 : (1 : Int) < (N : Int) := by omega
      have i2 : ((N : Int) == 1) = false := by rw [beq_eq_false_iff_ne]; omega
      have HW := Lib.hid (ReSt.wrote (u := .bool false) HS1.out.bad (HA1.out.trans (apartR_set b 1 w1 (.bool true))) HP.out h2 h3 HO.out)
      have hp1 : PAt (w1.setCell ⟨b, 1, none⟩ (.bool true)) p cs := HP.out.of_block ((HA1.out.trans (apartR_set b 1 w1 (.bool true))).2.2.2.2 p h3)
      obtain ⟨cv, hcv⟩ : ∃ cv, (w1.setCell ⟨b, 1, none⟩ (.bool true)).cell? ⟨p, o, none⟩ = some cv := ⟨cs[o]'HO.out, hp1.1.at o (List.getElem?_eq_getElem HO.out)⟩
      have hf := hp1.1.2.2 o HO.out
      have HD3 : Hid (rk.bool s x = (none, false)) := by unfold Hid; rw [HD2.out, if_pos hN1]; congr 1; rw [beq_eq_false_iff_ne]; omega
      clear hp1 hN1
      go_wp2_with fail
      go_end0
      rw [HD3.out]
      exact ⟨rfl, HW.out.1, HW.out.2.1, _, HW.out.2.2, rfl⟩
    · have hp1 : PAt (w1.setCell ⟨b, 1, none⟩ (.bool false)) p cs := HP.out.of_block ((HA1.out.trans (apartR_set b 1 w1 (.bool false))).2.2.2.2 p h3)
      obtain ⟨cv, hcv⟩ : ∃ cv, (w1.setCell ⟨b, 1, none⟩ (.bool false)).cell? ⟨p, o, none⟩ = some cv := ⟨cs[o]'HO.out, hp1.1.at o (List.getElem?_eq_getElem HO.out)⟩
      have hf := hp1.1.2.2 o HO.out
      have HW := fun u : Bool => Lib.hid (ReSt.wrote (u := .bool u) HS1.out.good (HA1.out.trans (apartR_set b 1 w1 (.bool false))) HP.out h2 h3 HO.out)
      have HD3 : Hid (rk.bool s x = (some l, N == 1)) := by unfold Hid; rw [HD2.out, if_neg hN1]
      have HWf := HW false
      have HWt := HW true
      clear HW hp1
      obtain rfl | rfl : N = 0 ∨ N = 1 := by omega
      · clear hN1
        go_wp2_with fail
        go_end0
        rw [HD3.out]
        exact ⟨rfl, HWf.out.1, HWf.out.2.1, _, HWf.out.2.2, rfl⟩
      · clear hN1
        go_wp2_with fail
        go_end0
        rw [HD3.out]
        exact ⟨rfl, HWt.out.1, HWt.out.2.1, _, HWt.out.2.2, rfl⟩
end Go.Proofs.YtpknalpdcfjffaaGreat
/- The reader's count; the reader is a walker. -/
namespace Go.Proofs.YtpknalpdcfjffaaGreat
open Go Go.RowKit

theorem ApartR.fr {base b : Nat} {w w' : World} (h : ApartR b w w') (hb : base ≤ b) : Fr base b b w w' := ⟨h.below hb, fun k _ _ _ _ _ hk => h.2.2.2.2 k hk.1⟩
set_option maxHeartbeats 16000000 in
set_option maxRecDepth 100000 in
theorem re_count (K : WkM rk) (hK : ReK K) (s : Option (List UInt8)) (n : Nat) (w : World) (h1 : K.St s w) :
    Calls Tryz.prog 119 #[K.ptr, .int .i64 n] w fun e w' => e = .returned (.int .i64 (rk.count s n).2) ∧ (rk.count s n).2 ≤ 1000000 ∧ K.St (rk.count s n).1 w' ∧ Fr K.base K.b K.b w w' := by
  obtain ⟨base, b, ty, St⟩ := K
  unfold ReK at hK
  simp only at hK
  subst hK
  have HS := Lib.hid h1
  have hbb : base ≤ b := HS.out.1
  clear h1
  unfold WkM.ptr
  go_enter Tryz.func119, Tryz.ntmps119
  go_wp2_with fail
  refine (take_any base b s 4 w HS.out (by omega)).mono ?_
  rintro e w1 ⟨v, rfl, hbl, hst, hap⟩
  have hn := num_take_lt' s 4 4 (Nat.le_refl _)
  rw [pow4] at hn
  have HBl := Lib.hid hbl
  have HL := Lib.hid (rkTake_len s 4)
  have HS1 := Lib.hid hst
  have HA1 := Lib.hid hap
  obtain ⟨va, vc, rfl⟩ := hbl.slice
  clear hbl hst hap HS
  go_wp2_with fail
  refine (get_any base _ _ w1 HBl.out (by have := HL.out; omega)).mono ?_
  rintro e w2 ⟨rfl, rfl⟩
  have HD : Hid (∀ r : Option (List UInt8) × List UInt8, r = rkTake s 4 → rk.count s n = rkCount r) := fun r hr => by rw [hr]; rfl
  have HD2 := Lib.hid (HD.out _ rfl)
  clear HD HL HBl
  obtain ⟨q, hq⟩ : ∃ q, q = rkTake s 4 := ⟨_, rfl⟩
  rw [← hq] at HD2 HS1 hn ⊢
  clear hq
  obtain ⟨q1, q2⟩ := q
  simp only at HD2 HS1 hn ⊢
  unfold rkCount at HD2
  simp only at HD2
  obtain ⟨N, hN⟩ : ∃ N, N = num q2 := ⟨_, rfl⟩
  rw [← hN] at HD2 hn ⊢
  clear hN
  have n0 : (N : Int) < 4294967296 := by omega
  cases q1 with
  | none =>
    simp only at HD2
    have HW := Lib.hid (And.intro HS1.out.none_ ((HA1.out.trans (apartR_set b 1 w1 (.bool true))).fr hbb))
    obtain ⟨_, ba, bn, bc, hp0⟩ := HS1.out
    have c1 := hp0.1.at 1 rfl
    have f1 := hp0.1.2.2 1 (by simp)
    clear hp0
    go_wp2_with fail
    go_ret
    rw [HD2.out]
    exact ⟨rfl, by decide, HW.out.1, HW.out.2⟩
  | some l =>
    simp only at HD2
    have HW := Lib.hid (And.intro HS1.out.bad ((HA1.out.trans (apartR_set b 1 w1 (.bool true))).fr hbb))
    have HW0 := Lib.hid (And.intro HS1.out (HA1.out.fr hbb))
    obtain ⟨_, hl, bv, hp0, hby⟩ := HS1.out
    obtain ⟨ba, bc, rfl⟩ := hby.slice
    have c0 := hp0.1.at 0 rfl
    have c1 := hp0.1.at 1 rfl
    have f1 := hp0.1.2.2 1 (by simp)
    have l0 : (l.length : Int) ≤ 1048576 := by omega
    have hq4 : (l.length : Int) / 4 ≤ 262144 := by omega
    clear hp0 hby
    by_cases hle : N ≤ l.length / 4
    · have HD3 : Hid (rk.count s n = (some l, N)) := by unfold Hid; rw [HD2.out, if_pos hle]
      have i1 : ¬ (l.length : Int) / 4 < (N : Int) := by omega
      have hb1 : decide ((l.length : Int) / 4 < (N : Int)) = false := by simpa using i1
      have HNle : Hid (N ≤ 1000000) := by unfold Hid; omega
      clear hle i1
      go_wp2_with fail
      go_ret
      rw [HD3.out]
      exact ⟨rfl, HNle.out, HW0.out.1, HW0.out.2⟩
    · have HD3 : Hid (rk.count s n = (none, 0)) := by unfold Hid; rw [HD2.out, if_neg hle]
      have i1 : (l.length : Int) / 4 < (N : Int) := by omega
      clear hle
      go_wp2_with fail
      go_ret
      rw [HD3.out]
      exact ⟨rfl, by decide, HW.out.1, HW.out.2⟩
/-- The reader is a walker. -/
theorem re_ok (base b : Nat) : WkM.OK (k := rk) ⟨base, b, 90, ReSt base b⟩ := by
  refine ⟨rk_mono, fun h => h.lt, fun h hq => h.stable hq, ?_, ?_, ?_, ?_, ?_⟩
  · exact ⟨_, ⟨fun w => by kernel_rfl, ⟨fun w => by kernel_rfl, _, Tryz.func120, by kernel_rfl, by kernel_rfl⟩⟩, re_int _ rfl⟩
  · exact ⟨_, ⟨fun w => by kernel_rfl, ⟨fun w => by kernel_rfl, _, Tryz.func122, by kernel_rfl, by kernel_rfl⟩⟩, re_word _ rfl⟩
  · exact ⟨_, ⟨fun w => by kernel_rfl, ⟨fun w => by kernel_rfl, _, Tryz.func118, by kernel_rfl, by kernel_rfl⟩⟩, re_bool _ rfl⟩
  · exact ⟨_, ⟨fun w => by kernel_rfl, ⟨fun w => by kernel_rfl, _, Tryz.func121, by kernel_rfl, by kernel_rfl⟩⟩, re_text _ rfl⟩
  · exact ⟨_, ⟨fun w => by kernel_rfl, ⟨fun w => by kernel_rfl, _, Tryz.func119, by kernel_rfl, by kernel_rfl⟩⟩, fun s n w h1 _ _ => re_count ⟨base, b, 90, ReSt base b⟩ rfl s n w h1⟩
end Go.Proofs.YtpknalpdcfjffaaGreat
/- The writer of package store: its methods, and that it is a walker. Printed by gen_writer.py. -/
namespace Go.Proofs.YtpknalpdcfjffaaGreat
open Go Go.RowKit

/-- Bytes below block ob stand. -/
def ByOld (ob : Nat) (w0 w : World) : Prop := ∀ (k : Nat) (c : Array Value) (f : Nat × Nat), k < ob → w0.heap[k]? = some (Obj.cells c 5 f) → w.heap[k]? = w0.heap[k]?
/-- Block b is a writer that has written these bytes, into blocks from ob on; the bytes of world w0 below ob stand. -/
def WrSt (base b ob : Nat) (w0 : World) (s : List UInt8) (w : World) : Prop := base ≤ b ∧ base ≤ ob ∧ ob ≤ w.heap.size ∧ ByOld ob w0 w ∧ s.length ≤ 10000000 ∧ ∃ bv, PAt w b [bv] ∧ OwnB w ob bv s
theorem OwnB.bytes {w w' : World} {base : Nat} {v : Value} {l : List UInt8} (h : OwnB w base v l) (hb : ∀ (k : Nat) (c : Array Value) (f : Nat × Nat), w.heap[k]? = some (Obj.cells c 5 f) → w'.heap[k]? = w.heap[k]?) : OwnB w' base v l :=
  ownsRow_block h fun g hg => by
    obtain ⟨_, c, f, e⟩ := ownsRow_typed h g hg
    exact hb g c f e
theorem OwnB.slice {w : World} {base : Nat} {v : Value} {l : List UInt8} (h : OwnB w base v l) : ∃ a c, v = .slice a l.length c := by
  rcases h.2 with ⟨e, h0⟩ | ⟨g, cap, cur, e, _⟩
  · exact ⟨none, 0, by rw [e, h0]⟩
  · exact ⟨_, _, e⟩
theorem OwnB.form {w : World} {base : Nat} {v : Value} {l : List UInt8} (h : OwnB w base v l) : ∃ a n c, v = .slice a n c := by
  obtain ⟨a, c, e⟩ := h.slice
  exact ⟨a, _, c, e⟩
theorem PAt.nb {w w' : World} {p : Nat} {cs : List Value} (h : PAt w p cs) (hn : NB w w') : PAt w' p cs := by
  obtain ⟨c, t, f, h2, h3⟩ := h.2
  exact h.of_block (hn p c t f h2 h3)
theorem PAt.ne_byte {w : World} {p : Nat} {cs : List Value} (h : PAt w p cs) {k : Nat} {c : Array Value} {f : Nat × Nat} (hk : w.heap[k]? = some (Obj.cells c 5 f)) : k ≠ p := by
  obtain ⟨_, c', t, f', h2, h3⟩ := h
  intro e
  subst e
  rw [h2] at hk
  injection hk with hk
  injection hk with _ hk _
  exact h3 hk
theorem WrSt.stable {base b ob : Nat} {w0 : World} {s : List UInt8} {w w' : World} (h : WrSt base b ob w0 s w) (hq : Quiet base b w w') : WrSt base b ob w0 s w' := by
  obtain ⟨h0, h3, h4, h5, hl, bv, h1, h2⟩ := h
  refine ⟨h0, h3, Nat.le_trans h4 hq.below.size, fun k c f hk e => ?_, hl, bv, h1.of_block hq.blk, h2.bytes hq.bytes⟩
  have e1 := h5 k c f hk e
  rw [← e1]
  exact hq.bytes k c f (by rw [e1]; exact e)
theorem putL_same {cs es : List Value} {o : Nat} (h : At cs o es) (h0 : 0 < es.length) : putL cs o es = cs := by
  apply List.ext_getElem?
  intro i
  have hl := h.le h0
  rw [putL_get hl]
  by_cases h1 : o ≤ i ∧ i < o + es.length
  · rw [if_pos h1]
    have := h (i - o) (by omega)
    rw [show o + (i - o) = i by omega] at this
    exact this.symm
  · rw [if_neg h1]
/-- Behind an append to the writer's bytes and the store of what comes of it. -/
theorem WrSt.wrote {base b ob p : Nat} {w0 : World} {s l : List UInt8} {bv v : Value} {cs : List Value} {w w2 : World} (hb : base ≤ b) (hbo : base ≤ ob) (hos : ob ≤ w.heap.size) (hJ : ByOld ob w0 w) (hl : (s ++ l).length ≤ 10000000) (h1 : PAt w b [bv]) (hP : PAt w p cs) (hpb : p ≠ b) (hB : Below ob w w2) (hN : NB w w2) (hO : OwnB w2 ob v (s ++ l)) :
    WrSt base b ob w0 (s ++ l) (w2.setCell ⟨b, 0, none⟩ v) ∧ Fr base b p w (w2.setCell ⟨b, 0, none⟩ v) ∧ PAt (w2.setCell ⟨b, 0, none⟩ v) p cs := by
  have h2 := h1.nb hN
  refine ⟨⟨hb, hbo, by have := hB.size; simp [World.setCell]; omega, fun k c f hk e => ?_, hl, v, h2.set 0 (by simp) v, hO.bytes fun k c f hk => Below.heap_setCell _ _ _ _ (h2.ne_byte hk)⟩, ⟨(hB.mono hbo).setCell hb _, fun k c t f e1 e2 e3 => ?_⟩, (hP.nb hN).of_block (Below.heap_setCell _ _ _ _ hpb)⟩
  · have e1 := hJ k c f hk e
    have e2 : w2.heap[k]? = w0.heap[k]? := (hB.block k hk).trans e1
    rw [← e2]
    exact Below.heap_setCell _ _ _ _ (h2.ne_byte (by rw [e2]; exact e))
  · rw [Below.heap_setCell _ _ _ _ (fun e => e3.1 e)]
    exact hN k c t f e1 e2

set_option maxHeartbeats 16000000 in
set_option maxRecDepth 100000 in
theorem wr_int (ob : Nat) (w0 : World) (K : WkM wk) (hK : K.St = WrSt K.base K.b ob w0) : Walks K 115 K.ptr [] intE wk.int := by
  intro s x w p o cs es av h1 h2 h3 h4 h5 h6 h7 h8
  obtain ⟨base, b, ty, St⟩ := K
  simp only at hK
  subst hK
  obtain ⟨hb, hbo, hos, hJ, hsl, bv, hbv, hO⟩ := h1
  have HJ := Lib.hid hJ
  clear hJ
  obtain ⟨rfl, r1⟩ := h6
  obtain ⟨ba, bc, rfl⟩ := hO.slice
  have hSz : (s ++ be 8 (u64 x)).length ≤ 10000000 := h8
  have HSz := Lib.hid hSz
  have HO := Lib.hid hO
  have HB := Lib.hid hbv
  have HP := Lib.hid h4
  have HAt := Lib.hid h5
  have HS : Hid (w.drew.cell? ⟨b, 0, none⟩ = some (.slice ba s.length bc) ∧ w.drew.cell? ⟨p, o, none⟩ = some (.int .i64 x)) := ⟨hbv.drew.1.at 0 rfl, h4.drew.1.at o (h5 0 (by simp))⟩
  have hsl' : s.length ≤ 10000000 := hsl
  clear h4 h5 h7 h8 hO hbv
  unfold WkM.ptr
  go_enter Tryz.func115, Tryz.ntmps115
  refine wp_region_seqL (by kernel_rfl) (fun w' => w'.cell? ⟨b, 0, none⟩ = some (.slice ba s.length bc) ∧ w'.cell? ⟨p, o, none⟩ = some (.int .i64 x)) 12 [(0, 0), (1, 0), (2, 0), (3, 0), (4, 1), (5, 0), (6, 0), (7, 1), (8, 0), (9, 2), (10, 0), (11, 0), (12, 2)] (by kernel_rfl) (HS.out) ?_
  refine sl_q (d := some 4) rfl rfl rfl (.pointer (some ⟨b, 0, none⟩)) (fun w => rfl) ?_
  simp only [Act.put, List.setIfInBounds_toArray, List.set_cons_zero, List.set_cons_succ]
  refine sl_q (d := some 5) rfl rfl rfl (.pointer (some ⟨b, 0, none⟩)) (fun w => rfl) ?_
  simp only [Act.put, List.setIfInBounds_toArray, List.set_cons_zero, List.set_cons_succ]
  refine sl_q (d := some 6) rfl rfl rfl (.pointer (some ⟨b, 0, none⟩)) (fun w => rfl) ?_
  simp only [Act.put, List.setIfInBounds_toArray, List.set_cons_zero, List.set_cons_succ]
  refine sl_q (d := some 7) rfl rfl rfl (.pointer (some ⟨b, 0, none⟩)) (fun w => by go_simp) ?_
  simp only [Act.put, List.setIfInBounds_toArray, List.set_cons_zero, List.set_cons_succ]
  refine sl_s (d := some 8) rfl rfl rfl (.slice ba s.length bc) (fun w hw => by simp [execOp, Act.eval, hw.1, go_sem]) ?_
  simp only [Act.put, List.setIfInBounds_toArray, List.set_cons_zero, List.set_cons_succ]
  refine sl_q (d := some 9) rfl rfl rfl (.pointer (some ⟨p, o, none⟩)) (fun w => rfl) ?_
  simp only [Act.put, List.setIfInBounds_toArray, List.set_cons_zero, List.set_cons_succ]
  refine sl_q (d := some 10) rfl rfl rfl (.pointer (some ⟨p, o, none⟩)) (fun w => rfl) ?_
  simp only [Act.put, List.setIfInBounds_toArray, List.set_cons_zero, List.set_cons_succ]
  refine sl_s (d := some 11) rfl rfl rfl (.int .i64 x) (fun w hw => by simp [execOp, Act.eval, hw.2, go_sem]) ?_
  simp only [Act.put, List.setIfInBounds_toArray, List.set_cons_zero, List.set_cons_succ]
  refine sl_q (d := some 12) rfl rfl rfl (.int .u64 (u64 x : Nat)) (fun w => by simp [execOp, Act.eval, go_sem, wrap_u64]) ?_
  simp only [Act.put, List.setIfInBounds_toArray, List.set_cons_zero, List.set_cons_succ]
  refine sl_call (d := some 13) rfl rfl rfl ⟨_, Tryz.func29, by kernel_rfl, by kernel_rfl⟩ _ _ _ rfl rfl [.slice ba s.length bc, .int .u64 (u64 x : Nat), .int .i64 8] rfl (put_any 8 (u64 x) ob (by omega) (u64_lt _) _ s w.drew (HO.out.bytes fun _ _ _ _ => rfl) (by omega) hos) ?_
  rintro e w2 ⟨v2, rfl, hO2, hB2, hN2⟩
  obtain ⟨va, vn, vc, rfl⟩ := hO2.form
  have HN2 : Hid (NB w w2) := hN2
  have HB2 : Hid (Below ob w w2) := (Below.refl _ _).drew.trans hB2
  have HO2 := Lib.hid hO2
  refine ⟨_, rfl, fun _ => ⟨(HB.out.nb HN2.out).1.at 0 rfl, (HP.out.nb HN2.out).1.at o (HAt.out 0 (by simp))⟩, ?_⟩
  simp only [Act.put, List.setIfInBounds_toArray, List.set_cons_zero, List.set_cons_succ]
  clear hO2 hB2 hN2
  refine sl_q (d := some 14) rfl rfl rfl (.pointer (some ⟨b, 0, none⟩)) (fun w => rfl) ?_
  simp only [Act.put, List.setIfInBounds_toArray, List.set_cons_zero, List.set_cons_succ]
  refine sl_q (d := some 15) rfl rfl rfl (.pointer (some ⟨b, 0, none⟩)) (fun w => by go_simp) ?_
  simp only [Act.put, List.setIfInBounds_toArray, List.set_cons_zero, List.set_cons_succ]
  have c2 := (HB.out.nb HN2.out).1.at 0 rfl
  have f2 := (HB.out.nb HN2.out).1.2.2 0 (by simp)
  have HW := Lib.hid (WrSt.wrote hb hbo hos HJ.out HSz.out HB.out HP.out h3 HB2.out HN2.out HO2.out)
  refine sl_skip (d := none) rfl rfl rfl (w2.setCell ⟨b, 0, none⟩ (.slice va vn vc)) (by simp [execOp, Act.eval, c2, f2, go_sem]) (fun h => by cases h) ?_
  simp only [Act.put, List.setIfInBounds_toArray, List.set_cons_zero, List.set_cons_succ]
  clear c2 f2
  refine sl_end ?_
  try go_wp2_with fail
  go_end0
  exact ⟨rfl, ⟨HW.out.1, HW.out.2.1, [.int .i64 x], by rw [putL_same HAt.out (by simp)]; exact HW.out.2.2, rfl, r1⟩⟩

set_option maxHeartbeats 16000000 in
set_option maxRecDepth 100000 in
theorem wr_word (ob : Nat) (w0 : World) (K : WkM wk) (hK : K.St = WrSt K.base K.b ob w0) : Walks K 117 K.ptr [] wordE wk.word := by
  intro s x w p o cs es av h1 h2 h3 h4 h5 h6 h7 h8
  obtain ⟨base, b, ty, St⟩ := K
  simp only at hK
  subst hK
  obtain ⟨hb, hbo, hos, hJ, hsl, bv, hbv, hO⟩ := h1
  have HJ := Lib.hid hJ
  clear hJ
  obtain ⟨rfl, r1⟩ := h6
  obtain ⟨ba, bc, rfl⟩ := hO.slice
  have hSz : (s ++ be 8 x).length ≤ 10000000 := h8
  have HSz := Lib.hid hSz
  have HO := Lib.hid hO
  have HB := Lib.hid hbv
  have HP := Lib.hid h4
  have HAt := Lib.hid h5
  have HS : Hid (w.drew.cell? ⟨b, 0, none⟩ = some (.slice ba s.length bc) ∧ w.drew.cell? ⟨p, o, none⟩ = some (.int .u64 x)) := ⟨hbv.drew.1.at 0 rfl, h4.drew.1.at o (h5 0 (by simp))⟩
  have hsl' : s.length ≤ 10000000 := hsl
  clear h4 h5 h7 h8 hO hbv
  unfold WkM.ptr
  go_enter Tryz.func117, Tryz.ntmps117
  refine wp_region_seqL (by kernel_rfl) (fun w' => w'.cell? ⟨b, 0, none⟩ = some (.slice ba s.length bc) ∧ w'.cell? ⟨p, o, none⟩ = some (.int .u64 x)) 11 [(0, 0), (1, 0), (2, 0), (3, 0), (4, 1), (5, 0), (6, 0), (7, 1), (8, 2), (9, 0), (10, 0), (11, 2)] (by kernel_rfl) (HS.out) ?_
  refine sl_q (d := some 4) rfl rfl rfl (.pointer (some ⟨b, 0, none⟩)) (fun w => rfl) ?_
  simp only [Act.put, List.setIfInBounds_toArray, List.set_cons_zero, List.set_cons_succ]
  refine sl_q (d := some 5) rfl rfl rfl (.pointer (some ⟨b, 0, none⟩)) (fun w => rfl) ?_
  simp only [Act.put, List.setIfInBounds_toArray, List.set_cons_zero, List.set_cons_succ]
  refine sl_q (d := some 6) rfl rfl rfl (.pointer (some ⟨b, 0, none⟩)) (fun w => rfl) ?_
  simp only [Act.put, List.setIfInBounds_toArray, List.set_cons_zero, List.set_cons_succ]
  refine sl_q (d := some 7) rfl rfl rfl (.pointer (some ⟨b, 0, none⟩)) (fun w => by go_simp) ?_
  simp only [Act.put, List.setIfInBounds_toArray, List.set_cons_zero, List.set_cons_succ]
  refine sl_s (d := some 8) rfl rfl rfl (.slice ba s.length bc) (fun w hw => by simp [execOp, Act.eval, hw.1, go_sem]) ?_
  simp only [Act.put, List.setIfInBounds_toArray, List.set_cons_zero, List.set_cons_succ]
  refine sl_q (d := some 9) rfl rfl rfl (.pointer (some ⟨p, o, none⟩)) (fun w => rfl) ?_
  simp only [Act.put, List.setIfInBounds_toArray, List.set_cons_zero, List.set_cons_succ]
  refine sl_q (d := some 10) rfl rfl rfl (.pointer (some ⟨p, o, none⟩)) (fun w => rfl) ?_
  simp only [Act.put, List.setIfInBounds_toArray, List.set_cons_zero, List.set_cons_succ]
  refine sl_s (d := some 11) rfl rfl rfl (.int .u64 x) (fun w hw => by simp [execOp, Act.eval, hw.2, go_sem]) ?_
  simp only [Act.put, List.setIfInBounds_toArray, List.set_cons_zero, List.set_cons_succ]
  refine sl_call (d := some 12) rfl rfl rfl ⟨_, Tryz.func29, by kernel_rfl, by kernel_rfl⟩ _ _ _ rfl rfl [.slice ba s.length bc, .int .u64 (x : Nat), .int .i64 8] rfl (put_any 8 (x) ob (by omega) (by omega) _ s w.drew (HO.out.bytes fun _ _ _ _ => rfl) (by omega) hos) ?_
  rintro e w2 ⟨v2, rfl, hO2, hB2, hN2⟩
  obtain ⟨va, vn, vc, rfl⟩ := hO2.form
  have HN2 : Hid (NB w w2) := hN2
  have HB2 : Hid (Below ob w w2) := (Below.refl _ _).drew.trans hB2
  have HO2 := Lib.hid hO2
  refine ⟨_, rfl, fun _ => ⟨(HB.out.nb HN2.out).1.at 0 rfl, (HP.out.nb HN2.out).1.at o (HAt.out 0 (by simp))⟩, ?_⟩
  simp only [Act.put, List.setIfInBounds_toArray, List.set_cons_zero, List.set_cons_succ]
  clear hO2 hB2 hN2
  refine sl_q (d := some 13) rfl rfl rfl (.pointer (some ⟨b, 0, none⟩)) (fun w => rfl) ?_
  simp only [Act.put, List.setIfInBounds_toArray, List.set_cons_zero, List.set_cons_succ]
  refine sl_q (d := some 14) rfl rfl rfl (.pointer (some ⟨b, 0, none⟩)) (fun w => by go_simp) ?_
  simp only [Act.put, List.setIfInBounds_toArray, List.set_cons_zero, List.set_cons_succ]
  have c2 := (HB.out.nb HN2.out).1.at 0 rfl
  have f2 := (HB.out.nb HN2.out).1.2.2 0 (by simp)
  have HW := Lib.hid (WrSt.wrote hb hbo hos HJ.out HSz.out HB.out HP.out h3 HB2.out HN2.out HO2.out)
  refine sl_skip (d := none) rfl rfl rfl (w2.setCell ⟨b, 0, none⟩ (.slice va vn vc)) (by simp [execOp, Act.eval, c2, f2, go_sem]) (fun h => by cases h) ?_
  simp only [Act.put, List.setIfInBounds_toArray, List.set_cons_zero, List.set_cons_succ]
  clear c2 f2
  refine sl_end ?_
  try go_wp2_with fail
  go_end0
  exact ⟨rfl, ⟨HW.out.1, HW.out.2.1, [.int .u64 x], by rw [putL_same HAt.out (by simp)]; exact HW.out.2.2, rfl, r1⟩⟩

set_option maxHeartbeats 16000000 in
set_option maxRecDepth 100000 in
theorem wr_text (ob : Nat) (w0 : World) (K : WkM wk) (hK : K.St = WrSt K.base K.b ob w0) : Walks K 116 K.ptr [] strE wk.text := by
  intro s x w p o cs es av h1 h2 h3 h4 h5 h6 h7 h8
  obtain ⟨base, b, ty, St⟩ := K
  simp only at hK
  subst hK
  obtain ⟨hb, hbo, hos, hJ, hsl, bv, hbv, hO⟩ := h1
  have HJ := Lib.hid hJ
  clear hJ
  obtain ⟨rfl, r1⟩ := h6
  obtain ⟨ba, bc, rfl⟩ := hO.slice
  have hSz : (s ++ strB x).length ≤ 10000000 := h8
  have HSz := Lib.hid hSz
  have HO := Lib.hid hO
  have HB := Lib.hid hbv
  have HP := Lib.hid h4
  have HAt := Lib.hid h5
  have HS : Hid (w.drew.cell? ⟨b, 0, none⟩ = some (.slice ba s.length bc) ∧ w.drew.cell? ⟨p, o, none⟩ = some (.string x)) := ⟨hbv.drew.1.at 0 rfl, h4.drew.1.at o (h5 0 (by simp))⟩
  have hsl' : s.length ≤ 10000000 := hsl
  clear h4 h5 h7 h8 hO hbv
  unfold WkM.ptr
  go_enter Tryz.func116, Tryz.ntmps116
  refine wp_region_seqL (by kernel_rfl) (fun w' => w'.cell? ⟨b, 0, none⟩ = some (.slice ba s.length bc) ∧ w'.cell? ⟨p, o, none⟩ = some (.string x)) 17 [(0, 0), (1, 0), (2, 0), (3, 0), (4, 1), (5, 0), (6, 0), (7, 1), (8, 0), (9, 0), (11, 0), (12, 0), (13, 1), (10, 2), (14, 2), (15, 0), (16, 0), (17, 2)] (by kernel_rfl) (HS.out) ?_
  refine sl_q (d := some 4) rfl rfl rfl (.pointer (some ⟨b, 0, none⟩)) (fun w => rfl) ?_
  simp only [Act.put, List.setIfInBounds_toArray, List.set_cons_zero, List.set_cons_succ]
  refine sl_q (d := some 5) rfl rfl rfl (.pointer (some ⟨b, 0, none⟩)) (fun w => rfl) ?_
  simp only [Act.put, List.setIfInBounds_toArray, List.set_cons_zero, List.set_cons_succ]
  refine sl_q (d := some 6) rfl rfl rfl (.pointer (some ⟨b, 0, none⟩)) (fun w => rfl) ?_
  simp only [Act.put, List.setIfInBounds_toArray, List.set_cons_zero, List.set_cons_succ]
  refine sl_q (d := some 7) rfl rfl rfl (.pointer (some ⟨b, 0, none⟩)) (fun w => by go_simp) ?_
  simp only [Act.put, List.setIfInBounds_toArray, List.set_cons_zero, List.set_cons_succ]
  refine sl_s (d := some 8) rfl rfl rfl (.slice ba s.length bc) (fun w hw => by simp [execOp, Act.eval, hw.1, go_sem]) ?_
  simp only [Act.put, List.setIfInBounds_toArray, List.set_cons_zero, List.set_cons_succ]
  refine sl_q (d := some 9) rfl rfl rfl (.pointer (some ⟨p, o, none⟩)) (fun w => rfl) ?_
  simp only [Act.put, List.setIfInBounds_toArray, List.set_cons_zero, List.set_cons_succ]
  refine sl_q (d := some 10) rfl rfl rfl (.pointer (some ⟨p, o, none⟩)) (fun w => rfl) ?_
  simp only [Act.put, List.setIfInBounds_toArray, List.set_cons_zero, List.set_cons_succ]
  refine sl_s (d := some 11) rfl rfl rfl (.string x) (fun w hw => by simp [execOp, Act.eval, hw.2, go_sem]) ?_
  simp only [Act.put, List.setIfInBounds_toArray, List.set_cons_zero, List.set_cons_succ]
  refine sl_q (d := some 12) rfl rfl rfl (.int .i64 x.size) (fun w => by simp [execOp, Act.eval, go_sem]) ?_
  simp only [Act.put, List.setIfInBounds_toArray, List.set_cons_zero, List.set_cons_succ]
  refine sl_q (d := some 13) rfl rfl rfl (.int .u64 (x.size : Nat)) (fun w => by simp [execOp, Act.eval, go_sem, wrap_u64_nat x.size (by omega)]) ?_
  simp only [Act.put, List.setIfInBounds_toArray, List.set_cons_zero, List.set_cons_succ]
  refine sl_q (d := some 15) rfl rfl rfl (.pointer (some ⟨p, o, none⟩)) (fun w => rfl) ?_
  simp only [Act.put, List.setIfInBounds_toArray, List.set_cons_zero, List.set_cons_succ]
  refine sl_q (d := some 16) rfl rfl rfl (.pointer (some ⟨p, o, none⟩)) (fun w => rfl) ?_
  simp only [Act.put, List.setIfInBounds_toArray, List.set_cons_zero, List.set_cons_succ]
  refine sl_s (d := some 17) rfl rfl rfl (.string x) (fun w hw => by simp [execOp, Act.eval, hw.2, go_sem]) ?_
  simp only [Act.put, List.setIfInBounds_toArray, List.set_cons_zero, List.set_cons_succ]
  refine sl_call (d := some 14) rfl rfl rfl ⟨_, Tryz.func29, by kernel_rfl, by kernel_rfl⟩ _ _ _ rfl rfl [.slice ba s.length bc, .int .u64 (x.size : Nat), .int .i64 4] rfl (put_any 4 (x.size) ob (by omega) (by omega) _ s w.drew (HO.out.bytes fun _ _ _ _ => rfl) (by omega) hos) ?_
  rintro e w2 ⟨v2, rfl, hO2, hB2, hN2⟩
  obtain ⟨va, vn, vc, rfl⟩ := hO2.form
  have HN2 : Hid (NB w w2) := hN2
  have HB2 : Hid (Below ob w w2) := (Below.refl _ _).drew.trans hB2
  have HO2 := Lib.hid hO2
  refine ⟨_, rfl, fun _ => ⟨(HB.out.nb HN2.out).1.at 0 rfl, (HP.out.nb HN2.out).1.at o (HAt.out 0 (by simp))⟩, ?_⟩
  simp only [Act.put, List.setIfInBounds_toArray, List.set_cons_zero, List.set_cons_succ]
  clear hO2 hB2 hN2
  have HAp : Hid (∃ (v' : Value) (w' : World), (Builtin.append_ #[22, 9] 22 #[.slice va vn vc, .string x]).run Tryz.prog w2 = .ok v' w' ∧ OwnB w' ob v' (s ++ strB x) ∧ Below ob w w' ∧ NB w w') := by
    obtain ⟨v', w', a1, a2, a3, a4⟩ := append_s HO2.out x (by rw [List.length_append, be_length]; omega) (by omega) (Nat.le_trans hos HB2.out.size) 22
    exact ⟨v', w', a1, by unfold strB; rw [← List.append_assoc]; exact a2, HB2.out.trans a3, HN2.out.trans a4⟩
  obtain ⟨v3, w3, hrun, hO3, hB3, hN3⟩ := HAp.out
  obtain ⟨ua, un, uc, rfl⟩ := hO3.form
  have HN3 := Lib.hid hN3
  have HB3 := Lib.hid hB3
  have HO3 := Lib.hid hO3
  have Hrun := Lib.hid hrun
  clear hrun hO3 hB3 hN3
  refine sl_run (d := some 18) rfl rfl rfl _ w3 (run_append _ _ _ rfl _ _ rfl rfl Hrun.out) (fun _ => ⟨(HB.out.nb HN3.out).1.at 0 rfl, (HP.out.nb HN3.out).1.at o (HAt.out 0 (by simp))⟩) ?_
  simp only [Act.put, List.setIfInBounds_toArray, List.set_cons_zero, List.set_cons_succ]
  refine sl_q (d := some 19) rfl rfl rfl (.pointer (some ⟨b, 0, none⟩)) (fun w => rfl) ?_
  simp only [Act.put, List.setIfInBounds_toArray, List.set_cons_zero, List.set_cons_succ]
  refine sl_q (d := some 20) rfl rfl rfl (.pointer (some ⟨b, 0, none⟩)) (fun w => by go_simp) ?_
  simp only [Act.put, List.setIfInBounds_toArray, List.set_cons_zero, List.set_cons_succ]
  have c2 := (HB.out.nb HN3.out).1.at 0 rfl
  have f2 := (HB.out.nb HN3.out).1.2.2 0 (by simp)
  have HW := Lib.hid (WrSt.wrote hb hbo hos HJ.out HSz.out HB.out HP.out h3 HB3.out HN3.out HO3.out)
  refine sl_skip (d := none) rfl rfl rfl (w3.setCell ⟨b, 0, none⟩ (.slice ua un uc)) (by simp [execOp, Act.eval, c2, f2, go_sem]) (fun h => by cases h) ?_
  simp only [Act.put, List.setIfInBounds_toArray, List.set_cons_zero, List.set_cons_succ]
  clear c2 f2
  refine sl_end ?_
  try go_wp2_with fail
  go_end0
  exact ⟨rfl, ⟨HW.out.1, HW.out.2.1, [.string x], by rw [putL_same HAt.out (by simp)]; exact HW.out.2.2, rfl, r1⟩⟩

set_option maxHeartbeats 16000000 in
set_option maxRecDepth 100000 in
theorem wr_bool (ob : Nat) (w0 : World) (K : WkM wk) (hK : K.St = WrSt K.base K.b ob w0) : Walks K 113 K.ptr [] boolE wk.bool := by
  intro s x w p o cs es av h1 h2 h3 h4 h5 h6 h7 h8
  obtain ⟨base, b, ty, St⟩ := K
  simp only at hK
  subst hK
  obtain ⟨hb, hbo, hos, hJ, hsl, bv, hbv, hO⟩ := h1
  have HJ := Lib.hid hJ
  clear hJ
  obtain rfl := h6
  obtain ⟨ba, bc, rfl⟩ := hO.slice
  have HSz : Hid ((s ++ boolB x).length ≤ 10000000) := h8
  have HB := Lib.hid hbv
  have HP := Lib.hid h4
  have HAt := Lib.hid h5
  have cb : w.cell? ⟨b, 0, none⟩ = some (.slice ba s.length bc) := hbv.1.at 0 rfl
  have cp : w.cell? ⟨p, o, none⟩ = some (.bool x) := h4.1.at o (h5 0 (by simp))
  have H1 : Hid (∃ (v' : Value) (w' : World), (Builtin.append_ #[22, 22] 22 #[.slice ba s.length bc, .slice (some ⟨w.heap.size, 0, none⟩) 1 1]).run Tryz.prog (w.alloc (.cells #[.int .u8 1] 5)) = .ok v' w' ∧ OwnB w' ob v' (s ++ boolB true) ∧ Below ob w w' ∧ NB w w') := append_b hO 1 (by omega) hos 22
  have H0 : Hid (∃ (v' : Value) (w' : World), (Builtin.append_ #[22, 22] 22 #[.slice ba s.length bc, .slice (some ⟨w.heap.size, 0, none⟩) 1 1]).run Tryz.prog (w.alloc (.cells #[.int .u8 0] 5)) = .ok v' w' ∧ OwnB w' ob v' (s ++ boolB false) ∧ Below ob w w' ∧ NB w w') := append_b hO 0 (by omega) hos 22
  clear h4 h5 h7 h8 hO hbv hsl
  unfold WkM.ptr
  go_enter Tryz.func113, Tryz.ntmps113
  cases x
  · go_wp2_with (at_builtin; obtain ⟨v', w', hrun, hs'⟩ := H0.out; obtain ⟨va, vn, vc, rfl⟩ := hs'.1.form; have c2 := (HB.out.nb hs'.2.2).1.at 0 rfl; have f2 := (HB.out.nb hs'.2.2).1.2.2 0 (by simp); have HW := Lib.hid (WrSt.wrote hb hbo hos HJ.out HSz.out HB.out HP.out h3 hs'.2.1 hs'.2.2 hs'.1); have Hrun := Lib.hid hrun; clear hrun hs'; refine wpList_append_run rfl _ _ _ rfl _ _ _ _ rfl rfl Hrun.out ?_)
    go_end0
    exact ⟨rfl, HW.out.1, HW.out.2.1, [.bool false], by rw [putL_same HAt.out (by simp)]; exact HW.out.2.2, rfl⟩
  · go_wp2_with (at_builtin; obtain ⟨v', w', hrun, hs'⟩ := H1.out; obtain ⟨va, vn, vc, rfl⟩ := hs'.1.form; have c2 := (HB.out.nb hs'.2.2).1.at 0 rfl; have f2 := (HB.out.nb hs'.2.2).1.2.2 0 (by simp); have HW := Lib.hid (WrSt.wrote hb hbo hos HJ.out HSz.out HB.out HP.out h3 hs'.2.1 hs'.2.2 hs'.1); have Hrun := Lib.hid hrun; clear hrun hs'; refine wpList_append_run rfl _ _ _ rfl _ _ _ _ rfl rfl Hrun.out ?_)
    go_end0
    exact ⟨rfl, HW.out.1, HW.out.2.1, [.bool true], by rw [putL_same HAt.out (by simp)]; exact HW.out.2.2, rfl⟩

set_option maxHeartbeats 16000000 in
set_option maxRecDepth 100000 in
theorem wr_count (ob : Nat) (w0 : World) (K : WkM wk) (hK : K.St = WrSt K.base K.b ob w0) (s : List UInt8) (n : Nat) (w : World) (h1 : K.St s w) (hn : n ≤ 1000000) (h8 : (s ++ be 4 n).length ≤ 10000000) :
    Calls Tryz.prog 114 #[K.ptr, .int .i64 n] w fun e w' => e = .returned (.int .i64 n) ∧ n ≤ 1000000 ∧ K.St (s ++ be 4 n) w' ∧ Fr K.base K.b K.b w w' := by
  obtain ⟨base, b, ty, St⟩ := K
  simp only at hK
  subst hK
  obtain ⟨hb, hbo, hos, hJ, hsl, bv, hbv, hO⟩ := h1
  have HJ := Lib.hid hJ
  clear hJ
  obtain ⟨ba, bc, rfl⟩ := hO.slice
  have HSz := Lib.hid h8
  have HB := Lib.hid hbv
  have HO := Lib.hid hO
  have cb : w.cell? ⟨b, 0, none⟩ = some (.slice ba s.length bc) := hbv.1.at 0 rfl
  have hsl' : s.length ≤ 10000000 := hsl
  have HN := Lib.hid hn
  have hw := wrap_u64_nat n (by omega)
  clear h8 hO hbv hsl hn
  unfold WkM.ptr
  go_enter Tryz.func114, Tryz.ntmps114
  go_wp2_with fail
  refine (put_any 4 n ob (by omega) (by have := HN.out; omega) _ s w HO.out (by omega) hos).mono ?_
  rintro e w2 ⟨v2, rfl, hO2, hB2, hN2⟩
  obtain ⟨va, vn, vc, rfl⟩ := hO2.form
  have c2 := (HB.out.nb hN2).1.at 0 rfl
  have f2 := (HB.out.nb hN2).1.2.2 0 (by simp)
  have HW : Hid (WrSt base b ob w0 (s ++ be 4 n) (w2.setCell ⟨b, 0, none⟩ (.slice va vn vc)) ∧ Fr base b b w (w2.setCell ⟨b, 0, none⟩ (.slice va vn vc))) := by
    have h2 := HB.out.nb hN2
    refine ⟨⟨hb, hbo, by have := hB2.size; simp [World.setCell]; omega, fun k c f hk e => ?_, HSz.out, _, h2.set 0 (by simp) _, hO2.bytes fun k c f hk => Below.heap_setCell _ _ _ _ (h2.ne_byte hk)⟩, ⟨(hB2.mono hbo).setCell hb _, fun k c t f e1 e2 e3 => ?_⟩⟩
    · have e1 := HJ.out k c f hk e
      have e2 : w2.heap[k]? = w0.heap[k]? := (hB2.block k hk).trans e1
      rw [← e2]
      exact Below.heap_setCell _ _ _ _ (h2.ne_byte (by rw [e2]; exact e))
    · rw [Below.heap_setCell _ _ _ _ (fun e => e3.1 e)]
      exact hN2 k c t f e1 e2
  clear hO2 hB2 hN2 hw
  go_wp2_with fail
  go_ret
  exact ⟨rfl, HN.out, HW.out.1, HW.out.2⟩
/-- The writer is a walker. -/
theorem wr_ok (base b ob : Nat) (w0 : World) : WkM.OK (k := wk) ⟨base, b, 82, WrSt base b ob w0⟩ := by
  refine ⟨wk_mono, fun h => ⟨h.1, by obtain ⟨_, _, _, _, _, bv, h1, _⟩ := h; exact h1.lt⟩, fun h hq => h.stable hq, ?_, ?_, ?_, ?_, ?_⟩
  · exact ⟨_, ⟨fun w => by kernel_rfl, ⟨fun w => by kernel_rfl, _, Tryz.func115, by kernel_rfl, by kernel_rfl⟩⟩, wr_int ob w0 _ rfl⟩
  · exact ⟨_, ⟨fun w => by kernel_rfl, ⟨fun w => by kernel_rfl, _, Tryz.func117, by kernel_rfl, by kernel_rfl⟩⟩, wr_word ob w0 _ rfl⟩
  · exact ⟨_, ⟨fun w => by kernel_rfl, ⟨fun w => by kernel_rfl, _, Tryz.func113, by kernel_rfl, by kernel_rfl⟩⟩, wr_bool ob w0 _ rfl⟩
  · exact ⟨_, ⟨fun w => by kernel_rfl, ⟨fun w => by kernel_rfl, _, Tryz.func116, by kernel_rfl, by kernel_rfl⟩⟩, wr_text ob w0 _ rfl⟩
  · exact ⟨_, ⟨fun w => by kernel_rfl, ⟨fun w => by kernel_rfl, _, Tryz.func114, by kernel_rfl, by kernel_rfl⟩⟩, fun s n w h1 hn h8 => wr_count ob w0 _ rfl s n w h1 hn h8⟩
end Go.Proofs.YtpknalpdcfjffaaGreat
/- Bytes that are read; the check number, the program's and the reference's. -/
namespace Go.Proofs.YtpknalpdcfjffaaGreat
open Go Go.RowKit

/-- Bytes that lie somewhere. -/
def BytesR (w : World) (v : Value) (l : List UInt8) : Prop := ∃ (a : Option Addr) (c : Nat), v = .slice a l.length c ∧ l.length ≤ c ∧ c ≤ 9223372036854775807 ∧
  ∀ i, (hi : i < l.length) → ∃ ab ao : Nat, a = some ⟨ab, ao, none⟩ ∧ w.cell? ⟨ab, ao + i, none⟩ = some (.int .u8 (l[i].toNat : Nat))
theorem BytesL.r {w : World} {base : Nat} {v : Value} {l : List UInt8} (h : BytesL w base v l) : BytesR w v l := by
  obtain ⟨a, c, e, h1, h2, h3⟩ := h
  refine ⟨a, c, e, h1, h2, fun i hi => ?_⟩
  obtain ⟨ab, ao, ea, _, hc⟩ := h3 i hi
  exact ⟨ab, ao, ea, hc⟩
theorem OwnB.r {w : World} {base : Nat} {v : Value} {l : List UInt8} (h : OwnB w base v l) : BytesR w v l := by
  have h' := h
  obtain ⟨h1, h2⟩ := h
  rcases h2 with ⟨e, h0⟩ | ⟨g, cap, cur, e, hg, hh, hc, hm, hsz, htk⟩
  · exact ⟨none, 0, by rw [e, h0], by omega, by omega, fun i hi => by omega⟩
  · refine ⟨some ⟨g, 0, none⟩, cap, e, hc, by unfold maxLen at hm; omega, fun i hi => ⟨g, 0, rfl, ?_⟩⟩
    have := World.ownsRow.cells h' (g := g) (by rw [e]; rfl) i (.int .u8 (l[i].toNat : Nat)) (by simp [bcs, hi])
    rw [Addr.add_mid] at this
    exact this
theorem BytesR.slice {w : World} {v : Value} {l : List UInt8} (h : BytesR w v l) : ∃ a c, v = .slice a l.length c := by
  obtain ⟨a, c, e, _⟩ := h
  exact ⟨a, c, e⟩
theorem BytesR.below {w w' : World} {v : Value} {l : List UInt8} (h : BytesR w v l) (hb : Below w.heap.size w w') : BytesR w' v l := by
  obtain ⟨a, c, e, h1, h2, h3⟩ := h
  refine ⟨a, c, e, h1, h2, fun i hi => ?_⟩
  obtain ⟨ab, ao, ea, hc⟩ := h3 i hi
  exact ⟨ab, ao, ea, cell_then hb hc⟩
/-- The check number. -/
def chk (l : List UInt8) : Nat := l.foldl (fun h c => (h * 31 + c.toNat) % 4294967291) 1
theorem chk_take (l : List UInt8) (m : Nat) (h : m < l.length) : chk (l.take (m + 1)) = (chk (l.take m) * 31 + l[m].toNat) % 4294967291 := by
  have : l.take (m + 1) = l.take m ++ [l[m]] := by rw [List.take_add_one]; simp [h]
  rw [this]
  unfold chk
  rw [List.foldl_append]
  rfl
theorem chk_lt (l : List UInt8) : chk l < 4294967291 := by
  rcases List.eq_nil_or_concat l with rfl | ⟨l', c, rfl⟩
  · decide
  · unfold chk
    rw [List.concat_eq_append, List.foldl_append]
    exact Nat.mod_lt _ (by decide)
set_option maxHeartbeats 16000000 in
set_option maxRecDepth 100000 in
theorem checksum_any (v : Value) (l : List UInt8) (w : World) (h : BytesR w v l) (hl : l.length ≤ 1000000000) :
    Calls Tryz.prog 30 #[v] w fun e w' => e = .returned (.int .i64 (chk l : Nat)) ∧ w = w' := by
  obtain ⟨a, c, rfl, h1, h2, h3⟩ := h
  have H3 := Lib.hid h3
  have n0 : (l.length : Int) ≤ 1000000000 := by omega
  clear h3
  go_enter Tryz.func30, Tryz.ntmps30
  go_wp2_with fail
  go_loop [3, 8] (fun nv kv => ∃ m : Nat, kv = .int .i64 m ∧ m ≤ l.length ∧ nv = .int .i64 (chk (l.take m) : Nat)) (fun _ kv => (2000000000 - intOf kv).toNat)
  case atStart => exact ⟨0, rfl, by omega, rfl⟩
  case round =>
    obtain ⟨m, rfl, hm, rfl⟩ := hrel
    by_cases hlt : m < l.length
    · have m0 : (m : Int) < (l.length : Int) := by omega
      obtain ⟨ab, ao, rfl, hc⟩ := H3.out m hlt
      have hcc := l[m].toNat_lt
      have HT := Lib.hid (chk_take l m hlt)
      have hn := chk_lt (l.take m)
      generalize chk (l.take m) = N at hn HT ⊢
      generalize l[m].toNat = C at hc hcc HT
      have c1 : (C : Int) < 256 := by omega
      have n1 : (N : Int) < 4294967291 := by omega
      have HE : Hid (((N : Int) * 31 + (C : Int)) % 4294967291 = (((N * 31 + C) % 4294967291 : Nat) : Int)) := by unfold Hid; omega
      clear hn hcc
      go_wp2_with fail
      go_round
      case rel => exact ⟨m + 1, by go_num, by omega, by rw [HT.out]; exact congrArg _ HE.out⟩
      case measure => simp [intOf]; omega
    · obtain rfl : m = l.length := by omega
      go_wp2_with fail
      go_ret
      exact ⟨rfl, rfl⟩
set_option maxHeartbeats 16000000 in
set_option maxRecDepth 100000 in
theorem rchecksum_any (v : Value) (l : List UInt8) (w : World) (h : BytesR w v l) (hl : l.length ≤ 1000000000) :
    Calls Tryz.prog 35 #[v] w fun e w' => e = .returned (.int .u64 (chk l : Nat)) ∧ w = w' := by
  obtain ⟨a, c, rfl, h1, h2, h3⟩ := h
  have H3 := Lib.hid h3
  have n0 : (l.length : Int) ≤ 1000000000 := by omega
  clear h3
  go_enter Tryz.func35, Tryz.ntmps35
  go_wp2_with fail
  go_loop [3, 4] (fun nv kv => ∃ m : Nat, kv = .int .i64 m ∧ m ≤ l.length ∧ nv = .int .u64 (chk (l.take m) : Nat)) (fun _ kv => (2000000000 - intOf kv).toNat)
  case atStart => exact ⟨0, rfl, by omega, rfl⟩
  case round =>
    obtain ⟨m, rfl, hm, rfl⟩ := hrel
    by_cases hlt : m < l.length
    · have m0 : (m : Int) < (l.length : Int) := by omega
      obtain ⟨ab, ao, rfl, hc⟩ := H3.out m hlt
      have hcc := l[m].toNat_lt
      have HT := Lib.hid (chk_take l m hlt)
      have hn := chk_lt (l.take m)
      generalize chk (l.take m) = N at hn HT ⊢
      generalize l[m].toNat = C at hc hcc HT
      have c1 : (C : Int) < 256 := by omega
      have n1 : (N : Int) < 4294967291 := by omega
      have HE : Hid (((N : Int) * 31 + (C : Int)) % 4294967291 = (((N * 31 + C) % 4294967291 : Nat) : Int)) := by unfold Hid; omega
      clear hn hcc
      go_wp2_with fail
      go_round
      case rel => exact ⟨m + 1, by go_num, by omega, by rw [HT.out]; exact congrArg _ HE.out⟩
      case measure => simp [intOf]; omega
    · obtain rfl : m = l.length := by omega
      go_wp2_with fail
      go_ret
      exact ⟨rfl, rfl⟩
end Go.Proofs.YtpknalpdcfjffaaGreat
/- As SeqL, where now and then one of several operations may come next: each way is walked. And a cut behind a region. No program. -/
namespace Go.Proofs.YtpknalpdcfjffaaGreat
open Go Go.RowKit

/-- An order with forks. -/
inductive Tr
  | nil
  | q (i f : Nat) (r : Tr)
  | e (i : Nat) (r : Tr)
  | fork (x y : Tr)
def Tr.more : Tr → Bool
  | .nil => false
  | .q _ _ r => r.more
  | .e _ _ => true
  | .fork _ _ => true
def Tr.depth : Tr → Nat
  | .nil => 0
  | .q _ _ r => r.depth + 1
  | .e _ r => r.depth + 1
  | .fork x _ => x.depth
def Tr.heads : Tr → List Nat
  | .e i _ => [i]
  | .fork x y => x.heads ++ y.heads
  | _ => []
section
variable {P : Program} {ops : Array Oper} {Q : Exit → Act → World → Prop} {S : World → Prop} {L : Nat}
def wpT (P : Program) (ops : Array Oper) (Q : Exit → Act → World → Prop) (S : World → Prop) : Tr → Act → World → Prop
  | .nil, a, w => Q .normal a w
  | .q i f r, a, w => ∃ o, ops[i]? = some o ∧ ∃ v, YieldsIf P ops (fun w => f = 1 → S w) o v a ∧ wpT P ops Q S r (a.put o.dst v) w
  | .e i r, a, w => ∃ o, ops[i]? = some o ∧ if Region.wanted o (yielded ops a.tmps) = true then Oper.wp P o a w (fun a' w' => (r.more = true → S w') ∧ wpT P ops Q S r a' w') Q else wpT P ops Q S r (a.put o.dst undef) w
  | .fork x y, a, w => wpT P ops Q S x a w ∧ wpT P ops Q S y a w
def chkT (ops : Array Oper) (L : Nat) : Bool → Tr → Array Bool → Bool
  | fl, .nil, listed => !fl && (Region.ready .any ops listed).isEmpty
  | fl, .q i f r, listed => !fl && i != L && (f == 0 || (anc ops ops.size L).contains i) && Region.free .any ops listed i && (Region.ready .any ops listed).contains i && chkT ops L false r (listed.setIfInBounds i true)
  | fl, .e i r, listed => (fl || Region.ready .any ops listed == [i]) && (Region.ready .any ops listed).contains i && (i == L || r.more) && chkT ops L false r (listed.setIfInBounds i true)
  | fl, .fork x y, listed => (fl || Region.ready .any ops listed == x.heads ++ y.heads) && (x.depth == y.depth) && chkT ops L true x listed && chkT ops L true y listed
theorem chkT_depth : ∀ (t : Tr) (listed : Array Bool), chkT ops L true t listed = true → 0 < t.depth
  | .nil, _, h => by simp [chkT] at h
  | .q _ _ _, _, h => by simp [chkT] at h
  | .e _ _, _, _ => Nat.succ_pos _
  | .fork x y, listed, h => by
    simp only [chkT, Bool.and_eq_true] at h
    exact chkT_depth x listed h.1.2
theorem chkT_heads : ∀ (t : Tr) (listed : Array Bool), chkT ops L true t listed = true → t.heads ≠ []
  | .nil, _, h => by simp [chkT] at h
  | .q _ _ _, _, h => by simp [chkT] at h
  | .e _ _, _, _ => by simp [Tr.heads]
  | .fork x y, listed, h => by
    simp only [chkT, Bool.and_eq_true] at h
    have := chkT_heads x listed h.1.2
    intro e
    exact this (List.append_eq_nil_iff.1 e).1
theorem wpT_sound (hn : Region.noSelect ops = true) (hL : L < ops.size) (hQ : ∀ c a d v w, Q (.panic c) (Act.put a d v) w → Q (.panic c) a w) : ∀ (t : Tr) (listed : Array Bool) (a : Act) (w : World), ClosedL ops listed → listed.size = ops.size → (listed.getD L false = false → S w) → wpT P ops Q S t a w →
    (chkT ops L false t listed = true → wpAnyL P ops Q S L t.depth listed a w) ∧
    (chkT ops L true t listed = true → ∀ i ∈ t.heads, wpOp P ops Q i (fun a' w' => ((listed.setIfInBounds i true).getD L false = false → S w') ∧ wpAnyL P ops Q S L (t.depth - 1) (listed.setIfInBounds i true) a' w') a w)
  | .nil, listed, a, w, _, _, _, h => ⟨fun hb => ⟨by simpa [chkT] using hb, h⟩, fun hb => by simp [chkT] at hb⟩
  | .q i f r, listed, a, w, hc, hsz, hS, ⟨o, ho, v, hy, h⟩ => by
    refine ⟨fun hb => ?_, fun hb => by simp [chkT] at hb⟩
    simp only [chkT, Bool.and_eq_true, bne_iff_ne, Bool.or_eq_true, beq_iff_eq] at hb
    obtain ⟨⟨⟨⟨⟨_, h1⟩, h5⟩, h2⟩, h3⟩, h4⟩ := hb
    have hr : i ∈ Region.ready .any ops listed := by simpa using h3
    have hno : (listed.setIfInBounds i true).getD L false = false → listed.getD L false = false := fun h => by rw [getD_set_ne false h1] at h; exact h
    have hun : f = 1 → ∀ listed : Array Bool, ClosedL ops listed → listed.size = ops.size → i ∈ Region.ready .any ops listed → listed.getD L false = false ∧ L ∉ Region.ready .any ops listed := fun hf1 listed hc hsz hi => by
      have ha : i ∈ anc ops ops.size L := by
        rcases h5 with h5 | h5
        · omega
        · simpa using h5
      have h0 := (mem_ready.1 hi).1
      have hf : listed.getD i false = false := by
        have hlt : i < listed.size := by
          rcases Nat.lt_or_ge i listed.size with h | h
          · exact h
          · simp [Array.getElem?_eq_none h] at h0
        simp [hlt] at h0 ⊢; exact h0
      have hoL : ops[L]? = some ops[L] := Array.getElem?_eq_getElem hL
      refine ⟨?_, fun hLr => ?_⟩
      · cases hq : listed.getD L false with
        | false => rfl
        | true =>
          have := anc_listed hc ops.size L _ hoL (hc L _ hoL hq) hsz i ha
          rw [hf] at this; cases this
      · obtain ⟨_, oL, hoL', hall⟩ := mem_ready.1 hLr
        have := anc_listed hc ops.size L _ hoL' hall hsz i ha
        rw [hf] at this; cases this
    have hSw : f = 1 → S w := fun hf1 => hS (hun hf1 listed hc hsz hr).1
    have ih := wpT_sound hn hL hQ r (listed.setIfInBounds i true) (a.put o.dst v) w (hc.set hr) (by simp [hsz]) (fun h => hS (hno h)) h
    exact wpAnyL_first (T := fun w => f = 1 → S w) h1 ho (Region.noSelect_spec hn) (fun c a w => hQ c a _ _ w) (fun j listed w' hc hsz hj hi hji hS' hf1 => hS' (by
        have h6 := hun hf1 listed hc hsz hi
        have hjL : j ≠ L := fun e => h6.2 (e ▸ hj)
        rw [getD_set_ne false hjL]; exact h6.1)) r.depth listed a w (Region.free_spec ho h2) hc hsz hr hy hSw (fun h => hS (hno h)) (ih.1 h4)
  | .e i r, listed, a, w, hc, hsz, hS, ⟨o, ho, h⟩ => by
    have key : (Region.ready .any ops listed).contains i = true → (i == L || r.more) = true → chkT ops L false r (listed.setIfInBounds i true) = true → wpOp P ops Q i (fun a' w' => ((listed.setIfInBounds i true).getD L false = false → S w') ∧ wpAnyL P ops Q S L r.depth (listed.setIfInBounds i true) a' w') a w := fun hr0 h1 h3 => by
      have hr : i ∈ Region.ready .any ops listed := by simpa using hr0
      have h1 : i = L ∨ r.more = true := by simpa using h1
      have hLt : i = L → (listed.setIfInBounds i true).getD L false = false → False := fun e hf => by
        subst e
        have : i < listed.size := by omega
        simp [this] at hf
      unfold wpOp
      rw [ho]
      simp only
      split
      · rename_i hw
        rw [if_pos hw] at h
        refine Or.inl (Oper.wp_mono (fun a' w' h' => ?_) h)
        have hs : (listed.setIfInBounds i true).getD L false = false → S w' := fun hf => by
          rcases h1 with h1 | h1
          · exact (hLt h1 hf).elim
          · exact h'.1 h1
        exact ⟨hs, (wpT_sound hn hL hQ r _ a' w' (hc.set hr) (by simp [hsz]) hs h'.2).1 h3⟩
      · rename_i hw
        rw [if_neg hw] at h
        have hs : (listed.setIfInBounds i true).getD L false = false → S w := fun hf => hS (by
          by_cases e : i = L
          · exact (hLt e hf).elim
          · rw [getD_set_ne false e] at hf; exact hf)
        exact ⟨hs, (wpT_sound hn hL hQ r _ _ w (hc.set hr) (by simp [hsz]) hs h).1 h3⟩
    refine ⟨fun hb => ?_, fun hb j hj => ?_⟩
    · simp only [chkT, Bool.and_eq_true, Bool.false_or, beq_iff_eq] at hb
      obtain ⟨⟨⟨h1, h2⟩, h3⟩, h4⟩ := hb
      refine ⟨fun h0 => by (rw [h1] at h0; cases h0), fun j hj => ?_⟩
      obtain rfl : j = i := by rw [h1] at hj; simpa using hj
      exact key h2 h3 h4
    · simp only [chkT, Bool.and_eq_true] at hb
      obtain ⟨⟨⟨_, h2⟩, h3⟩, h4⟩ := hb
      obtain rfl : j = i := by simpa [Tr.heads] using hj
      exact key h2 h3 h4
  | .fork x y, listed, a, w, hc, hsz, hS, ⟨hx, hy⟩ => by
    have ix := (wpT_sound hn hL hQ x listed a w hc hsz hS hx).2
    have iy := (wpT_sound hn hL hQ y listed a w hc hsz hS hy).2
    have key : (x.depth == y.depth) = true → chkT ops L true x listed = true → chkT ops L true y listed = true → ∀ i ∈ x.heads ++ y.heads, wpOp P ops Q i (fun a' w' => ((listed.setIfInBounds i true).getD L false = false → S w') ∧ wpAnyL P ops Q S L (x.depth - 1) (listed.setIfInBounds i true) a' w') a w := fun hd h1 h2 i hi => by
      have hd : x.depth = y.depth := by simpa using hd
      rcases List.mem_append.1 hi with hi | hi
      · exact ix h1 i hi
      · rw [hd]; exact iy h2 i hi
    refine ⟨fun hb => ?_, fun hb => ?_⟩
    · simp only [chkT, Bool.and_eq_true, Bool.false_or] at hb
      obtain ⟨⟨⟨h1, h2⟩, h3⟩, h4⟩ := hb
      have h1 : Region.ready .any ops listed = x.heads ++ y.heads := by simpa using h1
      have hdep := chkT_depth x listed h3
      obtain ⟨n, hn'⟩ : ∃ n, x.depth = n + 1 := ⟨x.depth - 1, by omega⟩
      have k := key h2 h3 h4
      show wpAnyL P ops Q S L x.depth listed a w
      rw [hn'] at k ⊢
      have hne : x.heads ++ y.heads ≠ [] := by
        intro e
        exact chkT_heads x listed h3 (List.append_eq_nil_iff.1 e).1
      refine ⟨fun h0 => by (rw [h1] at h0; exact absurd h0 hne), fun j hj => ?_⟩
      rw [h1] at hj
      exact k j hj
    · simp only [chkT, Bool.and_eq_true] at hb
      obtain ⟨⟨⟨_, h2⟩, h3⟩, h4⟩ := hb
      exact key h2 h3 h4
theorem wp_region_tree {id : Nat} {a : Act} {w : World} (hm : P.follows .mixedOrders = true) (S : World → Prop) (L : Nat) (t : Tr) (hb : (Region.noSelect ops && (t.depth == ops.size) && decide (L < ops.size) && chkT ops L false t (Array.replicate ops.size false)) = true)
    (hS : S w.drew) (h : wpT P ops (NoPanic Q) S t a w.drew) : (Code.region id ops true).wp P Q a w := by
  simp only [Bool.and_eq_true, beq_iff_eq, decide_eq_true_eq] at hb
  obtain ⟨⟨⟨h1, h2⟩, h3⟩, h4⟩ := hb
  refine wp_region_noPanic (wp_region_any hm ?_)
  have hc : ClosedL ops (Array.replicate ops.size false) := fun k o ho hk => by
    have hk' := (Array.getElem?_eq_some_iff.1 ho).1
    simp [hk'] at hk
  have h5 := wpAny_of_L _ _ _ _ ((wpT_sound h1 h3 (fun _ _ _ _ _ h => h) t _ a _ hc (by simp) (fun _ => hS) h).1 h4)
  rw [h2] at h5
  exact h5
variable {r : Tr} {i : Nat} {o : Oper} {d : Option Tmp} {a : Act} {w : World}
theorem tr_end (h : Q .normal a w) : wpT P ops (NoPanic Q) S .nil a w := h
theorem tr_fork {x y : Tr} (h1 : wpT P ops Q S x a w) (h2 : wpT P ops Q S y a w) : wpT P ops Q S (.fork x y) a w := ⟨h1, h2⟩
theorem tr_q (ho : ops[i]? = some o) (hd : o.dst = d) (hw : Region.wanted o (yielded ops a.tmps) = true) (v : Value) (hy : ∀ w, (execOp a.eval o).run P w = .ok (.value v) w) (h : wpT P ops Q S r (a.put d v) w) : wpT P ops Q S (.q i 0 r) a w := by
  subst hd
  exact ⟨o, ho, v, Or.inl ⟨hw, fun w _ => hy w⟩, h⟩
theorem tr_s (ho : ops[i]? = some o) (hd : o.dst = d) (hw : Region.wanted o (yielded ops a.tmps) = true) (v : Value) (hy : ∀ w, S w → (execOp a.eval o).run P w = .ok (.value v) w) (h : wpT P ops Q S r (a.put d v) w) : wpT P ops Q S (.q i 1 r) a w := by
  subst hd
  exact ⟨o, ho, v, Or.inl ⟨hw, fun w hs => hy w (hs rfl)⟩, h⟩
theorem tr_off (ho : ops[i]? = some o) (hd : o.dst = d) (hw : Region.wanted o (yielded ops a.tmps) = false) (h : wpT P ops Q S r (a.put d undef) w) : wpT P ops Q S (.q i 0 r) a w := by
  subst hd
  exact ⟨o, ho, undef, Or.inr ⟨hw, rfl⟩, h⟩
theorem tr_load (ho : ops[i]? = some o) (hd : o.dst = d) (hw : Region.wanted o (yielded ops a.tmps) = true) (ty : TypeId) (x : Operand) (hop : o.op = .load ty x) (ad : Addr) (hx : a.eval x = .pointer (some ad)) (v : Value) (hy : ∀ w, S w → (loadVar ty ad).run P w = .ok v w) (h : wpT P ops Q S r (a.put d v) w) : wpT P ops Q S (.q i 1 r) a w := by
  subst hd
  exact ⟨o, ho, v, yields_load hw ty x hop ad hx (fun w hs => hy w (hs rfl)), h⟩
theorem tr_wp (ho : ops[i]? = some o) (hw : Region.wanted o (yielded ops a.tmps) = true) (h : ∀ K : Act → World → Prop, (∀ a' w', (r.more = true → S w') → wpT P ops Q S r a' w' → K a' w') → Oper.wp P o a w K Q) : wpT P ops Q S (.e i r) a w :=
  ⟨o, ho, by rw [if_pos hw]; exact h _ (fun _ _ hs hr => ⟨hs, hr⟩)⟩
theorem tr_run (ho : ops[i]? = some o) (hd : o.dst = d) (hw : Region.wanted o (yielded ops a.tmps) = true) (v : Value) (w' : World) (hrun : (execOp a.eval o).run P w = .ok (.value v) w') (hS : r.more = true → S w') (h : wpT P ops Q S r (a.put d v) w') : wpT P ops Q S (.e i r) a w := by
  subst hd
  refine tr_wp ho hw fun K hK => ?_
  unfold Oper.wp
  rw [hrun]
  exact hK _ _ hS h
theorem tr_skip (ho : ops[i]? = some o) (hd : o.dst = d) (hw : Region.wanted o (yielded ops a.tmps) = true) (w' : World) (hrun : (execOp a.eval o).run P w = .ok .skip w') (hS : r.more = true → S w') (h : wpT P ops Q S r (a.put d undef) w') : wpT P ops Q S (.e i r) a w := by
  subst hd
  refine tr_wp ho hw fun K hK => ?_
  unfold Oper.wp
  rw [hrun]
  exact hK _ _ hS h
theorem tr_call (ho : ops[i]? = some o) (hd : o.dst = d) (hw : Region.wanted o (yielded ops a.tmps) = true) {f : FuncId} (hf : Has P f) (fo : Operand) (args : Array Operand) (ts : Array TypeId) (hop : o.op = .call { callee := .value fo, args := args, argTypes := ts }) (hfo : a.eval fo = .func (.func f) #[] #[]) (vs : List Value) (hv : args.toList.map a.eval = vs)
    {R : Ending → World → Prop} (hc : Calls P f vs.toArray w R) (h : ∀ e w', R e w' → ∃ v, e = .returned v ∧ (r.more = true → S w') ∧ wpT P ops Q S r (a.put d v) w') : wpT P ops Q S (.e i r) a w := by
  subst hd
  refine tr_wp ho hw fun K hK => ?_
  unfold Oper.wp
  rw [run_call hf fo args ts hop hfo vs hv, Oper.upon_enter]
  refine hc.mono fun e w' hr => ?_
  obtain ⟨v, rfl, h1, h2⟩ := h e w' hr
  exact hK _ _ h1 h2
/-- A cut behind a region: what is known of it, whichever way it went. -/
theorem region_cut {id : Nat} {b : Bool} (R : Act → World → Prop) (h : (Code.region id ops b).wp P (fun e a w => e = .normal ∧ R a w) a w) (k : ∀ a w, R a w → Q .normal a w) : (Code.region id ops b).wp P Q a w :=
  Code.wp_mono (fun e a w ⟨he, hr⟩ => by subst he; exact k a w hr) h
end
end Go.Proofs.YtpknalpdcfjffaaGreat
