/- Part 6 of the proof: laws on memory and what functions of the program return. No conditions but those that each theorem names. -/
import Derived.Test.YtpknalpdcfjffaaR05
set_option linter.unusedVariables false
set_option linter.unusedSimpArgs false
/- The law's made. Printed by gen_law.py. -/
namespace Go.Proofs.Ytpknalpdcfjffaa
open Go Go.RowKit

theorem i64_0 : I64 0 := by unfold I64; omega
theorem i64_1 : I64 1 := by unfold I64; omega
theorem lo_0 : 0 < 18446744073709551616 := by decide
theorem sz_ana : (Try.prog.info? 44).map (·.size) = some 8 := by kernel_rfl
theorem sz_cyc : (Try.prog.info? 52).map (·.size) = some 17 := by kernel_rfl
theorem sz_cert : (Try.prog.info? 42).map (·.size) = some 4 := by kernel_rfl
theorem cyc_load (w : World) (b : Nat) (es : List Value) (hl : es.length = 17) (hr : w.rangeAt b 0 es) : (loadVar 52 ⟨b, 0, none⟩).run Try.prog w = .ok (.agg es.toArray) w := run_loadVar_mid w b 0 _ es _ hr Try.underlying52 rfl (by rw [sz_cyc, hl])
theorem rdk {α : Type} {E : El α} (hE : E.OK) {b P base : Nat} {W W' : World} {v : Value} {l : List α} (h : RdS E (fun k => nb b P k ∧ base < k) W v l) (hk : Kp b P W W') : RdS E (fun k => nb b P k ∧ base < k) W' v l := h.keep hE fun k c t f e e1 ha => hk.keeps k c t f e e1 ha.1
def smRep (r : Rep) : Prop := r.rds.length ≤ 2 ∧ r.name.size ≤ 5
def smCnts (l : List Cnt) : Prop := l.length ≤ 2 ∧ ∀ c ∈ l, c.name.size ≤ 5
def smCyc (x : Cyc) : Prop := (x.reps.length ≤ 2 ∧ ∀ r ∈ x.reps, smRep r) ∧ (x.ana.bg.length ≤ 4 ∧ x.ana.inc.length ≤ 4 ∧ x.ana.field.length ≤ 4) ∧ x.depth.length = 12 ∧ x.flow.length ≤ 1440 ∧ (x.cycles.length ≤ 2 ∧ ∀ l ∈ x.cycles, smCnts l) ∧ x.listed.length ≤ 2 ∧ ∀ s ∈ x.listed, s.size ≤ 5
def MadeIs (B b : Nat) (w : World) (e : Ending) (w' : World) : Prop := ∃ (x : Cyc) (cs : List Value), e = .returned (.agg cs.toArray) ∧ cycE.rep (w.heap.size ≤ ·) w' cs x ∧ smCyc x ∧ St w B b w'
theorem rowT_cyc : RowT 52 17 := ⟨by kernel_rfl, _, Try.underlying52, rfl⟩
set_option maxHeartbeats 16000000 in
set_option maxRecDepth 100000 in
theorem made_ok (B b : Nat) (w : World) (h : CodesIs w B b) :
    Calls Try.prog 24 #[.pointer (some ⟨b, 0, none⟩)] w (MadeIs B b w) := by
  have hle := h.le
  have hbw : Hid (b < w.heap.size) := h.lt
  have H0 := Lib.hid (Mk.new (St.start h) hle zCyc (by decide) 52 (by decide))
  clear h hle
  go_enter Try.func24, Try.ntmps24
  go_wp2_with fail
  change Hid (Mk w B b w.heap.size zCyc (w.alloc (.cells #[.int .i64 0, .int .i64 0, .int .i64 0, .slice none 0 0, .slice none 0 0, .slice none 0 0, .slice none 0 0, .int .i64 0, .int .u64 0, .int .i64 0, .int .i64 0, .int .i64 0, .int .i64 0, .slice none 0 0, .slice none 0 0, .slice none 0 0, .slice none 0 0] 52))) at H0
  generalize w.alloc (.cells #[.int .i64 0, .int .i64 0, .int .i64 0, .slice none 0 0, .slice none 0 0, .slice none 0 0, .slice none 0 0, .int .i64 0, .int .u64 0, .int .i64 0, .int .i64 0, .int .i64 0, .int .i64 0, .slice none 0 0, .slice none 0 0, .slice none 0 0, .slice none 0 0] 52) = w0 at H0 ⊢
  refine (next_ok B b 9 w0 H0.out.st.1 (by omega) (by omega)).mono ?_
  rintro e w1 ⟨x1, g1, g2, rfl, hs⟩
  have H1 := Lib.hid (H0.out.call hs)
  have HX1 : Hid (I64 x1) := by unfold Hid; unfold I64; omega
  clear hs g1 g2 H0
  go_wp2_with fail
  refine (int_ok B b w1 H1.out.st.1).mono ?_
  rintro e w2 ⟨x2, hx, rfl, hs⟩
  have H2 := Lib.hid (H1.out.call hs)
  have HX2 := Lib.hid hx
  clear hs hx H1
  go_wp2_with fail
  refine (int_ok B b w2 H2.out.st.1).mono ?_
  rintro e w3 ⟨x3, hx, rfl, hs⟩
  have H3 := Lib.hid (H2.out.call hs)
  have HX3 := Lib.hid hx
  clear hs hx H2
  go_wp2_with fail
  refine (state_ok B b w3 H3.out.st.1).mono ?_
  rintro e w4 ⟨dv, fv, dl, fl, rfl, hd1, hd2, hf1, hf2, ho1, ho2, hs⟩
  have H4 := Lib.hid (H3.out.call hs)
  have HDl := Lib.hid hd1
  have HFl := Lib.hid hf1
  have HRd1 := Lib.hid (OwnI.rd ho1 hd2 (by decide) (by decide) (by omega))
  have HRd2 := Lib.hid (OwnI.rd ho2 hf2 (by decide) (by decide) (by omega))
  have HW3 : Hid (w.heap.size < w3.heap.size) := H3.out.lt
  obtain ⟨da, dc, rfl⟩ := ho1.slice
  obtain ⟨fa, fc, rfl⟩ := ho2.slice
  clear hs hd1 hd2 hf1 hf2 ho1 ho2 H3
  go_wp2_with fail
  have HM : Hid (Cy w B b w4.heap.size ⟨x1, x2, x3, [], ⟨[], [], [], 0, 0, 0, 0, 0⟩, 1, dl, fl, [], []⟩ (.slice none 0 0) (.slice none 0 0) (.slice none 0 0) (.slice none 0 0) (.slice da dl.length dc) (.slice fa fl.length fc) (.slice none 0 0) (.slice none 0 0) (w4.alloc (.cells #[.int .i64 x1, .int .i64 x2, .int .i64 x3, .slice none 0 0, .slice none 0 0, .slice none 0 0, .slice none 0 0, .int .i64 0, .int .u64 0, .int .i64 0, .int .i64 0, .int .i64 0, .int .i64 1, .slice da dl.length dc, .slice fa fl.length fc, .slice none 0 0, .slice none 0 0] 52))) :=
    ⟨Mk.new H4.out.st H4.out.bb (cycCells ⟨x1, x2, x3, [], ⟨[], [], [], 0, 0, 0, 0, 0⟩, 1, dl, fl, [], []⟩ (.slice none 0 0) (.slice none 0 0) (.slice none 0 0) (.slice none 0 0) (.slice da dl.length dc) (.slice fa fl.length fc) (.slice none 0 0) (.slice none 0 0)) (by simp [cycCells]) 52 (by decide),
      cycR.keep ⟨HX1.out, HX2.out, HX3.out, .nil _ _ _, ⟨.nil _ _ _, .nil _ _ _, .nil _ _ _, i64_0, lo_0, i64_0, i64_0, i64_0⟩, i64_1, HRd1.out.weak intE_ok fun k hk hk2 => by
        have h1 : w3.heap.size ≤ k := hk
        have := HW3.out
        have := hbw.out
        exact ⟨⟨by omega, by omega⟩, by omega⟩, HRd2.out.weak intE_ok fun k hk hk2 => by
        have h1 : w3.heap.size ≤ k := hk
        have := HW3.out
        have := hbw.out
        exact ⟨⟨by omega, by omega⟩, by omega⟩, .nil _ _ _, .nil _ _ _⟩ (Keeps.of_below ((Below.refl _ _).alloc (Nat.le_refl _) _)), H4.out.pa.below ((Below.refl _ _).alloc (Nat.le_refl _) _), H4.out.lt, hbw.out⟩
  clear H4 HRd1 HRd2 HW3
  generalize w4.heap.size = P at HM ⊢
  generalize w4.alloc (.cells #[.int .i64 x1, .int .i64 x2, .int .i64 x3, .slice none 0 0, .slice none 0 0, .slice none 0 0, .slice none 0 0, .int .i64 0, .int .u64 0, .int .i64 0, .int .i64 0, .int .i64 0, .int .i64 1, .slice da dl.length dc, .slice fa fl.length fc, .slice none 0 0, .slice none 0 0] 52) = wM at HM ⊢
  refine (next_ok B b 3 wM HM.out.m.st.1 (by omega) (by omega)).mono ?_
  rintro e W0 ⟨n, n0, n1, rfl, hs⟩
  obtain ⟨n, rfl⟩ := Int.eq_ofNat_of_zero_le n0
  have HC0 := Lib.hid (HM.out.call hs)
  have HS := Lib.hid (Lp.start (E := repE) (T := 31) HC0.out.m)
  clear hs HM
  go_wp2_with fail
  go_loopw [4] (fun kv wr => ∃ (k : Nat) (v : Value) (l : List Rep), kv = .int .i64 k ∧ l.length + k ≤ 2 ∧ Hid (∀ r ∈ l, smRep r) ∧ Hid (Lp repE 31 w B b P (cycCells ⟨x1, x2, x3, [], ⟨[], [], [], 0, 0, 0, 0, 0⟩, 1, dl, fl, [], []⟩ v (.slice none 0 0) (.slice none 0 0) (.slice none 0 0) (.slice da dl.length dc) (.slice fa fl.length fc) (.slice none 0 0) (.slice none 0 0)) W0 v l wr)) (fun kv _ => (intOf kv).toNat)
  case atStart => exact ⟨n, _, [], rfl, by simp; omega, fun r hr => by simp at hr, HS⟩
  case round =>
    clear HS
    obtain ⟨k, v, l, rfl, hk, HSm, H0⟩ := hrel
    by_cases hk0 : 0 < k
    · have k0 : (0 : Int) < (k : Int) := by omega
      obtain ⟨va0, vc0, rfl⟩ := H0.out.row.slice
      have HL := Lib.hid hk
      clear hk
      go_upto_region 5 with fail
      refine wp_region_seqL (by kernel_rfl) (fun w' => PAt w' P (cycCells ⟨x1, x2, x3, [], ⟨[], [], [], 0, 0, 0, 0, 0⟩, 1, dl, fl, [], []⟩ (.slice va0 l.length vc0) (.slice none 0 0) (.slice none 0 0) (.slice none 0 0) (.slice da dl.length dc) (.slice fa fl.length fc) (.slice none 0 0) (.slice none 0 0))) 7 [(0, 0), (1, 1), (2, 0), (3, 2), (4, 2), (5, 2), (6, 0), (7, 2)] (by kernel_rfl) (H0.out.m.pa.drew) ?_
      refine sl_q (d := some 24) rfl rfl rfl (.pointer (some ⟨P, 3, none⟩)) (fun w => by go_simp) ?_
      simp only [Act.put, List.setIfInBounds_toArray, List.set_cons_zero, List.set_cons_succ]
      refine sl_s (d := some 25) rfl rfl rfl (.slice va0 l.length vc0) (fun w hw => by have hw0 := hw.1.at 3 rfl; simp [execOp, Act.eval, hw0, go_sem]) ?_
      simp only [Act.put, List.setIfInBounds_toArray, List.set_cons_zero, List.set_cons_succ]
      refine sl_q (d := some 26) rfl rfl rfl (.pointer (some ⟨b, 0, none⟩)) (fun w => rfl) ?_
      simp only [Act.put, List.setIfInBounds_toArray, List.set_cons_zero, List.set_cons_succ]
      refine sl_call (d := some 27) rfl rfl rfl ⟨_, Try.func21, by kernel_rfl, by kernel_rfl⟩ _ _ _ rfl rfl [.pointer (some ⟨b, 0, none⟩)] rfl (report_ok B b (wr.drew) ((H0.out.drew repE_ok).m.st.1)) ?_
      rintro e w1 ⟨r, rc, rfl, hrep, h1, h2, hs⟩
      have H1 := Lib.hid ((H0.out.drew repE_ok).call repE_ok hs)
      have HSr : Hid (smRep r) := ⟨h1, h2⟩
      have HRe : Hid (repE.rep (avR W0.heap.size (.slice va0 l.length vc0)) w1 rc r) := repE_ok.weak hrep fun k hk _ => by
        have h1 : wr.drew.heap.size ≤ k := hk
        refine ⟨Nat.le_trans (H0.out.drew repE_ok).kp.size h1, fun e => ?_⟩
        have := ((H0.out.drew repE_ok).row.lt k e).2
        omega
      clear hs hrep h1 h2
      refine ⟨_, rfl, fun _ => H1.out.m.pa, ?_⟩
      simp only [Act.put, List.setIfInBounds_toArray, List.set_cons_zero, List.set_cons_succ]
      have hre : repE.rep (avR W0.heap.size (.slice va0 l.length vc0)) (w1) rc r := HRe.out
      obtain ⟨va, wa, hrun, hr, hb⟩ := RowE.append repE_ok repT H1.out.row hre (by have := HL.out; omega) H1.out.kp.size 36
      have HA := Lib.hid (Lp.next H1.out hr hb)
      have HRun := Lib.hid hrun
      clear hrun hr hb
      refine sl_run (d := some 28) rfl rfl rfl (.slice (some ⟨(w1).heap.size, 0, none⟩) 1 1) ((w1).alloc (.cells (rc).toArray 31)) (lit_run repT _ rfl _ rc rfl (repE_ok.len hre) (repE_ok.one hre)) (fun _ => (H1.out.alloc repE_ok _).m.pa) ?_
      clear hre
      simp only [Act.put, List.setIfInBounds_toArray, List.set_cons_zero, List.set_cons_succ]
      refine sl_run (d := some 29) rfl rfl rfl va wa (run_append _ _ _ rfl _ _ rfl rfl HRun.out) (fun _ => HA.out.m.pa) ?_
      simp only [Act.put, List.setIfInBounds_toArray, List.set_cons_zero, List.set_cons_succ]
      refine sl_q (d := some 30) rfl rfl rfl (.pointer (some ⟨P, 3, none⟩)) (fun w => by go_simp) ?_
      simp only [Act.put, List.setIfInBounds_toArray, List.set_cons_zero, List.set_cons_succ]
      obtain ⟨va1, va2, va3⟩ := HA.out.row.slice
      subst va3
      have q0 := HA.out.m.pa.1.at 3 rfl
      have q1 := HA.out.m.pa.1.2.2 3 (by simp [cycCells])
      have HZ := Lib.hid (HA.out.set repE_ok 3 (.slice va1 (l ++ [r]).length va2) (by simp [cycCells]))
      clear HA
      refine sl_skip (d := none) rfl rfl rfl (wa.setCell ⟨P, 3, none⟩ (.slice va1 (l ++ [r]).length va2)) (by simp [execOp, Act.eval, q0, q1, go_sem]) (fun h => by cases h) ?_
      clear q0 q1
      simp only [Act.put, List.setIfInBounds_toArray, List.set_cons_zero, List.set_cons_succ]
      refine sl_end ?_
      have HZ1 : Hid (Lp repE 31 w B b P (cycCells ⟨x1, x2, x3, [], ⟨[], [], [], 0, 0, 0, 0, 0⟩, 1, dl, fl, [], []⟩ (.slice va1 (l ++ [r]).length va2) (.slice none 0 0) (.slice none 0 0) (.slice none 0 0) (.slice da dl.length dc) (.slice fa fl.length fc) (.slice none 0 0) (.slice none 0 0)) W0 (.slice va1 (l ++ [r]).length va2) (l ++ [r]) (wa.setCell ⟨P, 3, none⟩ (.slice va1 (l ++ [r]).length va2))) := HZ
      generalize wa.setCell ⟨P, 3, none⟩ (.slice va1 (l ++ [r]).length va2) = wz at HZ1 ⊢
      clear HZ HRun H0 H1
      have hk2 : k ≤ 2 := by have := HL.out; omega
      go_wp2_with fail
      go_roundw
      case rel => exact ⟨k - 1, _, _, by go_num, by have := HL.out; simp; omega, fun r' hr => by
        rcases List.mem_append.1 hr with hr | hr
        · exact HSm.out r' hr
        · simp at hr; subst hr; exact HSr.out, HZ1⟩
      case measure => simp [intOf]; omega
    · obtain rfl : k = 0 := by omega
      obtain ⟨va0, vc0, rfl⟩ := H0.out.row.slice
      have HSl : Hid (l.length ≤ 2) := by have := hk; unfold Hid; omega
      have HC := Lib.hid (HC0.out.put (x' := ⟨x1, x2, x3, l, ⟨[], [], [], 0, 0, 0, 0, 0⟩, 1, dl, fl, [], []⟩) H0.out.kp H0.out.m (by
        have d := HC0.out.dk H0.out.kp
        have hrd := Cy.rd (b := b) (P := P) (w := w) repE_ok (H0.out.row.rd repE_ok (by decide) (by omega)) H0.out.pb (by have := H0.out.pb; have := H0.out.m.lo; omega) HC0.out.r.lt
        exact ⟨d.1, d.2.1, d.2.2.1, hrd, d.2.2.2.2⟩))
      clear hk H0 HC0
      go_wp2_with fail
      refine (next_ok B b 5 wr HC.out.m.st.1 (by omega) (by omega)).mono ?_
      rintro e y1 ⟨j1, j0, jm, rfl, hs⟩
      obtain ⟨j1, rfl⟩ := Int.eq_ofNat_of_zero_le j0
      have HJ1 : Hid (j1 ≤ 4) := by unfold Hid; omega
      have HC1 := Lib.hid (HC.out.call hs)
      clear hs HC j0 jm
      go_wp2_with fail
      refine (vector_ok B b j1 100 100 y1 HC1.out.m.st.1 (by have := HJ1.out; omega) (by omega) (by omega) (by omega)).mono ?_
      rintro e y2 ⟨v1, l1, rfl, hl1, hb1, ho1, hs⟩
      have HC2 := Lib.hid (HC1.out.call hs)
      have HR1 := Lib.hid (Cy.rd (b := b) (P := P) (w := w) intE_ok (ho1.rd hb1 (by decide) (by decide) (by have := HJ1.out; omega)) HC1.out.m.lt HC1.out.m.st.lt HC1.out.r.lt)
      have HV1 : Hid (l1.length ≤ 4) := by have := HJ1.out; unfold Hid; omega
      obtain ⟨a1, c1, rfl⟩ := ho1.slice
      clear hs HC1 hl1 hb1 ho1 HJ1
      go_wp2_with fail
      refine (next_ok B b 5 y2 HC2.out.m.st.1 (by omega) (by omega)).mono ?_
      rintro e y3 ⟨j2, j0, jm, rfl, hs⟩
      obtain ⟨j2, rfl⟩ := Int.eq_ofNat_of_zero_le j0
      have HJ2 : Hid (j2 ≤ 4) := by unfold Hid; omega
      have HCa := Lib.hid (HC2.out.call hs)
      have HRa1 := Lib.hid (rdk intE_ok HR1.out (Kp.st (P := P) hs))
      clear hs HC2 j0 jm HR1
      go_wp2_with fail
      refine (vector_ok B b j2 100 100 y3 HCa.out.m.st.1 (by have := HJ2.out; omega) (by omega) (by omega) (by omega)).mono ?_
      rintro e y4 ⟨v2, l2, rfl, hl1, hb1, ho1, hs⟩
      have HC4 := Lib.hid (HCa.out.call hs)
      have HR1 := Lib.hid (rdk intE_ok HRa1.out (Kp.st (P := P) hs))
      have HR2 := Lib.hid (Cy.rd (b := b) (P := P) (w := w) intE_ok (ho1.rd hb1 (by decide) (by decide) (by have := HJ2.out; omega)) HCa.out.m.lt HCa.out.m.st.lt HCa.out.r.lt)
      have HV2 : Hid (l2.length ≤ 4) := by have := HJ2.out; unfold Hid; omega
      obtain ⟨a2, c2, rfl⟩ := ho1.slice
      clear hs HCa hl1 hb1 ho1 HJ2 HRa1
      go_wp2_with fail
      refine (next_ok B b 5 y4 HC4.out.m.st.1 (by omega) (by omega)).mono ?_
      rintro e y5 ⟨j3, j0, jm, rfl, hs⟩
      obtain ⟨j3, rfl⟩ := Int.eq_ofNat_of_zero_le j0
      have HJ3 : Hid (j3 ≤ 4) := by unfold Hid; omega
      have HCa := Lib.hid (HC4.out.call hs)
      have HRa1 := Lib.hid (rdk intE_ok HR1.out (Kp.st (P := P) hs))
      have HRa2 := Lib.hid (rdk intE_ok HR2.out (Kp.st (P := P) hs))
      clear hs HC4 j0 jm HR1 HR2
      go_wp2_with fail
      refine (vector_ok B b j3 100 100 y5 HCa.out.m.st.1 (by have := HJ3.out; omega) (by omega) (by omega) (by omega)).mono ?_
      rintro e y6 ⟨v3, l3, rfl, hl1, hb1, ho1, hs⟩
      have HC6 := Lib.hid (HCa.out.call hs)
      have HR1 := Lib.hid (rdk intE_ok HRa1.out (Kp.st (P := P) hs))
      have HR2 := Lib.hid (rdk intE_ok HRa2.out (Kp.st (P := P) hs))
      have HR3 := Lib.hid (Cy.rd (b := b) (P := P) (w := w) intE_ok (ho1.rd hb1 (by decide) (by decide) (by have := HJ3.out; omega)) HCa.out.m.lt HCa.out.m.st.lt HCa.out.r.lt)
      have HV3 : Hid (l3.length ≤ 4) := by have := HJ3.out; unfold Hid; omega
      obtain ⟨a3, c3, rfl⟩ := ho1.slice
      clear hs HCa hl1 hb1 ho1 HJ3 HRa1 HRa2
      go_wp2_with fail
      refine (next_ok B b 9 y6 HC6.out.m.st.1 (by omega) (by omega)).mono ?_
      rintro e y7 ⟨rd, j0, jm, rfl, hs⟩
      have HRo : Hid (I64 rd) := by unfold Hid; unfold I64; omega
      have HC7 := Lib.hid (HC6.out.call hs)
      have HRa1 := Lib.hid (rdk intE_ok HR1.out (Kp.st (P := P) hs))
      have HRa2 := Lib.hid (rdk intE_ok HR2.out (Kp.st (P := P) hs))
      have HRa3 := Lib.hid (rdk intE_ok HR3.out (Kp.st (P := P) hs))
      clear hs HC6 j0 jm HR1 HR2 HR3
      go_wp2_with (refine list_storeAgg rfl _ _ rfl P 4 rfl [.slice a1 l1.length c1, .slice a2 l2.length c2, .slice a3 l3.length c3, .int .i64 0, .int .u64 0, .int .i64 0, .int .i64 0, .int .i64 rd] rfl sz_ana (all_one rfl) (HC7.out.m.pa.thereMid 4 8 (by simp [cycCells])) ?_
                   intro y8 hy8
                   have HC8 : Hid (Cy w B b P ⟨x1, x2, x3, l, ⟨l1, l2, l3, 0, 0, 0, 0, rd⟩, 1, dl, fl, [], []⟩ (.slice va0 l.length vc0) (.slice a1 l1.length c1) (.slice a2 l2.length c2) (.slice a3 l3.length c3) (.slice da dl.length dc) (.slice fa fl.length fc) (.slice none 0 0) (.slice none 0 0) y8) := by
                     rw [hy8]
                     exact HC7.out.put (Kp.mid 4 _) (HC7.out.m.mid 4 [.slice a1 l1.length c1, .slice a2 l2.length c2, .slice a3 l3.length c3, .int .i64 0, .int .u64 0, .int .i64 0, .int .i64 0, .int .i64 rd] (by simp [cycCells])) (by
                       have d := HC7.out.dk (Kp.mid (b := b) 4 [.slice a1 l1.length c1, .slice a2 l2.length c2, .slice a3 l3.length c3, .int .i64 0, .int .u64 0, .int .i64 0, .int .i64 0, .int .i64 rd])
                       exact ⟨d.1, d.2.1, d.2.2.1, d.2.2.2.1, ⟨rdk intE_ok HRa1.out (Kp.mid 4 _), rdk intE_ok HRa2.out (Kp.mid 4 _), rdk intE_ok HRa3.out (Kp.mid 4 _), i64_0, lo_0, i64_0, i64_0, HRo.out⟩, d.2.2.2.2.2⟩)
                   clear hy8 HC7 HRa1 HRa2 HRa3)
      refine (int_ok B b y8 HC8.out.m.st.1).mono ?_
      rintro e y9 ⟨hi, hx, rfl, hs⟩
      have HC9 := Lib.hid (HC8.out.call hs)
      have HX9 := Lib.hid hx
      clear hs hx HC8
      go_wp2_with fail
      refine (int_ok B b y9 HC9.out.m.st.1).mono ?_
      rintro e y10 ⟨lo, hx, rfl, hs⟩
      have HC10 := Lib.hid (HC9.out.call hs)
      clear hs hx HC9
      go_wp2_with fail
      refine (int_ok B b y10 HC10.out.m.st.1).mono ?_
      rintro e y11 ⟨an, hx, rfl, hs⟩
      have HC11 := Lib.hid (HC10.out.call hs)
      have HX11 := Lib.hid hx
      clear hs hx HC10
      go_wp2_with fail
      refine (int_ok B b y11 HC11.out.m.st.1).mono ?_
      rintro e y12 ⟨ra, hx, rfl, hs⟩
      have HC12 := Lib.hid (HC11.out.call hs)
      have HX12 := Lib.hid hx
      clear hs hx HC11
      obtain ⟨lw, hlw, hlb⟩ := u64_nat lo
      have HLw := Lib.hid hlb
      rw [hlw]
      clear hlw hlb
      go_wp2_with (refine list_storeAgg rfl _ _ rfl P 7 rfl [.int .i64 hi, .int .u64 lw, .int .i64 an, .int .i64 ra] rfl sz_cert (all_one rfl) (HC12.out.m.pa.thereMid 7 4 (by simp [cycCells])) ?_
                   intro y13 hy
                   have HC13 : Hid (Cy w B b P ⟨x1, x2, x3, l, ⟨l1, l2, l3, hi, lw, an, ra, rd⟩, 1, dl, fl, [], []⟩ (.slice va0 l.length vc0) (.slice a1 l1.length c1) (.slice a2 l2.length c2) (.slice a3 l3.length c3) (.slice da dl.length dc) (.slice fa fl.length fc) (.slice none 0 0) (.slice none 0 0) y13) := by
                     rw [hy]
                     exact HC12.out.put (Kp.mid 7 _) (HC12.out.m.mid 7 [.int .i64 hi, .int .u64 lw, .int .i64 an, .int .i64 ra] (by simp [cycCells])) (by
                       have d := HC12.out.dk (Kp.mid (b := b) 7 [.int .i64 hi, .int .u64 lw, .int .i64 an, .int .i64 ra])
                       exact ⟨d.1, d.2.1, d.2.2.1, d.2.2.2.1, ⟨d.2.2.2.2.1.1, d.2.2.2.2.1.2.1, d.2.2.2.2.1.2.2.1, HX9.out, HLw.out, HX11.out, HX12.out, HRo.out⟩, d.2.2.2.2.2⟩)
                   clear hy HC12)
      refine (next_ok B b 3 y13 HC13.out.m.st.1 (by omega) (by omega)).mono ?_
      rintro e Wb ⟨nb2, j0, jm, rfl, hs⟩
      obtain ⟨nb2, rfl⟩ := Int.eq_ofNat_of_zero_le j0
      have HCb := Lib.hid (HC13.out.call hs)
      have HS := Lib.hid (Lp.start (E := sliE cntE) (T := 104) HCb.out.m)
      clear hs HC13
      go_wp2_with fail
      obtain ⟨wout, rfl⟩ : ∃ wout : World, wout = wr := ⟨_, rfl⟩
      go_loopw [5] (fun kv wr => ∃ (k : Nat) (v : Value) (lc : List (List Cnt)), kv = .int .i64 k ∧ lc.length + k ≤ 2 ∧ Hid (∀ u ∈ lc, smCnts u) ∧ Hid (Lp (sliE cntE) 104 w B b P (cycCells ⟨x1, x2, x3, l, ⟨l1, l2, l3, hi, lw, an, ra, rd⟩, 1, dl, fl, [], []⟩ (.slice va0 l.length vc0) (.slice a1 l1.length c1) (.slice a2 l2.length c2) (.slice a3 l3.length c3) (.slice da dl.length dc) (.slice fa fl.length fc) v (.slice none 0 0)) Wb v lc wr)) (fun kv _ => (intOf kv).toNat)
      case atStart => exact ⟨nb2, _, [], rfl, by simp; omega, fun r hr => by simp at hr, HS⟩
      case round =>
        clear HS
        obtain ⟨k, v, lc, rfl, hk, HSc, H0⟩ := hrel
        obtain ⟨vb0, vd0, rfl⟩ := H0.out.row.slice
        have HL := Lib.hid hk
        by_cases hk0 : 0 < k
        · have k0 : (0 : Int) < (k : Int) := by omega
          clear hk
          go_wp2_with fail
          refine (next_ok B b 3 wr H0.out.m.st.1 (by omega) (by omega)).mono ?_
          rintro e z1 ⟨m, j0, jm, rfl, hs⟩
          obtain ⟨m, rfl⟩ := Int.eq_ofNat_of_zero_le j0
          have HO := Lib.hid (H0.out.call (sliE_ok cntE_ok) hs)
          have HS := Lib.hid (Lp.start (E := cntE) (T := 106) HO.out.m)
          clear hs H0
          go_wp2_with fail
          obtain ⟨wo2, rfl⟩ : ∃ wo2 : World, wo2 = wr := ⟨_, rfl⟩
          go_loopw [6, 7] (fun bv kv wr => ∃ (j : Nat) (u : List Cnt), kv = .int .i64 j ∧ u.length + j ≤ 2 ∧ Hid (∀ c ∈ u, c.name.size ≤ 5) ∧ Hid (Lp cntE 106 w B b P (cycCells ⟨x1, x2, x3, l, ⟨l1, l2, l3, hi, lw, an, ra, rd⟩, 1, dl, fl, [], []⟩ (.slice va0 l.length vc0) (.slice a1 l1.length c1) (.slice a2 l2.length c2) (.slice a3 l3.length c3) (.slice da dl.length dc) (.slice fa fl.length fc) (.slice vb0 lc.length vd0) (.slice none 0 0)) z1 bv u wr)) (fun _ kv _ => (intOf kv).toNat)
          case atStart => exact ⟨m, [], rfl, by simp; omega, fun r hr => by simp at hr, HS⟩
          case round =>
            clear HS
            obtain ⟨j, u, rfl, hj, HSu, HI⟩ := hrel
            obtain ⟨ia, ic, rfl⟩ := HI.out.row.slice
            have HJ := Lib.hid hj
            by_cases hj0 : 0 < j
            · have k1 : (0 : Int) < (j : Int) := by omega
              clear hj
              go_wp2_with fail
              refine (name_ok B b wr HI.out.m.st.1).mono ?_
              rintro e z2 ⟨nm, hx, rfl, hs⟩
              have HI2 := Lib.hid (HI.out.call cntE_ok hs)
              have HNm := Lib.hid hx
              clear hs hx HI
              go_wp2_with fail
              refine (next_ok B b 9 z2 HI2.out.m.st.1 (by omega) (by omega)).mono ?_
              rintro e z3 ⟨tot, j0, jm, rfl, hs⟩
              have HI3 := Lib.hid (HI2.out.call cntE_ok hs)
              have HTo : Hid (I64 tot) := by unfold Hid; unfold I64; omega
              clear hs j0 jm HI2
              go_wp2_with fail
              refine (int_ok B b z3 HI3.out.m.st.1).mono ?_
              rintro e z4 ⟨rej, hx, rfl, hs⟩
              have HI4 := Lib.hid (HI3.out.call cntE_ok hs)
              have HRj := Lib.hid hx
              clear hs hx HI3
              have hre : cntE.rep (avR z1.heap.size (.slice ia u.length ic)) z4 [.string nm, .int .i64 tot, .int .i64 rej] ⟨nm, tot, rej⟩ := ⟨rfl, Nat.le_trans HNm.out (by decide), HTo.out, HRj.out⟩
              obtain ⟨va, wa, hrun, hr, hb⟩ := RowE.append cntE_ok cntT HI4.out.row hre (by have := HJ.out; omega) HI4.out.kp.size 104
              have HA := Lib.hid (Lp.next HI4.out hr hb)
              have HRun := Lib.hid hrun
              clear hre hrun hr hb HI4
              have hj2 : j ≤ 2 := by have := HJ.out; omega
              go_wp2_with (first
                | (refine list_lit cntT rfl _ rfl [.string nm, .int .i64 tot, .int .i64 rej] rfl rfl (all_one rfl) ?_)
                | (at_builtin; refine wpList_append_run rfl _ _ _ rfl _ _ _ _ rfl rfl HRun.out ?_; clear HRun))
              go_roundw
              case rel => exact ⟨j - 1, _, by go_num, by have := HJ.out; simp; omega, fun c hc => by
                rcases List.mem_append.1 hc with hc | hc
                · exact HSu.out c hc
                · simp at hc; subst hc; exact HNm.out, HA⟩
              case measure => simp [intOf]; omega
            · obtain rfl : j = 0 := by omega
              have HSl2 : Hid (smCnts u) := ⟨by omega, HSu.out⟩
              have hO2 : Lp (sliE cntE) 104 w B b P (cycCells ⟨x1, x2, x3, l, ⟨l1, l2, l3, hi, lw, an, ra, rd⟩, 1, dl, fl, [], []⟩ (.slice va0 l.length vc0) (.slice a1 l1.length c1) (.slice a2 l2.length c2) (.slice a3 l3.length c3) (.slice da dl.length dc) (.slice fa fl.length fc) (.slice vb0 lc.length vd0) (.slice none 0 0)) Wb (.slice vb0 lc.length vd0) lc wr := HO.out.kept' (sliE_ok cntE_ok) HI.out.kp HI.out.m
              have hre : (sliE cntE).rep (avR Wb.heap.size (.slice vb0 lc.length vd0)) wr [.slice ia u.length ic] u := ⟨_, rfl, (HI.out.row.rd cntE_ok (by decide) (by omega)).weak cntE_ok fun k hk _ => by
                have h1 : z1.heap.size ≤ k := hk
                refine ⟨Nat.le_trans HO.out.kp.size h1, fun e => ?_⟩
                have := (HO.out.row.lt k e).2
                omega⟩
              obtain ⟨va, wa, hrun, hr, hb⟩ := RowE.append (sliE_ok cntE_ok) cntsT hO2.row hre (by have := HL.out; omega) hO2.kp.size 47
              have HA := Lib.hid (Lp.next hO2 hr hb)
              have HRun := Lib.hid hrun
              have q15 : wr.cell? ⟨P, 15, none⟩ = some (.slice vb0 lc.length vd0) := hO2.m.pa.1.at 15 rfl
              clear hre hrun hr hb hO2 HI hj HO HSu
              obtain ⟨va1, va2, va3⟩ := HA.out.row.slice
              subst va3
              have q0 := HA.out.m.pa.1.at 15 rfl
              have q1 := HA.out.m.pa.1.2.2 15 (by simp [cycCells])
              go_wp2_with (first
                | (refine list_lit cntsT rfl _ rfl [.slice ia u.length ic] rfl rfl (all_one rfl) ?_)
                | (at_builtin; refine wpList_append_run rfl _ _ _ rfl _ _ _ _ rfl rfl HRun.out ?_; clear HRun)
                | (refine list_skipE rfl _ _ rfl (wa.setCell ⟨P, 15, none⟩ (.slice va1 (lc ++ [u]).length va2)) (by simp [execOp, Act.eval, q0, q1, go_sem]) ?_
                   intro wz hwz
                   have HZ1 : Hid (Lp (sliE cntE) 104 w B b P (cycCells ⟨x1, x2, x3, l, ⟨l1, l2, l3, hi, lw, an, ra, rd⟩, 1, dl, fl, [], []⟩ (.slice va0 l.length vc0) (.slice a1 l1.length c1) (.slice a2 l2.length c2) (.slice a3 l3.length c3) (.slice da dl.length dc) (.slice fa fl.length fc) (.slice va1 (lc ++ [u]).length va2) (.slice none 0 0)) Wb (.slice va1 (lc ++ [u]).length va2) (lc ++ [u]) wz) := by
                     rw [hwz]
                     exact HA.out.set (sliE_ok cntE_ok) 15 (.slice va1 (lc ++ [u]).length va2) (by simp [cycCells])
                   clear hwz q0 q1 q15 HA
                   have hk2 : k ≤ 2 := by have := HL.out; omega)
                | fail)
              go_roundw
              case rel => exact ⟨k - 1, _, _, by go_num, by have := HL.out; simp; omega, fun r' hr => by
                rcases List.mem_append.1 hr with hr | hr
                · exact HSc.out r' hr
                · simp at hr; subst hr; exact HSl2.out, HZ1⟩
              case measure => simp [intOf]; omega
        · obtain rfl : k = 0 := by omega
          have HSl3 : Hid (lc.length ≤ 2) := by unfold Hid; omega
          have HCd := Lib.hid (HCb.out.put (x' := ⟨x1, x2, x3, l, ⟨l1, l2, l3, hi, lw, an, ra, rd⟩, 1, dl, fl, lc, []⟩) H0.out.kp H0.out.m (by
            have d := HCb.out.dk H0.out.kp
            have hrd := Cy.rd (b := b) (P := P) (w := w) (sliE_ok cntE_ok) (H0.out.row.rd (sliE_ok cntE_ok) (by decide) (by omega)) H0.out.pb (by have := H0.out.pb; have := H0.out.m.lo; omega) HCb.out.r.lt
            exact ⟨d.1, d.2.1, d.2.2.1, d.2.2.2.1, d.2.2.2.2.1, d.2.2.2.2.2.1, d.2.2.2.2.2.2.1, d.2.2.2.2.2.2.2.1, hrd, d.2.2.2.2.2.2.2.2.2⟩))
          clear hk H0 HCb HL
          go_wp2_with fail
          refine (next_ok B b 3 wr HCd.out.m.st.1 (by omega) (by omega)).mono ?_
          rintro e Wd ⟨nd, j0, jm, rfl, hs⟩
          obtain ⟨nd, rfl⟩ := Int.eq_ofNat_of_zero_le j0
          have HCe := Lib.hid (HCd.out.call hs)
          have HS := Lib.hid (Lp.start (E := strE) (T := 9) HCe.out.m)
          clear hs HCd
          go_wp2_with fail
          obtain ⟨wo3, rfl⟩ : ∃ wo3 : World, wo3 = wr := ⟨_, rfl⟩
          go_loopw [8] (fun kv wr => ∃ (k : Nat) (v : Value) (ls : List ByteArray), kv = .int .i64 k ∧ ls.length + k ≤ 2 ∧ Hid (∀ s ∈ ls, s.size ≤ 5) ∧ Hid (Lp strE 9 w B b P (cycCells ⟨x1, x2, x3, l, ⟨l1, l2, l3, hi, lw, an, ra, rd⟩, 1, dl, fl, lc, []⟩ (.slice va0 l.length vc0) (.slice a1 l1.length c1) (.slice a2 l2.length c2) (.slice a3 l3.length c3) (.slice da dl.length dc) (.slice fa fl.length fc) (.slice vb0 lc.length vd0) v) Wd v ls wr)) (fun kv _ => (intOf kv).toNat)
          case atStart => exact ⟨nd, _, [], rfl, by simp; omega, fun r hr => by simp at hr, HS⟩
          case round =>
            clear HS
            obtain ⟨k, v, ls, rfl, hk, HSt, H0⟩ := hrel
            obtain ⟨ve0, vf0, rfl⟩ := H0.out.row.slice
            have HL := Lib.hid hk
            by_cases hk0 : 0 < k
            · have k0 : (0 : Int) < (k : Int) := by omega
              clear hk
              go_upto_region 20 with fail
              refine wp_region_seqL (by kernel_rfl) (fun w' => PAt w' P (cycCells ⟨x1, x2, x3, l, ⟨l1, l2, l3, hi, lw, an, ra, rd⟩, 1, dl, fl, lc, []⟩ (.slice va0 l.length vc0) (.slice a1 l1.length c1) (.slice a2 l2.length c2) (.slice a3 l3.length c3) (.slice da dl.length dc) (.slice fa fl.length fc) (.slice vb0 lc.length vd0) (.slice ve0 ls.length vf0))) 9 [(0, 0), (1, 0), (2, 1), (3, 0), (4, 2), (5, 2), (6, 2), (7, 0), (8, 0), (9, 2)] (by kernel_rfl) (H0.out.m.pa.drew) ?_
              refine sl_q (d := some 96) rfl rfl rfl (.pointer (some ⟨P, 15, none⟩)) (fun w => by go_simp) ?_
              simp only [Act.put, List.setIfInBounds_toArray, List.set_cons_zero, List.set_cons_succ]
              refine sl_q (d := some 97) rfl rfl rfl (.pointer (some ⟨P, 16, none⟩)) (fun w => by go_simp) ?_
              simp only [Act.put, List.setIfInBounds_toArray, List.set_cons_zero, List.set_cons_succ]
              refine sl_s (d := some 98) rfl rfl rfl (.slice ve0 ls.length vf0) (fun w hw => by have hw0 := hw.1.at 16 rfl; simp [execOp, Act.eval, hw0, go_sem]) ?_
              simp only [Act.put, List.setIfInBounds_toArray, List.set_cons_zero, List.set_cons_succ]
              refine sl_q (d := some 99) rfl rfl rfl (.pointer (some ⟨b, 0, none⟩)) (fun w => rfl) ?_
              simp only [Act.put, List.setIfInBounds_toArray, List.set_cons_zero, List.set_cons_succ]
              refine sl_call (d := some 100) rfl rfl rfl ⟨_, Try.func22, by kernel_rfl, by kernel_rfl⟩ _ _ _ rfl rfl [.pointer (some ⟨b, 0, none⟩)] rfl (name_ok B b (wr.drew) ((H0.out.drew strE_ok).m.st.1)) ?_
              rintro e w1 ⟨y1, hx, rfl, hs⟩
              have H1 := Lib.hid ((H0.out.drew strE_ok).call strE_ok hs)
              have HY1 := Lib.hid hx
              clear hs hx
              refine ⟨_, rfl, fun _ => H1.out.m.pa, ?_⟩
              simp only [Act.put, List.setIfInBounds_toArray, List.set_cons_zero, List.set_cons_succ]
              have hre : strE.rep (avR Wd.heap.size (.slice ve0 ls.length vf0)) (w1) [.string y1] y1 := ⟨rfl, Nat.le_trans HY1.out (by decide)⟩
              obtain ⟨va, wa, hrun, hr, hb⟩ := RowE.append strE_ok strT H1.out.row hre (by have := HL.out; omega) H1.out.kp.size 48
              have HA := Lib.hid (Lp.next H1.out hr hb)
              have HRun := Lib.hid hrun
              clear hrun hr hb
              refine sl_run (d := some 101) rfl rfl rfl (.slice (some ⟨(w1).heap.size, 0, none⟩) 1 1) ((w1).alloc (.cells ([.string y1]).toArray 9)) (lit_run strT _ rfl _ [.string y1] rfl (strE_ok.len hre) (strE_ok.one hre)) (fun _ => (H1.out.alloc strE_ok _).m.pa) ?_
              clear hre
              simp only [Act.put, List.setIfInBounds_toArray, List.set_cons_zero, List.set_cons_succ]
              refine sl_run (d := some 102) rfl rfl rfl va wa (run_append _ _ _ rfl _ _ rfl rfl HRun.out) (fun _ => HA.out.m.pa) ?_
              simp only [Act.put, List.setIfInBounds_toArray, List.set_cons_zero, List.set_cons_succ]
              refine sl_q (d := some 103) rfl rfl rfl (.pointer (some ⟨P, 15, none⟩)) (fun w => by go_simp) ?_
              simp only [Act.put, List.setIfInBounds_toArray, List.set_cons_zero, List.set_cons_succ]
              refine sl_q (d := some 104) rfl rfl rfl (.pointer (some ⟨P, 16, none⟩)) (fun w => by go_simp) ?_
              simp only [Act.put, List.setIfInBounds_toArray, List.set_cons_zero, List.set_cons_succ]
              obtain ⟨va1, va2, va3⟩ := HA.out.row.slice
              subst va3
              have q0 := HA.out.m.pa.1.at 16 rfl
              have q1 := HA.out.m.pa.1.2.2 16 (by simp [cycCells])
              have HZ := Lib.hid (HA.out.set strE_ok 16 (.slice va1 (ls ++ [y1]).length va2) (by simp [cycCells]))
              clear HA
              refine sl_skip (d := none) rfl rfl rfl (wa.setCell ⟨P, 16, none⟩ (.slice va1 (ls ++ [y1]).length va2)) (by simp [execOp, Act.eval, q0, q1, go_sem]) (fun h => by cases h) ?_
              clear q0 q1
              simp only [Act.put, List.setIfInBounds_toArray, List.set_cons_zero, List.set_cons_succ]
              refine sl_end ?_
              have HZ1 : Hid (Lp strE 9 w B b P (cycCells ⟨x1, x2, x3, l, ⟨l1, l2, l3, hi, lw, an, ra, rd⟩, 1, dl, fl, lc, []⟩ (.slice va0 l.length vc0) (.slice a1 l1.length c1) (.slice a2 l2.length c2) (.slice a3 l3.length c3) (.slice da dl.length dc) (.slice fa fl.length fc) (.slice vb0 lc.length vd0) (.slice va1 (ls ++ [y1]).length va2)) Wd (.slice va1 (ls ++ [y1]).length va2) (ls ++ [y1]) (wa.setCell ⟨P, 16, none⟩ (.slice va1 (ls ++ [y1]).length va2))) := HZ
              generalize wa.setCell ⟨P, 16, none⟩ (.slice va1 (ls ++ [y1]).length va2) = wz at HZ1 ⊢
              clear HZ HRun H0 H1
              have hk2 : k ≤ 2 := by have := HL.out; omega
              go_wp2_with fail
              go_roundw
              case rel => exact ⟨k - 1, _, _, by go_num, by have := HL.out; simp; omega, fun r' hr => by
                rcases List.mem_append.1 hr with hr | hr
                · exact HSt.out r' hr
                · simp at hr; subst hr; exact HY1.out, HZ1⟩
              case measure => simp [intOf]; omega
            · obtain rfl : k = 0 := by omega
              have HSl4 : Hid (ls.length ≤ 2) := by unfold Hid; omega
              have HCf := Lib.hid (HCe.out.put (x' := ⟨x1, x2, x3, l, ⟨l1, l2, l3, hi, lw, an, ra, rd⟩, 1, dl, fl, lc, ls⟩) H0.out.kp H0.out.m (by
                have d := HCe.out.dk H0.out.kp
                have hrd := Cy.rd (b := b) (P := P) (w := w) strE_ok (H0.out.row.rd strE_ok (by decide) (by omega)) H0.out.pb (by have := H0.out.pb; have := H0.out.m.lo; omega) HCe.out.r.lt
                exact ⟨d.1, d.2.1, d.2.2.1, d.2.2.2.1, d.2.2.2.2.1, d.2.2.2.2.2.1, d.2.2.2.2.2.2.1, d.2.2.2.2.2.2.2.1, d.2.2.2.2.2.2.2.2.1, hrd⟩))
              clear hk H0 HCe HL
              go_wp2_with (first
                | (refine list_loadAgg (cyc_load _ P (cycCells ⟨x1, x2, x3, l, ⟨l1, l2, l3, hi, lw, an, ra, rd⟩, 1, dl, fl, lc, ls⟩ (.slice va0 l.length vc0) (.slice a1 l1.length c1) (.slice a2 l2.length c2) (.slice a3 l3.length c3) (.slice da dl.length dc) (.slice fa fl.length fc) (.slice vb0 lc.length vd0) (.slice ve0 ls.length vf0)) rfl HCf.out.m.pa.1.range) rfl _ rfl rfl ?_)
                | (refine list_storeAgg rfl _ _ rfl w.heap.size 0 rfl (cycCells ⟨x1, x2, x3, l, ⟨l1, l2, l3, hi, lw, an, ra, rd⟩, 1, dl, fl, lc, ls⟩ (.slice va0 l.length vc0) (.slice a1 l1.length c1) (.slice a2 l2.length c2) (.slice a3 l3.length c3) (.slice da dl.length dc) (.slice fa fl.length fc) (.slice vb0 lc.length vd0) (.slice ve0 ls.length vf0)) rfl sz_cyc (all_one rfl) (HCf.out.r.1.there (n := 17) (by decide)) ?_; intro wz hwz)
                | fail)
              have hpz : PAt wz w.heap.size (cycCells ⟨x1, x2, x3, l, ⟨l1, l2, l3, hi, lw, an, ra, rd⟩, 1, dl, fl, lc, ls⟩ (.slice va0 l.length vc0) (.slice a1 l1.length c1) (.slice a2 l2.length c2) (.slice a3 l3.length c3) (.slice da dl.length dc) (.slice fa fl.length fc) (.slice vb0 lc.length vd0) (.slice ve0 ls.length vf0)) := by
                rw [hwz]; exact HCf.out.r.setCells _ rfl
              refine ret_row rfl _ _ hpz.1 rowT_cyc rfl rfl ?_
              have hk8 : KeptBut w.heap.size wr wz := by rw [hwz]; exact setCells_kept _ _ _ _
              refine ⟨⟨x1, x2, x3, l, ⟨l1, l2, l3, hi, lw, an, ra, rd⟩, 1, dl, fl, lc, ls⟩, _, rfl, ⟨_, _, _, _, _, _, _, _, rfl, cycR.weak (HCf.out.d.keep (hk8.keeps (by omega))) fun k hk _ => Nat.le_of_lt hk.2⟩, ⟨⟨HSl.out, HSm.out⟩, ⟨HV1.out, HV2.out, HV3.out⟩, HDl.out, HFl.out, ⟨HSl3.out, HSc.out⟩, HSl4.out, HSt.out⟩, ?_⟩
              rw [hwz]
              exact St.setCells (Nat.le_refl _) (by have := hbw.out; omega) (by have := hbw.out; have := HCf.out.m.bb; omega) _ _ HCf.out.m.st
end Go.Proofs.Ytpknalpdcfjffaa
/- store.number, store.text, store.counts, over any walker. -/
namespace Go.Proofs.Ytpknalpdcfjffaa
open Go Go.RowKit

section
variable {σ : Type} {k : Wk σ}
theorem WPost.of {K : WkM k} {α : Type} {E : El α} {q : σ × α} {p o : Nat} {cs : List Value} {av : Nat → Prop} {w w' : World} (h : WPost K E q p o cs av w w') : WPost K E q p o cs av w w' := h
set_option maxHeartbeats 16000000 in
set_option maxRecDepth 100000 in
theorem number_walks (K : WkM k) (hK : K.OK) : Walks K 65 K.recv [] intE k.int := by
  intro s x w p o cs es av h1 h2 h3 h4 h5 h6 h7 h8
  obtain ⟨fi, mi, wi⟩ := hK.int
  have HM := Lib.hid mi
  have HC := Lib.hid (wi s x w p o cs es av h1 h2 h3 h4 h5 h6 h7 h8)
  clear h1 h4 h5 h6 h7 h8 hK mi
  go_enter Try.func65, Try.ntmps65
  go_wp2_with (refine wpList_invoke rfl HM.out.b _ _ _ rfl rfl [.pointer (some ⟨p, o, none⟩)] rfl HC.out ?_; intro e w2 hst; refine ⟨_, hst.1, ?_⟩)
  have HR := Lib.hid hst.2
  clear hst
  try go_wp2_with fail
  go_end0
  exact ⟨rfl, HR.out⟩
set_option maxHeartbeats 16000000 in
set_option maxRecDepth 100000 in
theorem text_walks (K : WkM k) (hK : K.OK) : Walks K 69 K.recv [] strE k.text := by
  intro s x w p o cs es av h1 h2 h3 h4 h5 h6 h7 h8
  obtain ⟨fi, mi, wi⟩ := hK.text
  have HM := Lib.hid mi
  have HC := Lib.hid (wi s x w p o cs es av h1 h2 h3 h4 h5 h6 h7 h8)
  clear h1 h4 h5 h6 h7 h8 hK mi
  go_enter Try.func69, Try.ntmps69
  go_wp2_with (refine wpList_invoke rfl HM.out.b _ _ _ rfl rfl [.pointer (some ⟨p, o, none⟩)] rfl HC.out ?_; intro e w2 hst; refine ⟨_, hst.1, ?_⟩)
  have HR := Lib.hid hst.2
  clear hst
  try go_wp2_with fail
  go_end0
  exact ⟨rfl, HR.out⟩
end
end Go.Proofs.Ytpknalpdcfjffaa
/- synoptic/store.slice[int], over any walker. Printed by gen_slices.py. -/
namespace Go.Proofs.Ytpknalpdcfjffaa
open Go Go.RowKit

section
variable {σ : Type} {k : Wk σ}
set_option maxHeartbeats 16000000 in
set_option maxRecDepth 100000 in
theorem slice_int (K : WkM k) (hK : K.OK) : Walks K 64 K.recv [.func (.func 65) #[] #[]] (sliE intE) (k.slice k.int 0) := by
  intro s l w p o cs es av h1 h2 h3 h4 h5 h6 h7 h8
  have HK := Lib.hid hK
  have HEo := Lib.hid intE_ok
  have HTo := Lib.hid intT
  have HMo := Lib.hid HK.out.mono.int
  have HWE := Lib.hid (number_walks K hK)
  obtain ⟨fc, mc, wc⟩ := hK.count
  have HMc := Lib.hid mc
  obtain ⟨v, rfl, hr⟩ := h6
  obtain ⟨a, c, rfl⟩ := hr.slice
  have HLl := Lib.hid hr.le
  have HRd := Lib.hid hr
  have HB : Hid (K.b < w.heap.size) := (hK.lt h1).2
  have HP : Hid (p < w.heap.size) := h4.lt
  have HAv := Lib.hid h7
  have HPA := Lib.hid h4
  have hlo := h5.le (by simp)
  have HO : Hid (o < cs.length) := by unfold Hid; simp at hlo; omega
  have HCs : Hid (cs[o]? = some (.slice a l.length c)) := h5 0 (by simp)
  have HCs2 := Lib.hid HCs.out
  have HC : Hid (w.drew.cell? ⟨p, o, none⟩ = some (.slice a l.length c)) := h4.drew.1.at o HCs.out
  have HS0 := Lib.hid h1
  have HSz := Lib.hid h8
  clear hr h1 h4 h5 h7 h8 hlo mc
  unfold Wk.slice at HSz
  go_enter Try.func64, Try.ntmps64
  try go_wp2_with fail
  refine wp_region_seq (by kernel_rfl) (fun w' => w'.cell? ⟨p, o, none⟩ = some (.slice a l.length c)) [(0, true), (1, true), (2, true), (3, true), (4, true), (5, true), (6, true), (7, true), (8, false), (9, true)] (by kernel_rfl) (HC.out) ?_
  refine seq_q (d := some 10) rfl rfl rfl (K.recv) (fun w hw => rfl) ?_
  simp only [Act.put, List.setIfInBounds_toArray, List.set_cons_zero, List.set_cons_succ]
  refine seq_q (d := some 11) rfl rfl rfl (.pointer (some ⟨p, o, none⟩)) (fun w hw => rfl) ?_
  simp only [Act.put, List.setIfInBounds_toArray, List.set_cons_zero, List.set_cons_succ]
  refine seq_q (d := some 12) rfl rfl rfl (.pointer (some ⟨p, o, none⟩)) (fun w hw => rfl) ?_
  simp only [Act.put, List.setIfInBounds_toArray, List.set_cons_zero, List.set_cons_succ]
  refine seq_q (d := some 13) rfl rfl rfl (.slice a l.length c) (fun w hw => by simp [execOp, Act.eval, hw, go_sem]) ?_
  simp only [Act.put, List.setIfInBounds_toArray, List.set_cons_zero, List.set_cons_succ]
  refine seq_q (d := some 14) rfl rfl rfl (.int .i64 l.length) (fun w hw => by simp [execOp, Act.eval, go_sem]) ?_
  simp only [Act.put, List.setIfInBounds_toArray, List.set_cons_zero, List.set_cons_succ]
  refine seq_q (d := some 15) rfl rfl rfl (.func (.method "synoptic/store.count") #[K.recv] #[]) (fun w hw => run_makeFunc (.tmp 10) rfl (K.recv) rfl w) ?_
  simp only [Act.put, List.setIfInBounds_toArray, List.set_cons_zero, List.set_cons_succ]
  refine seq_q (d := some 16) rfl rfl rfl (.func (.method "synoptic/store.count") #[K.recv] #[]) (fun w hw => run_nilMethod HMc.out.ahead (.tmp 15) rfl rfl w) ?_
  simp only [Act.put, List.setIfInBounds_toArray, List.set_cons_zero, List.set_cons_succ]
  refine seq_q (d := some 17) rfl rfl rfl (K.recv) (fun w hw => rfl) ?_
  simp only [Act.put, List.setIfInBounds_toArray, List.set_cons_zero, List.set_cons_succ]
  refine seq_invoke (d := some 18) rfl rfl rfl HMc.out.b _ _ _ rfl rfl [.int .i64 l.length] rfl (wc s l.length w.drew (HK.out.stable HS0.out (Quiet.drew _)) HLl.out (Nat.le_trans (Wk.Mono.run HMo.out _ _ _ _) HSz.out)) ?_
  rintro e w1 ⟨rfl, hn, hst, hf⟩
  have HW : Hid (WS K p (k.count s l.length).1 cs w w1) := ⟨hst, (Fr.drew w).trans hf.any, HPA.out.drew.keeps hf.keeps ⟨h3, h3⟩⟩
  have HC1 : Hid (w1.cell? ⟨p, o, none⟩ = some (.slice a l.length c)) := HW.out.pa.1.at o HCs.out
  refine ⟨_, rfl, HC1.out, ?_⟩
  simp only [Act.put, List.setIfInBounds_toArray, List.set_cons_zero, List.set_cons_succ]
  refine seq_q (d := some 6) rfl rfl rfl (.int .i64 (k.count s l.length).2) (fun w hw => rfl) ?_
  simp only [Act.put, List.setIfInBounds_toArray, List.set_cons_zero, List.set_cons_succ]
  refine seq_end ?_
  obtain ⟨s1, hs1⟩ : ∃ s1, s1 = (k.count s l.length).1 := ⟨_, rfl⟩
  obtain ⟨n, hn1⟩ : ∃ n, n = (k.count s l.length).2 := ⟨_, rfl⟩
  have HFin : Hid (k.slice k.int 0 s l = runE k.int 0 s1 l n) := by unfold Hid Wk.slice; rw [hs1, hn1]
  rw [← hs1] at HW
  rw [← hn1] at hn ⊢
  have HSz1 : Hid (k.sz (runE k.int 0 s1 l n).1 ≤ 10000000) := by rw [← HFin.out]; exact HSz.out
  have HN6 : Hid (n ≤ 1000000) := hn
  have n0 : (n : Int) ≤ 1000000 := by omega
  have HLs : Hid (SlS K intE _ k.int 0 s1 l p cs av w 0 (.slice none 0 0) w1) := SlS.start (T := 3) HW.out
  clear HW HC1 HC hst hf hn hs1 hn1 HSz HCs
  go_wp2_with fail
  go_loopw [20, 7] (fun kv lv wr => ∃ (i : Nat) (ov : Value), ov = lv ∧ kv = .int .i64 i ∧ i ≤ n ∧ Hid (SlS K intE 3 k.int 0 s1 l p cs av w i ov wr)) (fun kv _ _ => (2000000 - intOf kv).toNat)
  case atStart => exact ⟨0, _, rfl, rfl, by omega, HLs⟩
  case round =>
    clear HLs
    obtain ⟨i, ov, rfl, rfl, hi, hs⟩ := hrel
    by_cases hin : i < n
    · have i0 : (i : Int) < (n : Int) := by omega
      have HSi : Hid (k.sz (k.int (runE k.int 0 s1 l i).1 (l.getD i 0)).1 ≤ 10000000) := Nat.le_trans (Wk.Mono.run_le HMo.out 0 s1 l (i + 1) n (by omega)) HSz1.out
      go_upto_region 6 with fail
      have hbx : Below wr.heap.size wr (wr.alloc (.cells #[.int .i64 0] 3)) := (Below.refl _ _).alloc (Nat.le_refl _) _
      have hsx : wr.heap.size < (wr.alloc (.cells #[.int .i64 0] 3)).heap.size := by simp
      have HX : Hid (PAt (wr.alloc (.cells #[.int .i64 0] 3)) wr.heap.size [.int .i64 0]) := PAt.new wr [.int .i64 0] (by simp) _ HTo.out.ne rfl
      generalize wr.alloc (.cells #[.int .i64 0] 3) = wx at hbx hsx HX ⊢
      have HWx := Lib.hid (hs.out.ws.new HK.out hbx)
      have hcx : wx.cell? ⟨p, o, none⟩ = some (.slice a l.length c) := HWx.out.pa.1.at o HCs2.out
      have HBx := Lib.hid hbx
      have HSx := Lib.hid hsx
      have HXb : Hid (K.base ≤ wr.heap.size ∧ wr.heap.size ≠ K.b ∧ w.heap.size ≤ wr.heap.size) := by
        have h1 := hs.out.ws.fr.size
        have h2 := HB.out
        have h3 := (HK.out.lt hs.out.ws.st).1
        unfold Hid; omega
      clear hbx hsx
      by_cases hil : i < l.length
      · have i1 : (i : Int) < (l.length : Int) := by omega
        obtain ⟨ab, ao, es, rfl, hrep, hrg⟩ := ((HRd.out.in HEo.out).keep HEo.out (HWx.out.fr.keeps.mono fun g _ hg => HAv.out g hg.1)).at HEo.out i hil
        have hel := HEo.out.len hrep
        have HRg : Hid (wx.rangeAt ab (ao + i) es) := by
          have h : ao + i * intE.n = ao + i := by show ao + i * 1 = _; omega
          unfold Hid; rw [← h]; exact hrg
        have HEl := Lib.hid hel
        have HRp0 := Lib.hid hrep
        have HRo := Lib.hid (HEo.out.one hrep)
        clear hrep hrg hel
        go_wp2_with (first
          | (refine list_load HTo.out rfl _ rfl ab (ao + i) rfl es HEl.out HRg.out ?_)
          | (refine list_store HTo.out rfl _ _ rfl wr.heap.size rfl es rfl HEl.out HRo.out (HX.out.1.there (by simp)) ?_))
        have hap := apartR_setCells wr.heap.size es 0 wx
        have HY : Hid (K.St (runE k.int 0 s1 l i).1 (wx.setCells wr.heap.size 0 es) ∧ K.base ≤ wr.heap.size ∧ wr.heap.size ≠ K.b ∧ PAt (wx.setCells wr.heap.size 0 es) wr.heap.size es ∧ intE.rep (fun g => av g ∧ g < w.heap.size) (wx.setCells wr.heap.size 0 es) es (l.getD i 0) ∧ (∀ g, av g ∧ g < w.heap.size → g ≠ K.b ∧ g ≠ wr.heap.size) ∧ Below wr.heap.size wr (wx.setCells wr.heap.size 0 es) ∧ wr.heap.size < (wx.setCells wr.heap.size 0 es).heap.size) := by
          refine ⟨HK.out.stable HWx.out.st (HX.out.quietR HXb.out.1 HXb.out.2.1 hap), HXb.out.1, HXb.out.2.1, HX.out.setCells es (by rw [HEl.out]; rfl), ?_, fun g hg => ⟨(HAv.out g hg.1).1, by have := HXb.out.2.2; omega⟩, HBx.out.trans (hap.below (Nat.le_refl _)), by rw [hap.2.2.2.1]; exact HSx.out⟩
          have e : l.getD i 0 = l[i] := by simp [hil]
          rw [e]
          exact HEo.out.keep HRp0.out fun g c t f _ _ hg => hap.2.2.2.2 g (by have := HXb.out.2.2; omega)
        generalize wx.setCells wr.heap.size 0 es = wy at HY hap ⊢
        clear hap HRg HEl HRp0 HRo HX HWx HBx HSx hcx
        refine (HWE.out (runE k.int 0 s1 l i).1 (l.getD i 0) wy wr.heap.size 0 es es (fun g => av g ∧ g < w.heap.size) HY.out.1 HY.out.2.1 HY.out.2.2.1 HY.out.2.2.2.1 (fun j hj => by rw [Nat.zero_add]) HY.out.2.2.2.2.1 HY.out.2.2.2.2.2.1 HSi.out).mono ?_
        rintro e w2 ⟨rfl, hst, hf, es', hpa, hrep⟩
        have hes' : es'.length = 1 := HEo.out.len hrep
        have hes : es.length = 1 := HEo.out.len HY.out.2.2.2.2.1
        rw [putL_whole (by rw [hes', hes])] at hpa
        have HAp := Lib.hid (hs.out.next HK.out HEo.out HTo.out HB.out HP.out h3 h2 HAv.out HY.out.2.2.2.2.2.2.1 HY.out.2.2.2.2.2.2.2 hst hf hrep (by have := HN6.out; omega) 37)
        have HPx := Lib.hid hpa
        have HRp := Lib.hid (HEo.out.one hrep)
        have HLn := Lib.hid hes'
        clear hst hf hpa hrep hes hes' HY HSi hs
        go_wp2_with (first
          | (refine list_load HTo.out rfl _ rfl wr.heap.size 0 rfl es' HLn.out HPx.out.1.range ?_)
          | (refine list_lit HTo.out rfl _ rfl es' rfl HLn.out HRp.out ?_)
          | (at_builtin; obtain ⟨v', w', hrun, hs'⟩ := HAp.out; have Hrun := Lib.hid hrun; have Hs' := Lib.hid hs'; clear hrun hs'; refine wpList_append_run rfl _ _ _ rfl _ _ _ _ rfl rfl Hrun.out ?_))
        go_roundw
        case rel => exact ⟨i + 1, v', rfl, by go_num, by omega, Hs'⟩
        case measure => simp [intOf]; omega
      · have HY : Hid (K.St (runE k.int 0 s1 l i).1 wx ∧ K.base ≤ wr.heap.size ∧ wr.heap.size ≠ K.b ∧ PAt wx wr.heap.size [.int .i64 0] ∧ intE.rep (fun g => av g ∧ g < w.heap.size) wx [.int .i64 0] (l.getD i 0) ∧ (∀ g, av g ∧ g < w.heap.size → g ≠ K.b ∧ g ≠ wr.heap.size) ∧ Below wr.heap.size wr wx ∧ wr.heap.size < wx.heap.size) := by
          refine ⟨HWx.out.st, HXb.out.1, HXb.out.2.1, HX.out, ?_, fun g hg => ⟨(HAv.out g hg.1).1, by have := HXb.out.2.2; omega⟩, HBx.out, HSx.out⟩
          have e : l.getD i 0 = 0 := by simp [List.getElem?_eq_none (Nat.le_of_not_lt hil)]
          rw [e]
          exact ⟨rfl, I64.zero⟩
        go_wp2_with fail
        obtain ⟨es, hes0⟩ : ∃ es : List Value, es = [.int .i64 0] := ⟨_, rfl⟩
        rw [← hes0] at HY
        clear hes0 HX HWx HBx HSx hcx
        obtain ⟨wy, rfl⟩ : ∃ wy : World, wy = wx := ⟨_, rfl⟩
        refine (HWE.out (runE k.int 0 s1 l i).1 (l.getD i 0) wy wr.heap.size 0 es es (fun g => av g ∧ g < w.heap.size) HY.out.1 HY.out.2.1 HY.out.2.2.1 HY.out.2.2.2.1 (fun j hj => by rw [Nat.zero_add]) HY.out.2.2.2.2.1 HY.out.2.2.2.2.2.1 HSi.out).mono ?_
        rintro e w2 ⟨rfl, hst, hf, es', hpa, hrep⟩
        have hes' : es'.length = 1 := HEo.out.len hrep
        have hes : es.length = 1 := HEo.out.len HY.out.2.2.2.2.1
        rw [putL_whole (by rw [hes', hes])] at hpa
        have HAp := Lib.hid (hs.out.next HK.out HEo.out HTo.out HB.out HP.out h3 h2 HAv.out HY.out.2.2.2.2.2.2.1 HY.out.2.2.2.2.2.2.2 hst hf hrep (by have := HN6.out; omega) 37)
        have HPx := Lib.hid hpa
        have HRp := Lib.hid (HEo.out.one hrep)
        have HLn := Lib.hid hes'
        clear hst hf hpa hrep hes hes' HY HSi hs
        go_wp2_with (first
          | (refine list_load HTo.out rfl _ rfl wr.heap.size 0 rfl es' HLn.out HPx.out.1.range ?_)
          | (refine list_lit HTo.out rfl _ rfl es' rfl HLn.out HRp.out ?_)
          | (at_builtin; obtain ⟨v', w', hrun, hs'⟩ := HAp.out; have Hrun := Lib.hid hrun; have Hs' := Lib.hid hs'; clear hrun hs'; refine wpList_append_run rfl _ _ _ rfl _ _ _ _ rfl rfl Hrun.out ?_))
        go_roundw
        case rel => exact ⟨i + 1, v', rfl, by go_num, by omega, Hs'⟩
        case measure => simp [intOf]; omega
    · obtain rfl : i = n := by omega
      obtain ⟨oa, oc, rfl⟩ := hs.out.slice
      have hc5 : wr.cell? ⟨p, o, none⟩ = some (.slice a l.length c) := hs.out.ws.pa.1.at o HCs2.out
      have hf5 : wr.frozen? ⟨p, o, none⟩ = false := hs.out.ws.pa.1.2.2 o HO.out
      have HPo : Hid (WPost K (sliE intE) (k.slice k.int 0 s l) p o cs av w (wr.setCell ⟨p, o, none⟩ (.slice oa i oc))) := by rw [HFin.out]; exact hs.out.post HK.out HEo.out HTo.out HN6.out HP.out h3 h2 HAv.out o HO.out
      clear hs
      go_wp2_with fail
      go_end0
      exact ⟨rfl, HPo.out⟩
end
end Go.Proofs.Ytpknalpdcfjffaa
/- store.analysis, over any walker. Printed by gen_fields.py. -/
namespace Go.Proofs.Ytpknalpdcfjffaa
open Go Go.RowKit

section
variable {σ : Type} {k : Wk σ}
set_option maxHeartbeats 16000000 in
set_option maxRecDepth 100000 in
theorem analysis_walks (K : WkM k) (hK : K.OK) : Walks K 63 K.recv [] anaE k.ana := by
  intro s x w p o cs es av h1 h2 h3 h4 h5 h6 h7 h8
  have HK := Lib.hid hK
  obtain ⟨f_int, m_int, w_int⟩ := hK.int
  have HM_int := Lib.hid m_int
  obtain ⟨f_word, m_word, w_word⟩ := hK.word
  have HM_word := Lib.hid m_word
  have HB : Hid (K.b < w.heap.size) := (hK.lt h1).2
  have HPl : Hid (p < w.heap.size) := h4.lt
  have HAv := Lib.hid h7
  obtain ⟨v0, v1, v2, rfl, r0, r1, r2, r3, r4, r5, r6, r7⟩ := h6
  have HAt := Lib.hid h5
  have HW0 : Hid (WS K p s (putL cs o []) w w) := (WS.start h1 h4).whole
  have HSz := Lib.hid h8
  clear h1 h4 h5 h7 h8 hK
  go_enter Try.func63, Try.ntmps63
  go_wp2_with fail
  refine (HW0.out.field (slice_int K HK.out) (sliE_ok intE_ok) h2 h3 (es := [v0]) (a := []) (c := [v1, v2, .int .i64 x.hi, .int .u64 x.lo, .int .i64 x.anchor, .int .i64 x.radius, .int .i64 x.rounds]) HAt.out rfl ⟨_, rfl, r0⟩ HAv.out _ rfl (Nat.le_trans (HK.out.mono.nums _ _) (Nat.le_trans (HK.out.mono.nums _ _) (Nat.le_trans (HK.out.mono.int _ _) (Nat.le_trans (HK.out.mono.word _ _) (Nat.le_trans (HK.out.mono.int _ _) (Nat.le_trans (HK.out.mono.int _ _) (Nat.le_trans (HK.out.mono.int _ _) HSz.out)))))))).mono ?_
  rintro e w1 ⟨rfl, es0, h1, ⟨y0, rfl, R0⟩, -, hf⟩
  have HW1 : Hid (WS K p (k.nums s x.bg).1 (putL cs o [y0]) w w1) := h1
  have R0h := Lib.hid R0
  clear R0
  have R0 := R0h
  clear R0h
  clear h1 hf HW0
  go_wp2_with fail
  refine (HW1.out.field (slice_int K HK.out) (sliE_ok intE_ok) h2 h3 (es := [v1]) (a := [v0]) (c := [v2, .int .i64 x.hi, .int .u64 x.lo, .int .i64 x.anchor, .int .i64 x.radius, .int .i64 x.rounds]) HAt.out rfl ⟨_, rfl, r1⟩ HAv.out _ rfl (Nat.le_trans (HK.out.mono.nums _ _) (Nat.le_trans (HK.out.mono.int _ _) (Nat.le_trans (HK.out.mono.word _ _) (Nat.le_trans (HK.out.mono.int _ _) (Nat.le_trans (HK.out.mono.int _ _) (Nat.le_trans (HK.out.mono.int _ _) HSz.out))))))).mono ?_
  rintro e w2 ⟨rfl, es1, h1, ⟨y1, rfl, R1⟩, -, hf⟩
  have HW2 : Hid (WS K p (k.nums (k.nums s x.bg).1 x.inc).1 (putL cs o [y0, y1]) w w2) := h1
  have R0n := Lib.hid (R0.out.next intE_ok hf HAv.out HB.out HPl.out)
  clear R0
  have R0 := R0n
  clear R0n
  have R1h := Lib.hid R1
  clear R1
  have R1 := R1h
  clear R1h
  clear h1 hf HW1
  go_wp2_with fail
  refine (HW2.out.field (slice_int K HK.out) (sliE_ok intE_ok) h2 h3 (es := [v2]) (a := [v0, v1]) (c := [.int .i64 x.hi, .int .u64 x.lo, .int .i64 x.anchor, .int .i64 x.radius, .int .i64 x.rounds]) HAt.out rfl ⟨_, rfl, r2⟩ HAv.out _ rfl (Nat.le_trans (HK.out.mono.int _ _) (Nat.le_trans (HK.out.mono.word _ _) (Nat.le_trans (HK.out.mono.int _ _) (Nat.le_trans (HK.out.mono.int _ _) (Nat.le_trans (HK.out.mono.int _ _) HSz.out)))))).mono ?_
  rintro e w3 ⟨rfl, es2, h1, ⟨y2, rfl, R2⟩, -, hf⟩
  have HW3 : Hid (WS K p (k.nums (k.nums (k.nums s x.bg).1 x.inc).1 x.field).1 (putL cs o [y0, y1, y2]) w w3) := h1
  have R0n := Lib.hid (R0.out.next intE_ok hf HAv.out HB.out HPl.out)
  clear R0
  have R0 := R0n
  clear R0n
  have R1n := Lib.hid (R1.out.next intE_ok hf HAv.out HB.out HPl.out)
  clear R1
  have R1 := R1n
  clear R1n
  have R2h := Lib.hid R2
  clear R2
  have R2 := R2h
  clear R2h
  clear h1 hf HW2
  try go_wp2_with fail
  refine wp_region_seq (by kernel_rfl) (fun _ => True) [(0, true), (1, true), (2, true), (3, true), (4, true), (5, true), (6, true), (7, true), (8, true), (9, false)] (by kernel_rfl) (trivial) ?_
  refine seq_q (d := some 19) rfl rfl rfl (K.recv) (fun w hw => rfl) ?_
  simp only [Act.put, List.setIfInBounds_toArray, List.set_cons_zero, List.set_cons_succ]
  refine seq_q (d := some 20) rfl rfl rfl (.pointer (some ⟨p, o, none⟩)) (fun w hw => rfl) ?_
  simp only [Act.put, List.setIfInBounds_toArray, List.set_cons_zero, List.set_cons_succ]
  refine seq_q (d := some 21) rfl rfl rfl (.pointer (some ⟨p, o, none⟩)) (fun w hw => rfl) ?_
  simp only [Act.put, List.setIfInBounds_toArray, List.set_cons_zero, List.set_cons_succ]
  refine seq_q (d := some 22) rfl rfl rfl (.pointer (some ⟨p, o + 3, none⟩)) (fun w hw => by go_simp) ?_
  simp only [Act.put, List.setIfInBounds_toArray, List.set_cons_zero, List.set_cons_succ]
  refine seq_q (d := some 23) rfl rfl rfl (.pointer (some ⟨p, o + 3, none⟩)) (fun w hw => by go_simp) ?_
  simp only [Act.put, List.setIfInBounds_toArray, List.set_cons_zero, List.set_cons_succ]
  refine seq_q (d := some 24) rfl rfl rfl (.pointer (some ⟨p, o + 3, none⟩)) (fun w hw => by go_simp) ?_
  simp only [Act.put, List.setIfInBounds_toArray, List.set_cons_zero, List.set_cons_succ]
  refine seq_q (d := some 25) rfl rfl rfl (.func (.method "synoptic/store.int") #[K.recv] #[]) (fun w hw => run_makeFunc (.tmp 19) rfl (K.recv) rfl w) ?_
  simp only [Act.put, List.setIfInBounds_toArray, List.set_cons_zero, List.set_cons_succ]
  refine seq_q (d := some 26) rfl rfl rfl (.func (.method "synoptic/store.int") #[K.recv] #[]) (fun w hw => run_nilMethod HM_int.out.ahead (.tmp 25) rfl rfl w) ?_
  simp only [Act.put, List.setIfInBounds_toArray, List.set_cons_zero, List.set_cons_succ]
  refine seq_q (d := some 27) rfl rfl rfl (K.recv) (fun w hw => rfl) ?_
  simp only [Act.put, List.setIfInBounds_toArray, List.set_cons_zero, List.set_cons_succ]
  refine seq_invoke (d := some 28) rfl rfl rfl HM_int.out.b _ _ _ rfl rfl [.pointer (some ⟨p, o + 3, none⟩)] rfl ((HW3.out.drew HK.out).field w_int intE_ok h2 h3 (es := [.int .i64 x.hi]) (a := [v0, v1, v2]) (c := [.int .u64 x.lo, .int .i64 x.anchor, .int .i64 x.radius, .int .i64 x.rounds]) HAt.out rfl ⟨rfl, r3⟩ HAv.out _ rfl (Nat.le_trans (HK.out.mono.word _ _) (Nat.le_trans (HK.out.mono.int _ _) (Nat.le_trans (HK.out.mono.int _ _) (Nat.le_trans (HK.out.mono.int _ _) HSz.out))))) ?_
  rintro e w4 ⟨rfl, es3, h1, ⟨rfl, i3⟩, -, hf⟩
  refine ⟨_, rfl, trivial, ?_⟩
  simp only [Act.put, List.setIfInBounds_toArray, List.set_cons_zero, List.set_cons_succ]
  refine seq_end ?_
  have HW4 : Hid (WS K p (k.int (k.nums (k.nums (k.nums s x.bg).1 x.inc).1 x.field).1 x.hi).1 (putL cs o [y0, y1, y2, .int .i64 (k.int (k.nums (k.nums (k.nums s x.bg).1 x.inc).1 x.field).1 x.hi).2]) w w4) := h1
  have R0n := Lib.hid (R0.out.next intE_ok ((Fr.drew _).trans hf) HAv.out HB.out HPl.out)
  clear R0
  have R0 := R0n
  clear R0n
  have R1n := Lib.hid (R1.out.next intE_ok ((Fr.drew _).trans hf) HAv.out HB.out HPl.out)
  clear R1
  have R1 := R1n
  clear R1n
  have R2n := Lib.hid (R2.out.next intE_ok ((Fr.drew _).trans hf) HAv.out HB.out HPl.out)
  clear R2
  have R2 := R2n
  clear R2n
  have I3 := Lib.hid i3
  clear i3
  clear h1 hf HW3
  try go_wp2_with fail
  refine wp_region_seq (by kernel_rfl) (fun _ => True) [(0, true), (1, true), (2, true), (3, true), (4, true), (5, true), (6, true), (7, true), (8, true), (9, false)] (by kernel_rfl) (trivial) ?_
  refine seq_q (d := some 29) rfl rfl rfl (K.recv) (fun w hw => rfl) ?_
  simp only [Act.put, List.setIfInBounds_toArray, List.set_cons_zero, List.set_cons_succ]
  refine seq_q (d := some 30) rfl rfl rfl (.pointer (some ⟨p, o, none⟩)) (fun w hw => rfl) ?_
  simp only [Act.put, List.setIfInBounds_toArray, List.set_cons_zero, List.set_cons_succ]
  refine seq_q (d := some 31) rfl rfl rfl (.pointer (some ⟨p, o, none⟩)) (fun w hw => rfl) ?_
  simp only [Act.put, List.setIfInBounds_toArray, List.set_cons_zero, List.set_cons_succ]
  refine seq_q (d := some 32) rfl rfl rfl (.pointer (some ⟨p, o + 3, none⟩)) (fun w hw => by go_simp) ?_
  simp only [Act.put, List.setIfInBounds_toArray, List.set_cons_zero, List.set_cons_succ]
  refine seq_q (d := some 33) rfl rfl rfl (.pointer (some ⟨p, o + 3, none⟩)) (fun w hw => by go_simp) ?_
  simp only [Act.put, List.setIfInBounds_toArray, List.set_cons_zero, List.set_cons_succ]
  refine seq_q (d := some 34) rfl rfl rfl (.pointer (some ⟨p, o + 4, none⟩)) (fun w hw => by go_simp) ?_
  simp only [Act.put, List.setIfInBounds_toArray, List.set_cons_zero, List.set_cons_succ]
  refine seq_q (d := some 35) rfl rfl rfl (.func (.method "synoptic/store.word") #[K.recv] #[]) (fun w hw => run_makeFunc (.tmp 29) rfl (K.recv) rfl w) ?_
  simp only [Act.put, List.setIfInBounds_toArray, List.set_cons_zero, List.set_cons_succ]
  refine seq_q (d := some 36) rfl rfl rfl (.func (.method "synoptic/store.word") #[K.recv] #[]) (fun w hw => run_nilMethod HM_word.out.ahead (.tmp 35) rfl rfl w) ?_
  simp only [Act.put, List.setIfInBounds_toArray, List.set_cons_zero, List.set_cons_succ]
  refine seq_q (d := some 37) rfl rfl rfl (K.recv) (fun w hw => rfl) ?_
  simp only [Act.put, List.setIfInBounds_toArray, List.set_cons_zero, List.set_cons_succ]
  refine seq_invoke (d := some 38) rfl rfl rfl HM_word.out.b _ _ _ rfl rfl [.pointer (some ⟨p, o + 4, none⟩)] rfl ((HW4.out.drew HK.out).field w_word wordE_ok h2 h3 (es := [.int .u64 x.lo]) (a := [v0, v1, v2, .int .i64 x.hi]) (c := [.int .i64 x.anchor, .int .i64 x.radius, .int .i64 x.rounds]) HAt.out rfl ⟨rfl, r4⟩ HAv.out _ rfl (Nat.le_trans (HK.out.mono.int _ _) (Nat.le_trans (HK.out.mono.int _ _) (Nat.le_trans (HK.out.mono.int _ _) HSz.out)))) ?_
  rintro e w5 ⟨rfl, es4, h1, ⟨rfl, i4⟩, -, hf⟩
  refine ⟨_, rfl, trivial, ?_⟩
  simp only [Act.put, List.setIfInBounds_toArray, List.set_cons_zero, List.set_cons_succ]
  refine seq_end ?_
  have HW5 : Hid (WS K p (k.word (k.int (k.nums (k.nums (k.nums s x.bg).1 x.inc).1 x.field).1 x.hi).1 x.lo).1 (putL cs o [y0, y1, y2, .int .i64 (k.int (k.nums (k.nums (k.nums s x.bg).1 x.inc).1 x.field).1 x.hi).2, .int .u64 (k.word (k.int (k.nums (k.nums (k.nums s x.bg).1 x.inc).1 x.field).1 x.hi).1 x.lo).2]) w w5) := h1
  have R0n := Lib.hid (R0.out.next intE_ok ((Fr.drew _).trans hf) HAv.out HB.out HPl.out)
  clear R0
  have R0 := R0n
  clear R0n
  have R1n := Lib.hid (R1.out.next intE_ok ((Fr.drew _).trans hf) HAv.out HB.out HPl.out)
  clear R1
  have R1 := R1n
  clear R1n
  have R2n := Lib.hid (R2.out.next intE_ok ((Fr.drew _).trans hf) HAv.out HB.out HPl.out)
  clear R2
  have R2 := R2n
  clear R2n
  have I4 := Lib.hid i4
  clear i4
  clear h1 hf HW4
  try go_wp2_with fail
  refine wp_region_seq (by kernel_rfl) (fun _ => True) [(0, true), (1, true), (2, true), (3, true), (4, true), (5, true), (6, true), (7, true), (8, true), (9, true), (10, true), (11, true), (12, false), (13, false)] (by kernel_rfl) (trivial) ?_
  refine seq_q (d := some 39) rfl rfl rfl (K.recv) (fun w hw => rfl) ?_
  simp only [Act.put, List.setIfInBounds_toArray, List.set_cons_zero, List.set_cons_succ]
  refine seq_q (d := some 40) rfl rfl rfl (.pointer (some ⟨p, o, none⟩)) (fun w hw => rfl) ?_
  simp only [Act.put, List.setIfInBounds_toArray, List.set_cons_zero, List.set_cons_succ]
  refine seq_q (d := some 41) rfl rfl rfl (.pointer (some ⟨p, o, none⟩)) (fun w hw => rfl) ?_
  simp only [Act.put, List.setIfInBounds_toArray, List.set_cons_zero, List.set_cons_succ]
  refine seq_q (d := some 42) rfl rfl rfl (.pointer (some ⟨p, o + 3, none⟩)) (fun w hw => by go_simp) ?_
  simp only [Act.put, List.setIfInBounds_toArray, List.set_cons_zero, List.set_cons_succ]
  refine seq_q (d := some 43) rfl rfl rfl (.pointer (some ⟨p, o + 5, none⟩)) (fun w hw => by go_simp) ?_
  simp only [Act.put, List.setIfInBounds_toArray, List.set_cons_zero, List.set_cons_succ]
  refine seq_q (d := some 44) rfl rfl rfl (.pointer (some ⟨p, o, none⟩)) (fun w hw => rfl) ?_
  simp only [Act.put, List.setIfInBounds_toArray, List.set_cons_zero, List.set_cons_succ]
  refine seq_q (d := some 45) rfl rfl rfl (.pointer (some ⟨p, o, none⟩)) (fun w hw => rfl) ?_
  simp only [Act.put, List.setIfInBounds_toArray, List.set_cons_zero, List.set_cons_succ]
  refine seq_q (d := some 46) rfl rfl rfl (.pointer (some ⟨p, o + 3, none⟩)) (fun w hw => by go_simp) ?_
  simp only [Act.put, List.setIfInBounds_toArray, List.set_cons_zero, List.set_cons_succ]
  refine seq_q (d := some 47) rfl rfl rfl (.pointer (some ⟨p, o + 6, none⟩)) (fun w hw => by go_simp) ?_
  simp only [Act.put, List.setIfInBounds_toArray, List.set_cons_zero, List.set_cons_succ]
  refine seq_q (d := some 48) rfl rfl rfl (.pointer (some ⟨p, o, none⟩)) (fun w hw => rfl) ?_
  simp only [Act.put, List.setIfInBounds_toArray, List.set_cons_zero, List.set_cons_succ]
  refine seq_q (d := some 49) rfl rfl rfl (.pointer (some ⟨p, o, none⟩)) (fun w hw => rfl) ?_
  simp only [Act.put, List.setIfInBounds_toArray, List.set_cons_zero, List.set_cons_succ]
  refine seq_q (d := some 50) rfl rfl rfl (.pointer (some ⟨p, o + 7, none⟩)) (fun w hw => by go_simp) ?_
  simp only [Act.put, List.setIfInBounds_toArray, List.set_cons_zero, List.set_cons_succ]
  refine seq_run (d := some 51) rfl rfl rfl (.slice (some ⟨w5.heap.size, 0, none⟩) 3 3) (w5.drew.alloc (.cells #[.pointer (some ⟨p, o + 5, none⟩), .pointer (some ⟨p, o + 6, none⟩), .pointer (some ⟨p, o + 7, none⟩)] 110)) (by simp [execOp, Act.eval, Instr.buildSlice, go_sem]) trivial ?_
  simp only [Act.put, List.setIfInBounds_toArray, List.set_cons_zero, List.set_cons_succ]
  have HP5 : Hid (Ptrs (w5.drew.alloc (.cells #[.pointer (some ⟨p, o + 5, none⟩), .pointer (some ⟨p, o + 6, none⟩), .pointer (some ⟨p, o + 7, none⟩)] 110)) w5.heap.size p (o + 5) 3) := ptrs_of (cs := [.pointer (some ⟨p, o + 5, none⟩), .pointer (some ⟨p, o + 6, none⟩), .pointer (some ⟨p, o + 7, none⟩)]) rfl rfl (by intro i hi; match i, hi with | 0, _ => rfl | 1, _ => rfl | 2, _ => rfl)
  have HV5 : Hid (WS K p (k.word (k.int (k.nums (k.nums (k.nums s x.bg).1 x.inc).1 x.field).1 x.hi).1 x.lo).1 (putL cs o [y0, y1, y2, .int .i64 (k.int (k.nums (k.nums (k.nums s x.bg).1 x.inc).1 x.field).1 x.hi).2, .int .u64 (k.word (k.int (k.nums (k.nums (k.nums s x.bg).1 x.inc).1 x.field).1 x.hi).1 x.lo).2]) w (w5.drew.alloc (.cells #[.pointer (some ⟨p, o + 5, none⟩), .pointer (some ⟨p, o + 6, none⟩), .pointer (some ⟨p, o + 7, none⟩)] 110))) := (HW5.out.drew HK.out).new HK.out ((Below.refl _ _).alloc (Nat.le_refl _) _)
  have HN5 : Hid (w5.heap.size ≠ K.b ∧ w5.heap.size ≠ p) := by have := HB.out; have := HPl.out; have := HW5.out.fr.size; unfold Hid; omega
  refine seq_call (d := some 52) rfl rfl rfl ⟨_, Try.func58, by kernel_rfl, by kernel_rfl⟩ _ _ _ rfl rfl [K.recv, .slice (some ⟨w5.heap.size, 0, none⟩) 3 3] rfl (HV5.out.ints HK.out h2 h3 (es := [.int .i64 x.anchor, .int .i64 x.radius, .int .i64 x.rounds]) (a := [v0, v1, v2, .int .i64 x.hi, .int .u64 x.lo]) (c := []) HAt.out (xs := [x.anchor, x.radius, x.rounds]) rfl rfl (by simp) (by simp; exact ⟨r5, r6, r7⟩) (by simp) _ rfl HP5.out HN5.out.1 HN5.out.2 3 rfl HSz.out) ?_
  rintro e w6 ⟨rfl, h1, hr, hf⟩
  refine ⟨_, rfl, trivial, ?_⟩
  simp only [Act.put, List.setIfInBounds_toArray, List.set_cons_zero, List.set_cons_succ]
  refine seq_end ?_
  have i5_0 : Hid (I64 (k.int (k.word (k.int (k.nums (k.nums (k.nums s x.bg).1 x.inc).1 x.field).1 x.hi).1 x.lo).1 x.anchor).2) := hr _ (List.Mem.head _)
  have i5_1 : Hid (I64 (k.int (k.int (k.word (k.int (k.nums (k.nums (k.nums s x.bg).1 x.inc).1 x.field).1 x.hi).1 x.lo).1 x.anchor).1 x.radius).2) := hr _ (List.Mem.tail _ (List.Mem.head _))
  have i5_2 : Hid (I64 (k.int (k.int (k.int (k.word (k.int (k.nums (k.nums (k.nums s x.bg).1 x.inc).1 x.field).1 x.hi).1 x.lo).1 x.anchor).1 x.radius).1 x.rounds).2) := hr _ (List.Mem.tail _ (List.Mem.tail _ (List.Mem.head _)))
  have HW6 : Hid (WS K p (k.int (k.int (k.int (k.word (k.int (k.nums (k.nums (k.nums s x.bg).1 x.inc).1 x.field).1 x.hi).1 x.lo).1 x.anchor).1 x.radius).1 x.rounds).1 (putL cs o [y0, y1, y2, .int .i64 (k.int (k.nums (k.nums (k.nums s x.bg).1 x.inc).1 x.field).1 x.hi).2, .int .u64 (k.word (k.int (k.nums (k.nums (k.nums s x.bg).1 x.inc).1 x.field).1 x.hi).1 x.lo).2, .int .i64 (k.int (k.word (k.int (k.nums (k.nums (k.nums s x.bg).1 x.inc).1 x.field).1 x.hi).1 x.lo).1 x.anchor).2, .int .i64 (k.int (k.int (k.word (k.int (k.nums (k.nums (k.nums s x.bg).1 x.inc).1 x.field).1 x.hi).1 x.lo).1 x.anchor).1 x.radius).2, .int .i64 (k.int (k.int (k.int (k.word (k.int (k.nums (k.nums (k.nums s x.bg).1 x.inc).1 x.field).1 x.hi).1 x.lo).1 x.anchor).1 x.radius).1 x.rounds).2]) w w6) := h1
  have R0n := Lib.hid (R0.out.next intE_ok ((Fr.drew _).trans ((Fr.alloc _ _ (by have := HB.out; have := (HK.out.lt HW5.out.st).1; have := HW5.out.fr.size; simp; omega)).trans hf)) HAv.out HB.out HPl.out)
  clear R0
  have R0 := R0n
  clear R0n
  have R1n := Lib.hid (R1.out.next intE_ok ((Fr.drew _).trans ((Fr.alloc _ _ (by have := HB.out; have := (HK.out.lt HW5.out.st).1; have := HW5.out.fr.size; simp; omega)).trans hf)) HAv.out HB.out HPl.out)
  clear R1
  have R1 := R1n
  clear R1n
  have R2n := Lib.hid (R2.out.next intE_ok ((Fr.drew _).trans ((Fr.alloc _ _ (by have := HB.out; have := (HK.out.lt HW5.out.st).1; have := HW5.out.fr.size; simp; omega)).trans hf)) HAv.out HB.out HPl.out)
  clear R2
  have R2 := R2n
  clear R2n
  clear h1 hf HW5 hr HP5 HV5 HN5
  try go_wp2_with fail
  go_end0
  exact ⟨rfl, WS.post (E := anaE) (q := k.ana s x) HW6.out (⟨y0, y1, y2, rfl, R0.out, R1.out, R2.out, I3.out, I4.out, i5_0.out, i5_1.out, i5_2.out⟩)⟩
end
end Go.Proofs.Ytpknalpdcfjffaa
/- store.place, store.reading, over any walker. Printed by gen_fields.py. -/
namespace Go.Proofs.Ytpknalpdcfjffaa
open Go Go.RowKit

section
variable {σ : Type} {k : Wk σ}
set_option maxHeartbeats 16000000 in
set_option maxRecDepth 100000 in
theorem place_walks (K : WkM k) (hK : K.OK) : Walks K 59 K.recv [] plaE k.place := by
  intro s x w p o cs es av h1 h2 h3 h4 h5 h6 h7 h8
  have HK := Lib.hid hK
  have HB : Hid (K.b < w.heap.size) := (hK.lt h1).2
  have HPl : Hid (p < w.heap.size) := h4.lt
  have HAv := Lib.hid h7
  obtain ⟨rfl, r1, r2, r3, r4⟩ := h6
  have HAt := Lib.hid h5
  have HW0 : Hid (WS K p s (putL cs o []) w w) := (WS.start h1 h4).whole
  have HSz := Lib.hid h8
  clear h1 h4 h5 h7 h8 hK
  go_enter Try.func59, Try.ntmps59
  try go_wp2_with fail
  refine wp_region_seq (by kernel_rfl) (fun _ => True) [(0, true), (1, true), (2, true), (3, true), (4, true), (5, true), (6, true), (7, true), (8, true), (9, true), (10, true), (11, true), (12, true), (13, false), (14, false)] (by kernel_rfl) (trivial) ?_
  refine seq_q (d := some 4) rfl rfl rfl (K.recv) (fun w hw => rfl) ?_
  simp only [Act.put, List.setIfInBounds_toArray, List.set_cons_zero, List.set_cons_succ]
  refine seq_q (d := some 5) rfl rfl rfl (.pointer (some ⟨p, o, none⟩)) (fun w hw => rfl) ?_
  simp only [Act.put, List.setIfInBounds_toArray, List.set_cons_zero, List.set_cons_succ]
  refine seq_q (d := some 6) rfl rfl rfl (.pointer (some ⟨p, o, none⟩)) (fun w hw => rfl) ?_
  simp only [Act.put, List.setIfInBounds_toArray, List.set_cons_zero, List.set_cons_succ]
  refine seq_q (d := some 7) rfl rfl rfl (.pointer (some ⟨p, o, none⟩)) (fun w hw => by go_simp) ?_
  simp only [Act.put, List.setIfInBounds_toArray, List.set_cons_zero, List.set_cons_succ]
  refine seq_q (d := some 8) rfl rfl rfl (.pointer (some ⟨p, o, none⟩)) (fun w hw => rfl) ?_
  simp only [Act.put, List.setIfInBounds_toArray, List.set_cons_zero, List.set_cons_succ]
  refine seq_q (d := some 9) rfl rfl rfl (.pointer (some ⟨p, o, none⟩)) (fun w hw => rfl) ?_
  simp only [Act.put, List.setIfInBounds_toArray, List.set_cons_zero, List.set_cons_succ]
  refine seq_q (d := some 10) rfl rfl rfl (.pointer (some ⟨p, o + 1, none⟩)) (fun w hw => by go_simp) ?_
  simp only [Act.put, List.setIfInBounds_toArray, List.set_cons_zero, List.set_cons_succ]
  refine seq_q (d := some 11) rfl rfl rfl (.pointer (some ⟨p, o, none⟩)) (fun w hw => rfl) ?_
  simp only [Act.put, List.setIfInBounds_toArray, List.set_cons_zero, List.set_cons_succ]
  refine seq_q (d := some 12) rfl rfl rfl (.pointer (some ⟨p, o, none⟩)) (fun w hw => rfl) ?_
  simp only [Act.put, List.setIfInBounds_toArray, List.set_cons_zero, List.set_cons_succ]
  refine seq_q (d := some 13) rfl rfl rfl (.pointer (some ⟨p, o + 2, none⟩)) (fun w hw => by go_simp) ?_
  simp only [Act.put, List.setIfInBounds_toArray, List.set_cons_zero, List.set_cons_succ]
  refine seq_q (d := some 14) rfl rfl rfl (.pointer (some ⟨p, o, none⟩)) (fun w hw => rfl) ?_
  simp only [Act.put, List.setIfInBounds_toArray, List.set_cons_zero, List.set_cons_succ]
  refine seq_q (d := some 15) rfl rfl rfl (.pointer (some ⟨p, o, none⟩)) (fun w hw => rfl) ?_
  simp only [Act.put, List.setIfInBounds_toArray, List.set_cons_zero, List.set_cons_succ]
  refine seq_q (d := some 16) rfl rfl rfl (.pointer (some ⟨p, o + 3, none⟩)) (fun w hw => by go_simp) ?_
  simp only [Act.put, List.setIfInBounds_toArray, List.set_cons_zero, List.set_cons_succ]
  refine seq_run (d := some 17) rfl rfl rfl (.slice (some ⟨w.heap.size, 0, none⟩) 4 4) (w.drew.alloc (.cells #[.pointer (some ⟨p, o, none⟩), .pointer (some ⟨p, o + 1, none⟩), .pointer (some ⟨p, o + 2, none⟩), .pointer (some ⟨p, o + 3, none⟩)] 110)) (by simp [execOp, Act.eval, Instr.buildSlice, go_sem]) trivial ?_
  simp only [Act.put, List.setIfInBounds_toArray, List.set_cons_zero, List.set_cons_succ]
  have HP0 : Hid (Ptrs (w.drew.alloc (.cells #[.pointer (some ⟨p, o, none⟩), .pointer (some ⟨p, o + 1, none⟩), .pointer (some ⟨p, o + 2, none⟩), .pointer (some ⟨p, o + 3, none⟩)] 110)) w.heap.size p (o) 4) := ptrs_of (cs := [.pointer (some ⟨p, o, none⟩), .pointer (some ⟨p, o + 1, none⟩), .pointer (some ⟨p, o + 2, none⟩), .pointer (some ⟨p, o + 3, none⟩)]) rfl rfl (by intro i hi; match i, hi with | 0, _ => rfl | 1, _ => rfl | 2, _ => rfl | 3, _ => rfl)
  have HV0 : Hid (WS K p s (putL cs o []) w (w.drew.alloc (.cells #[.pointer (some ⟨p, o, none⟩), .pointer (some ⟨p, o + 1, none⟩), .pointer (some ⟨p, o + 2, none⟩), .pointer (some ⟨p, o + 3, none⟩)] 110))) := (HW0.out.drew HK.out).new HK.out ((Below.refl _ _).alloc (Nat.le_refl _) _)
  have HN0 : Hid (w.heap.size ≠ K.b ∧ w.heap.size ≠ p) := by have := HB.out; have := HPl.out; have := HW0.out.fr.size; unfold Hid; omega
  refine seq_call (d := some 18) rfl rfl rfl ⟨_, Try.func58, by kernel_rfl, by kernel_rfl⟩ _ _ _ rfl rfl [K.recv, .slice (some ⟨w.heap.size, 0, none⟩) 4 4] rfl (HV0.out.ints HK.out h2 h3 (es := [.int .i64 x.f, .int .i64 x.a, .int .i64 x.b, .int .i64 x.c]) (a := []) (c := []) HAt.out (xs := [x.f, x.a, x.b, x.c]) rfl rfl (by simp) (by simp; exact ⟨r1, r2, r3, r4⟩) (by simp) _ rfl HP0.out HN0.out.1 HN0.out.2 4 rfl HSz.out) ?_
  rintro e w1 ⟨rfl, h1, hr, hf⟩
  refine ⟨_, rfl, trivial, ?_⟩
  simp only [Act.put, List.setIfInBounds_toArray, List.set_cons_zero, List.set_cons_succ]
  refine seq_end ?_
  have i0_0 : Hid (I64 (k.int s x.f).2) := hr _ (List.Mem.head _)
  have i0_1 : Hid (I64 (k.int (k.int s x.f).1 x.a).2) := hr _ (List.Mem.tail _ (List.Mem.head _))
  have i0_2 : Hid (I64 (k.int (k.int (k.int s x.f).1 x.a).1 x.b).2) := hr _ (List.Mem.tail _ (List.Mem.tail _ (List.Mem.head _)))
  have i0_3 : Hid (I64 (k.int (k.int (k.int (k.int s x.f).1 x.a).1 x.b).1 x.c).2) := hr _ (List.Mem.tail _ (List.Mem.tail _ (List.Mem.tail _ (List.Mem.head _))))
  have HW1 : Hid (WS K p (k.int (k.int (k.int (k.int s x.f).1 x.a).1 x.b).1 x.c).1 (putL cs o [.int .i64 (k.int s x.f).2, .int .i64 (k.int (k.int s x.f).1 x.a).2, .int .i64 (k.int (k.int (k.int s x.f).1 x.a).1 x.b).2, .int .i64 (k.int (k.int (k.int (k.int s x.f).1 x.a).1 x.b).1 x.c).2]) w w1) := h1
  clear h1 hf HW0 hr HP0 HV0 HN0
  try go_wp2_with fail
  go_end0
  exact ⟨rfl, WS.post (E := plaE) (q := k.place s x) HW1.out (⟨rfl, i0_0.out, i0_1.out, i0_2.out, i0_3.out⟩)⟩
set_option maxHeartbeats 16000000 in
set_option maxRecDepth 100000 in
theorem reading_walks (K : WkM k) (hK : K.OK) : Walks K 61 K.recv [] rdE k.reading := by
  intro s x w p o cs es av h1 h2 h3 h4 h5 h6 h7 h8
  have HK := Lib.hid hK
  have HB : Hid (K.b < w.heap.size) := (hK.lt h1).2
  have HPl : Hid (p < w.heap.size) := h4.lt
  have HAv := Lib.hid h7
  obtain ⟨rfl, r1, r2⟩ := h6
  have HAt := Lib.hid h5
  have HW0 : Hid (WS K p s (putL cs o []) w w) := (WS.start h1 h4).whole
  have HSz := Lib.hid h8
  clear h1 h4 h5 h7 h8 hK
  go_enter Try.func61, Try.ntmps61
  try go_wp2_with fail
  refine wp_region_seq (by kernel_rfl) (fun _ => True) [(0, true), (1, true), (2, true), (3, true), (4, true), (5, true), (6, true), (7, false), (8, false)] (by kernel_rfl) (trivial) ?_
  refine seq_q (d := some 4) rfl rfl rfl (K.recv) (fun w hw => rfl) ?_
  simp only [Act.put, List.setIfInBounds_toArray, List.set_cons_zero, List.set_cons_succ]
  refine seq_q (d := some 5) rfl rfl rfl (.pointer (some ⟨p, o, none⟩)) (fun w hw => rfl) ?_
  simp only [Act.put, List.setIfInBounds_toArray, List.set_cons_zero, List.set_cons_succ]
  refine seq_q (d := some 6) rfl rfl rfl (.pointer (some ⟨p, o, none⟩)) (fun w hw => rfl) ?_
  simp only [Act.put, List.setIfInBounds_toArray, List.set_cons_zero, List.set_cons_succ]
  refine seq_q (d := some 7) rfl rfl rfl (.pointer (some ⟨p, o, none⟩)) (fun w hw => by go_simp) ?_
  simp only [Act.put, List.setIfInBounds_toArray, List.set_cons_zero, List.set_cons_succ]
  refine seq_q (d := some 8) rfl rfl rfl (.pointer (some ⟨p, o, none⟩)) (fun w hw => rfl) ?_
  simp only [Act.put, List.setIfInBounds_toArray, List.set_cons_zero, List.set_cons_succ]
  refine seq_q (d := some 9) rfl rfl rfl (.pointer (some ⟨p, o, none⟩)) (fun w hw => rfl) ?_
  simp only [Act.put, List.setIfInBounds_toArray, List.set_cons_zero, List.set_cons_succ]
  refine seq_q (d := some 10) rfl rfl rfl (.pointer (some ⟨p, o + 1, none⟩)) (fun w hw => by go_simp) ?_
  simp only [Act.put, List.setIfInBounds_toArray, List.set_cons_zero, List.set_cons_succ]
  refine seq_run (d := some 11) rfl rfl rfl (.slice (some ⟨w.heap.size, 0, none⟩) 2 2) (w.drew.alloc (.cells #[.pointer (some ⟨p, o, none⟩), .pointer (some ⟨p, o + 1, none⟩)] 110)) (by simp [execOp, Act.eval, Instr.buildSlice, go_sem]) trivial ?_
  simp only [Act.put, List.setIfInBounds_toArray, List.set_cons_zero, List.set_cons_succ]
  have HP0 : Hid (Ptrs (w.drew.alloc (.cells #[.pointer (some ⟨p, o, none⟩), .pointer (some ⟨p, o + 1, none⟩)] 110)) w.heap.size p (o) 2) := ptrs_of (cs := [.pointer (some ⟨p, o, none⟩), .pointer (some ⟨p, o + 1, none⟩)]) rfl rfl (by intro i hi; match i, hi with | 0, _ => rfl | 1, _ => rfl)
  have HV0 : Hid (WS K p s (putL cs o []) w (w.drew.alloc (.cells #[.pointer (some ⟨p, o, none⟩), .pointer (some ⟨p, o + 1, none⟩)] 110))) := (HW0.out.drew HK.out).new HK.out ((Below.refl _ _).alloc (Nat.le_refl _) _)
  have HN0 : Hid (w.heap.size ≠ K.b ∧ w.heap.size ≠ p) := by have := HB.out; have := HPl.out; have := HW0.out.fr.size; unfold Hid; omega
  refine seq_call (d := some 12) rfl rfl rfl ⟨_, Try.func58, by kernel_rfl, by kernel_rfl⟩ _ _ _ rfl rfl [K.recv, .slice (some ⟨w.heap.size, 0, none⟩) 2 2] rfl (HV0.out.ints HK.out h2 h3 (es := [.int .i64 x.1, .int .i64 x.2]) (a := []) (c := []) HAt.out (xs := [x.1, x.2]) rfl rfl (by simp) (by simp; exact ⟨r1, r2⟩) (by simp) _ rfl HP0.out HN0.out.1 HN0.out.2 2 rfl HSz.out) ?_
  rintro e w1 ⟨rfl, h1, hr, hf⟩
  refine ⟨_, rfl, trivial, ?_⟩
  simp only [Act.put, List.setIfInBounds_toArray, List.set_cons_zero, List.set_cons_succ]
  refine seq_end ?_
  have i0_0 : Hid (I64 (k.int s x.1).2) := hr _ (List.Mem.head _)
  have i0_1 : Hid (I64 (k.int (k.int s x.1).1 x.2).2) := hr _ (List.Mem.tail _ (List.Mem.head _))
  have HW1 : Hid (WS K p (k.int (k.int s x.1).1 x.2).1 (putL cs o [.int .i64 (k.int s x.1).2, .int .i64 (k.int (k.int s x.1).1 x.2).2]) w w1) := h1
  clear h1 hf HW0 hr HP0 HV0 HN0
  try go_wp2_with fail
  go_end0
  exact ⟨rfl, WS.post (E := rdE) (q := k.reading s x) HW1.out (⟨rfl, i0_0.out, i0_1.out⟩)⟩
end
end Go.Proofs.Ytpknalpdcfjffaa
/- synoptic/store.slice[synoptic/api.Reading], over any walker. Printed by gen_slices.py. -/
namespace Go.Proofs.Ytpknalpdcfjffaa
open Go Go.RowKit

section
variable {σ : Type} {k : Wk σ}
set_option maxHeartbeats 16000000 in
set_option maxRecDepth 100000 in
theorem slice_rd (K : WkM k) (hK : K.OK) : Walks K 60 K.recv [.func (.func 61) #[] #[]] (sliE rdE) (k.slice k.reading (0, 0)) := by
  intro s l w p o cs es av h1 h2 h3 h4 h5 h6 h7 h8
  have HK := Lib.hid hK
  have HEo := Lib.hid rdE_ok
  have HTo := Lib.hid rdT
  have HMo := Lib.hid HK.out.mono.reading
  have HWE := Lib.hid (reading_walks K hK)
  obtain ⟨fc, mc, wc⟩ := hK.count
  have HMc := Lib.hid mc
  obtain ⟨v, rfl, hr⟩ := h6
  obtain ⟨a, c, rfl⟩ := hr.slice
  have HLl := Lib.hid hr.le
  have HRd := Lib.hid hr
  have HB : Hid (K.b < w.heap.size) := (hK.lt h1).2
  have HP : Hid (p < w.heap.size) := h4.lt
  have HAv := Lib.hid h7
  have HPA := Lib.hid h4
  have hlo := h5.le (by simp)
  have HO : Hid (o < cs.length) := by unfold Hid; simp at hlo; omega
  have HCs : Hid (cs[o]? = some (.slice a l.length c)) := h5 0 (by simp)
  have HCs2 := Lib.hid HCs.out
  have HC : Hid (w.drew.cell? ⟨p, o, none⟩ = some (.slice a l.length c)) := h4.drew.1.at o HCs.out
  have HS0 := Lib.hid h1
  have HSz := Lib.hid h8
  clear hr h1 h4 h5 h7 h8 hlo mc
  unfold Wk.slice at HSz
  go_enter Try.func60, Try.ntmps60
  try go_wp2_with fail
  refine wp_region_seq (by kernel_rfl) (fun w' => w'.cell? ⟨p, o, none⟩ = some (.slice a l.length c)) [(0, true), (1, true), (2, true), (3, true), (4, true), (5, true), (6, true), (7, true), (8, false), (9, true)] (by kernel_rfl) (HC.out) ?_
  refine seq_q (d := some 10) rfl rfl rfl (K.recv) (fun w hw => rfl) ?_
  simp only [Act.put, List.setIfInBounds_toArray, List.set_cons_zero, List.set_cons_succ]
  refine seq_q (d := some 11) rfl rfl rfl (.pointer (some ⟨p, o, none⟩)) (fun w hw => rfl) ?_
  simp only [Act.put, List.setIfInBounds_toArray, List.set_cons_zero, List.set_cons_succ]
  refine seq_q (d := some 12) rfl rfl rfl (.pointer (some ⟨p, o, none⟩)) (fun w hw => rfl) ?_
  simp only [Act.put, List.setIfInBounds_toArray, List.set_cons_zero, List.set_cons_succ]
  refine seq_q (d := some 13) rfl rfl rfl (.slice a l.length c) (fun w hw => by simp [execOp, Act.eval, hw, go_sem]) ?_
  simp only [Act.put, List.setIfInBounds_toArray, List.set_cons_zero, List.set_cons_succ]
  refine seq_q (d := some 14) rfl rfl rfl (.int .i64 l.length) (fun w hw => by simp [execOp, Act.eval, go_sem]) ?_
  simp only [Act.put, List.setIfInBounds_toArray, List.set_cons_zero, List.set_cons_succ]
  refine seq_q (d := some 15) rfl rfl rfl (.func (.method "synoptic/store.count") #[K.recv] #[]) (fun w hw => run_makeFunc (.tmp 10) rfl (K.recv) rfl w) ?_
  simp only [Act.put, List.setIfInBounds_toArray, List.set_cons_zero, List.set_cons_succ]
  refine seq_q (d := some 16) rfl rfl rfl (.func (.method "synoptic/store.count") #[K.recv] #[]) (fun w hw => run_nilMethod HMc.out.ahead (.tmp 15) rfl rfl w) ?_
  simp only [Act.put, List.setIfInBounds_toArray, List.set_cons_zero, List.set_cons_succ]
  refine seq_q (d := some 17) rfl rfl rfl (K.recv) (fun w hw => rfl) ?_
  simp only [Act.put, List.setIfInBounds_toArray, List.set_cons_zero, List.set_cons_succ]
  refine seq_invoke (d := some 18) rfl rfl rfl HMc.out.b _ _ _ rfl rfl [.int .i64 l.length] rfl (wc s l.length w.drew (HK.out.stable HS0.out (Quiet.drew _)) HLl.out (Nat.le_trans (Wk.Mono.run HMo.out _ _ _ _) HSz.out)) ?_
  rintro e w1 ⟨rfl, hn, hst, hf⟩
  have HW : Hid (WS K p (k.count s l.length).1 cs w w1) := ⟨hst, (Fr.drew w).trans hf.any, HPA.out.drew.keeps hf.keeps ⟨h3, h3⟩⟩
  have HC1 : Hid (w1.cell? ⟨p, o, none⟩ = some (.slice a l.length c)) := HW.out.pa.1.at o HCs.out
  refine ⟨_, rfl, HC1.out, ?_⟩
  simp only [Act.put, List.setIfInBounds_toArray, List.set_cons_zero, List.set_cons_succ]
  refine seq_q (d := some 6) rfl rfl rfl (.int .i64 (k.count s l.length).2) (fun w hw => rfl) ?_
  simp only [Act.put, List.setIfInBounds_toArray, List.set_cons_zero, List.set_cons_succ]
  refine seq_end ?_
  obtain ⟨s1, hs1⟩ : ∃ s1, s1 = (k.count s l.length).1 := ⟨_, rfl⟩
  obtain ⟨n, hn1⟩ : ∃ n, n = (k.count s l.length).2 := ⟨_, rfl⟩
  have HFin : Hid (k.slice k.reading (0, 0) s l = runE k.reading (0, 0) s1 l n) := by unfold Hid Wk.slice; rw [hs1, hn1]
  rw [← hs1] at HW
  rw [← hn1] at hn ⊢
  have HSz1 : Hid (k.sz (runE k.reading (0, 0) s1 l n).1 ≤ 10000000) := by rw [← HFin.out]; exact HSz.out
  have HN6 : Hid (n ≤ 1000000) := hn
  have n0 : (n : Int) ≤ 1000000 := by omega
  have HLs : Hid (SlS K rdE _ k.reading (0, 0) s1 l p cs av w 0 (.slice none 0 0) w1) := SlS.start (T := 81) HW.out
  clear HW HC1 HC hst hf hn hs1 hn1 HSz HCs
  go_wp2_with fail
  go_loopw [20, 7] (fun kv lv wr => ∃ (i : Nat) (ov : Value), ov = lv ∧ kv = .int .i64 i ∧ i ≤ n ∧ Hid (SlS K rdE 81 k.reading (0, 0) s1 l p cs av w i ov wr)) (fun kv _ _ => (2000000 - intOf kv).toNat)
  case atStart => exact ⟨0, _, rfl, rfl, by omega, HLs⟩
  case round =>
    clear HLs
    obtain ⟨i, ov, rfl, rfl, hi, hs⟩ := hrel
    by_cases hin : i < n
    · have i0 : (i : Int) < (n : Int) := by omega
      have HSi : Hid (k.sz (k.reading (runE k.reading (0, 0) s1 l i).1 (l.getD i (0, 0))).1 ≤ 10000000) := Nat.le_trans (Wk.Mono.run_le HMo.out (0, 0) s1 l (i + 1) n (by omega)) HSz1.out
      go_upto_region 6 with fail
      have hbx : Below wr.heap.size wr (wr.alloc (.cells #[.int .i64 0, .int .i64 0] 81)) := (Below.refl _ _).alloc (Nat.le_refl _) _
      have hsx : wr.heap.size < (wr.alloc (.cells #[.int .i64 0, .int .i64 0] 81)).heap.size := by simp
      have HX : Hid (PAt (wr.alloc (.cells #[.int .i64 0, .int .i64 0] 81)) wr.heap.size [.int .i64 0, .int .i64 0]) := PAt.new wr [.int .i64 0, .int .i64 0] (by simp) _ HTo.out.ne rfl
      generalize wr.alloc (.cells #[.int .i64 0, .int .i64 0] 81) = wx at hbx hsx HX ⊢
      have HWx := Lib.hid (hs.out.ws.new HK.out hbx)
      have hcx : wx.cell? ⟨p, o, none⟩ = some (.slice a l.length c) := HWx.out.pa.1.at o HCs2.out
      have HBx := Lib.hid hbx
      have HSx := Lib.hid hsx
      have HXb : Hid (K.base ≤ wr.heap.size ∧ wr.heap.size ≠ K.b ∧ w.heap.size ≤ wr.heap.size) := by
        have h1 := hs.out.ws.fr.size
        have h2 := HB.out
        have h3 := (HK.out.lt hs.out.ws.st).1
        unfold Hid; omega
      clear hbx hsx
      by_cases hil : i < l.length
      · have i1 : (i : Int) < (l.length : Int) := by omega
        obtain ⟨ab, ao, es, rfl, hrep, hrg⟩ := ((HRd.out.in HEo.out).keep HEo.out (HWx.out.fr.keeps.mono fun g _ hg => HAv.out g hg.1)).at HEo.out i hil
        have hel := HEo.out.len hrep
        have HRg := Lib.hid hrg
        have HEl := Lib.hid hel
        have HRp0 := Lib.hid hrep
        have HRo := Lib.hid (HEo.out.one hrep)
        clear hrep hrg hel
        go_wp2_with (first
          | (refine list_load HTo.out rfl _ rfl ab (ao + i * 2) rfl es HEl.out HRg.out ?_)
          | (refine list_store HTo.out rfl _ _ rfl wr.heap.size rfl es rfl HEl.out HRo.out (HX.out.1.there (by simp)) ?_))
        have hap := apartR_setCells wr.heap.size es 0 wx
        have HY : Hid (K.St (runE k.reading (0, 0) s1 l i).1 (wx.setCells wr.heap.size 0 es) ∧ K.base ≤ wr.heap.size ∧ wr.heap.size ≠ K.b ∧ PAt (wx.setCells wr.heap.size 0 es) wr.heap.size es ∧ rdE.rep (fun g => av g ∧ g < w.heap.size) (wx.setCells wr.heap.size 0 es) es (l.getD i (0, 0)) ∧ (∀ g, av g ∧ g < w.heap.size → g ≠ K.b ∧ g ≠ wr.heap.size) ∧ Below wr.heap.size wr (wx.setCells wr.heap.size 0 es) ∧ wr.heap.size < (wx.setCells wr.heap.size 0 es).heap.size) := by
          refine ⟨HK.out.stable HWx.out.st (HX.out.quietR HXb.out.1 HXb.out.2.1 hap), HXb.out.1, HXb.out.2.1, HX.out.setCells es (by rw [HEl.out]; rfl), ?_, fun g hg => ⟨(HAv.out g hg.1).1, by have := HXb.out.2.2; omega⟩, HBx.out.trans (hap.below (Nat.le_refl _)), by rw [hap.2.2.2.1]; exact HSx.out⟩
          have e : l.getD i (0, 0) = l[i] := by simp [hil]
          rw [e]
          exact HEo.out.keep HRp0.out fun g c t f _ _ hg => hap.2.2.2.2 g (by have := HXb.out.2.2; omega)
        generalize wx.setCells wr.heap.size 0 es = wy at HY hap ⊢
        clear hap HRg HEl HRp0 HRo HX HWx HBx HSx hcx
        refine (HWE.out (runE k.reading (0, 0) s1 l i).1 (l.getD i (0, 0)) wy wr.heap.size 0 es es (fun g => av g ∧ g < w.heap.size) HY.out.1 HY.out.2.1 HY.out.2.2.1 HY.out.2.2.2.1 (fun j hj => by rw [Nat.zero_add]) HY.out.2.2.2.2.1 HY.out.2.2.2.2.2.1 HSi.out).mono ?_
        rintro e w2 ⟨rfl, hst, hf, es', hpa, hrep⟩
        have hes' : es'.length = 2 := HEo.out.len hrep
        have hes : es.length = 2 := HEo.out.len HY.out.2.2.2.2.1
        rw [putL_whole (by rw [hes', hes])] at hpa
        have HAp := Lib.hid (hs.out.next HK.out HEo.out HTo.out HB.out HP.out h3 h2 HAv.out HY.out.2.2.2.2.2.2.1 HY.out.2.2.2.2.2.2.2 hst hf hrep (by have := HN6.out; omega) 29)
        have HPx := Lib.hid hpa
        have HRp := Lib.hid (HEo.out.one hrep)
        have HLn := Lib.hid hes'
        clear hst hf hpa hrep hes hes' HY HSi hs
        go_wp2_with (first
          | (refine list_load HTo.out rfl _ rfl wr.heap.size 0 rfl es' HLn.out HPx.out.1.range ?_)
          | (refine list_lit HTo.out rfl _ rfl es' rfl HLn.out HRp.out ?_)
          | (at_builtin; obtain ⟨v', w', hrun, hs'⟩ := HAp.out; have Hrun := Lib.hid hrun; have Hs' := Lib.hid hs'; clear hrun hs'; refine wpList_append_run rfl _ _ _ rfl _ _ _ _ rfl rfl Hrun.out ?_))
        go_roundw
        case rel => exact ⟨i + 1, v', rfl, by go_num, by omega, Hs'⟩
        case measure => simp [intOf]; omega
      · have HY : Hid (K.St (runE k.reading (0, 0) s1 l i).1 wx ∧ K.base ≤ wr.heap.size ∧ wr.heap.size ≠ K.b ∧ PAt wx wr.heap.size [.int .i64 0, .int .i64 0] ∧ rdE.rep (fun g => av g ∧ g < w.heap.size) wx [.int .i64 0, .int .i64 0] (l.getD i (0, 0)) ∧ (∀ g, av g ∧ g < w.heap.size → g ≠ K.b ∧ g ≠ wr.heap.size) ∧ Below wr.heap.size wr wx ∧ wr.heap.size < wx.heap.size) := by
          refine ⟨HWx.out.st, HXb.out.1, HXb.out.2.1, HX.out, ?_, fun g hg => ⟨(HAv.out g hg.1).1, by have := HXb.out.2.2; omega⟩, HBx.out, HSx.out⟩
          have e : l.getD i (0, 0) = (0, 0) := by simp [List.getElem?_eq_none (Nat.le_of_not_lt hil)]
          rw [e]
          exact ⟨rfl, I64.zero, I64.zero⟩
        go_wp2_with fail
        obtain ⟨es, hes0⟩ : ∃ es : List Value, es = [.int .i64 0, .int .i64 0] := ⟨_, rfl⟩
        rw [← hes0] at HY
        clear hes0 HX HWx HBx HSx hcx
        obtain ⟨wy, rfl⟩ : ∃ wy : World, wy = wx := ⟨_, rfl⟩
        refine (HWE.out (runE k.reading (0, 0) s1 l i).1 (l.getD i (0, 0)) wy wr.heap.size 0 es es (fun g => av g ∧ g < w.heap.size) HY.out.1 HY.out.2.1 HY.out.2.2.1 HY.out.2.2.2.1 (fun j hj => by rw [Nat.zero_add]) HY.out.2.2.2.2.1 HY.out.2.2.2.2.2.1 HSi.out).mono ?_
        rintro e w2 ⟨rfl, hst, hf, es', hpa, hrep⟩
        have hes' : es'.length = 2 := HEo.out.len hrep
        have hes : es.length = 2 := HEo.out.len HY.out.2.2.2.2.1
        rw [putL_whole (by rw [hes', hes])] at hpa
        have HAp := Lib.hid (hs.out.next HK.out HEo.out HTo.out HB.out HP.out h3 h2 HAv.out HY.out.2.2.2.2.2.2.1 HY.out.2.2.2.2.2.2.2 hst hf hrep (by have := HN6.out; omega) 29)
        have HPx := Lib.hid hpa
        have HRp := Lib.hid (HEo.out.one hrep)
        have HLn := Lib.hid hes'
        clear hst hf hpa hrep hes hes' HY HSi hs
        go_wp2_with (first
          | (refine list_load HTo.out rfl _ rfl wr.heap.size 0 rfl es' HLn.out HPx.out.1.range ?_)
          | (refine list_lit HTo.out rfl _ rfl es' rfl HLn.out HRp.out ?_)
          | (at_builtin; obtain ⟨v', w', hrun, hs'⟩ := HAp.out; have Hrun := Lib.hid hrun; have Hs' := Lib.hid hs'; clear hrun hs'; refine wpList_append_run rfl _ _ _ rfl _ _ _ _ rfl rfl Hrun.out ?_))
        go_roundw
        case rel => exact ⟨i + 1, v', rfl, by go_num, by omega, Hs'⟩
        case measure => simp [intOf]; omega
    · obtain rfl : i = n := by omega
      obtain ⟨oa, oc, rfl⟩ := hs.out.slice
      have hc5 : wr.cell? ⟨p, o, none⟩ = some (.slice a l.length c) := hs.out.ws.pa.1.at o HCs2.out
      have hf5 : wr.frozen? ⟨p, o, none⟩ = false := hs.out.ws.pa.1.2.2 o HO.out
      have HPo : Hid (WPost K (sliE rdE) (k.slice k.reading (0, 0) s l) p o cs av w (wr.setCell ⟨p, o, none⟩ (.slice oa i oc))) := by rw [HFin.out]; exact hs.out.post HK.out HEo.out HTo.out HN6.out HP.out h3 h2 HAv.out o HO.out
      clear hs
      go_wp2_with fail
      go_end0
      exact ⟨rfl, HPo.out⟩
end
end Go.Proofs.Ytpknalpdcfjffaa
/- store.report, over any walker. Printed by gen_fields.py. -/
namespace Go.Proofs.Ytpknalpdcfjffaa
open Go Go.RowKit

section
variable {σ : Type} {k : Wk σ}
set_option maxHeartbeats 16000000 in
set_option maxRecDepth 100000 in
theorem report_walks (K : WkM k) (hK : K.OK) : Walks K 57 K.recv [] repE k.rep := by
  intro s x w p o cs es av h1 h2 h3 h4 h5 h6 h7 h8
  have HK := Lib.hid hK
  obtain ⟨f_int, m_int, w_int⟩ := hK.int
  have HM_int := Lib.hid m_int
  obtain ⟨f_text, m_text, w_text⟩ := hK.text
  have HM_text := Lib.hid m_text
  have HB : Hid (K.b < w.heap.size) := (hK.lt h1).2
  have HPl : Hid (p < w.heap.size) := h4.lt
  have HAv := Lib.hid h7
  obtain ⟨v, rfl, r1, r2, r3, r4, r5⟩ := h6
  have HAt := Lib.hid h5
  have HW0 : Hid (WS K p s (putL cs o []) w w) := (WS.start h1 h4).whole
  have HSz := Lib.hid h8
  clear h1 h4 h5 h7 h8 hK
  go_enter Try.func57, Try.ntmps57
  try go_wp2_with fail
  refine wp_region_seq (by kernel_rfl) (fun _ => True) [(0, true), (1, true), (2, true), (3, true), (4, true), (5, true), (6, true), (7, false)] (by kernel_rfl) (trivial) ?_
  refine seq_q (d := some 4) rfl rfl rfl (K.recv) (fun w hw => rfl) ?_
  simp only [Act.put, List.setIfInBounds_toArray, List.set_cons_zero, List.set_cons_succ]
  refine seq_q (d := some 5) rfl rfl rfl (.pointer (some ⟨p, o, none⟩)) (fun w hw => rfl) ?_
  simp only [Act.put, List.setIfInBounds_toArray, List.set_cons_zero, List.set_cons_succ]
  refine seq_q (d := some 6) rfl rfl rfl (.pointer (some ⟨p, o, none⟩)) (fun w hw => rfl) ?_
  simp only [Act.put, List.setIfInBounds_toArray, List.set_cons_zero, List.set_cons_succ]
  refine seq_q (d := some 7) rfl rfl rfl (.pointer (some ⟨p, o, none⟩)) (fun w hw => by go_simp) ?_
  simp only [Act.put, List.setIfInBounds_toArray, List.set_cons_zero, List.set_cons_succ]
  refine seq_q (d := some 8) rfl rfl rfl (.func (.method "synoptic/store.int") #[K.recv] #[]) (fun w hw => run_makeFunc (.tmp 4) rfl (K.recv) rfl w) ?_
  simp only [Act.put, List.setIfInBounds_toArray, List.set_cons_zero, List.set_cons_succ]
  refine seq_q (d := some 9) rfl rfl rfl (.func (.method "synoptic/store.int") #[K.recv] #[]) (fun w hw => run_nilMethod HM_int.out.ahead (.tmp 8) rfl rfl w) ?_
  simp only [Act.put, List.setIfInBounds_toArray, List.set_cons_zero, List.set_cons_succ]
  refine seq_q (d := some 10) rfl rfl rfl (K.recv) (fun w hw => rfl) ?_
  simp only [Act.put, List.setIfInBounds_toArray, List.set_cons_zero, List.set_cons_succ]
  refine seq_invoke (d := some 11) rfl rfl rfl HM_int.out.b _ _ _ rfl rfl [.pointer (some ⟨p, o, none⟩)] rfl ((HW0.out.drew HK.out).field w_int intE_ok h2 h3 (es := [.int .i64 x.kind]) (a := []) (c := [.string x.name, .int .i64 x.time, .int .i64 x.pl.f, .int .i64 x.pl.a, .int .i64 x.pl.b, .int .i64 x.pl.c, v]) HAt.out rfl ⟨rfl, r1⟩ HAv.out _ rfl (Nat.le_trans (HK.out.mono.text _ _) (Nat.le_trans (HK.out.mono.int _ _) (Nat.le_trans (HK.out.mono.place _ _) (Nat.le_trans (HK.out.mono.slice HK.out.mono.reading _ _ _) HSz.out))))) ?_
  rintro e w1 ⟨rfl, es0, h1, ⟨rfl, i0⟩, -, hf⟩
  refine ⟨_, rfl, trivial, ?_⟩
  simp only [Act.put, List.setIfInBounds_toArray, List.set_cons_zero, List.set_cons_succ]
  refine seq_end ?_
  have HW1 : Hid (WS K p (k.int s x.kind).1 (putL cs o [.int .i64 (k.int s x.kind).2]) w w1) := h1
  have I0 := Lib.hid i0
  clear i0
  clear h1 hf HW0
  try go_wp2_with fail
  refine wp_region_seq (by kernel_rfl) (fun _ => True) [(0, true), (1, true), (2, true), (3, true), (4, true), (5, true), (6, true), (7, false)] (by kernel_rfl) (trivial) ?_
  refine seq_q (d := some 12) rfl rfl rfl (K.recv) (fun w hw => rfl) ?_
  simp only [Act.put, List.setIfInBounds_toArray, List.set_cons_zero, List.set_cons_succ]
  refine seq_q (d := some 13) rfl rfl rfl (.pointer (some ⟨p, o, none⟩)) (fun w hw => rfl) ?_
  simp only [Act.put, List.setIfInBounds_toArray, List.set_cons_zero, List.set_cons_succ]
  refine seq_q (d := some 14) rfl rfl rfl (.pointer (some ⟨p, o, none⟩)) (fun w hw => rfl) ?_
  simp only [Act.put, List.setIfInBounds_toArray, List.set_cons_zero, List.set_cons_succ]
  refine seq_q (d := some 15) rfl rfl rfl (.pointer (some ⟨p, o + 1, none⟩)) (fun w hw => by go_simp) ?_
  simp only [Act.put, List.setIfInBounds_toArray, List.set_cons_zero, List.set_cons_succ]
  refine seq_q (d := some 16) rfl rfl rfl (.func (.method "synoptic/store.text") #[K.recv] #[]) (fun w hw => run_makeFunc (.tmp 12) rfl (K.recv) rfl w) ?_
  simp only [Act.put, List.setIfInBounds_toArray, List.set_cons_zero, List.set_cons_succ]
  refine seq_q (d := some 17) rfl rfl rfl (.func (.method "synoptic/store.text") #[K.recv] #[]) (fun w hw => run_nilMethod HM_text.out.ahead (.tmp 16) rfl rfl w) ?_
  simp only [Act.put, List.setIfInBounds_toArray, List.set_cons_zero, List.set_cons_succ]
  refine seq_q (d := some 18) rfl rfl rfl (K.recv) (fun w hw => rfl) ?_
  simp only [Act.put, List.setIfInBounds_toArray, List.set_cons_zero, List.set_cons_succ]
  refine seq_invoke (d := some 19) rfl rfl rfl HM_text.out.b _ _ _ rfl rfl [.pointer (some ⟨p, o + 1, none⟩)] rfl ((HW1.out.drew HK.out).field w_text strE_ok h2 h3 (es := [.string x.name]) (a := [.int .i64 x.kind]) (c := [.int .i64 x.time, .int .i64 x.pl.f, .int .i64 x.pl.a, .int .i64 x.pl.b, .int .i64 x.pl.c, v]) HAt.out rfl ⟨rfl, r2⟩ HAv.out _ rfl (Nat.le_trans (HK.out.mono.int _ _) (Nat.le_trans (HK.out.mono.place _ _) (Nat.le_trans (HK.out.mono.slice HK.out.mono.reading _ _ _) HSz.out)))) ?_
  rintro e w2 ⟨rfl, es1, h1, ⟨rfl, i1⟩, -, hf⟩
  refine ⟨_, rfl, trivial, ?_⟩
  simp only [Act.put, List.setIfInBounds_toArray, List.set_cons_zero, List.set_cons_succ]
  refine seq_end ?_
  have HW2 : Hid (WS K p (k.text (k.int s x.kind).1 x.name).1 (putL cs o [.int .i64 (k.int s x.kind).2, .string (k.text (k.int s x.kind).1 x.name).2]) w w2) := h1
  have I1 := Lib.hid i1
  clear i1
  clear h1 hf HW1
  try go_wp2_with fail
  refine wp_region_seq (by kernel_rfl) (fun _ => True) [(0, true), (1, true), (2, true), (3, true), (4, true), (5, true), (6, true), (7, false)] (by kernel_rfl) (trivial) ?_
  refine seq_q (d := some 20) rfl rfl rfl (K.recv) (fun w hw => rfl) ?_
  simp only [Act.put, List.setIfInBounds_toArray, List.set_cons_zero, List.set_cons_succ]
  refine seq_q (d := some 21) rfl rfl rfl (.pointer (some ⟨p, o, none⟩)) (fun w hw => rfl) ?_
  simp only [Act.put, List.setIfInBounds_toArray, List.set_cons_zero, List.set_cons_succ]
  refine seq_q (d := some 22) rfl rfl rfl (.pointer (some ⟨p, o, none⟩)) (fun w hw => rfl) ?_
  simp only [Act.put, List.setIfInBounds_toArray, List.set_cons_zero, List.set_cons_succ]
  refine seq_q (d := some 23) rfl rfl rfl (.pointer (some ⟨p, o + 2, none⟩)) (fun w hw => by go_simp) ?_
  simp only [Act.put, List.setIfInBounds_toArray, List.set_cons_zero, List.set_cons_succ]
  refine seq_q (d := some 24) rfl rfl rfl (.func (.method "synoptic/store.int") #[K.recv] #[]) (fun w hw => run_makeFunc (.tmp 20) rfl (K.recv) rfl w) ?_
  simp only [Act.put, List.setIfInBounds_toArray, List.set_cons_zero, List.set_cons_succ]
  refine seq_q (d := some 25) rfl rfl rfl (.func (.method "synoptic/store.int") #[K.recv] #[]) (fun w hw => run_nilMethod HM_int.out.ahead (.tmp 24) rfl rfl w) ?_
  simp only [Act.put, List.setIfInBounds_toArray, List.set_cons_zero, List.set_cons_succ]
  refine seq_q (d := some 26) rfl rfl rfl (K.recv) (fun w hw => rfl) ?_
  simp only [Act.put, List.setIfInBounds_toArray, List.set_cons_zero, List.set_cons_succ]
  refine seq_invoke (d := some 27) rfl rfl rfl HM_int.out.b _ _ _ rfl rfl [.pointer (some ⟨p, o + 2, none⟩)] rfl ((HW2.out.drew HK.out).field w_int intE_ok h2 h3 (es := [.int .i64 x.time]) (a := [.int .i64 x.kind, .string x.name]) (c := [.int .i64 x.pl.f, .int .i64 x.pl.a, .int .i64 x.pl.b, .int .i64 x.pl.c, v]) HAt.out rfl ⟨rfl, r3⟩ HAv.out _ rfl (Nat.le_trans (HK.out.mono.place _ _) (Nat.le_trans (HK.out.mono.slice HK.out.mono.reading _ _ _) HSz.out))) ?_
  rintro e w3 ⟨rfl, es2, h1, ⟨rfl, i2⟩, -, hf⟩
  refine ⟨_, rfl, trivial, ?_⟩
  simp only [Act.put, List.setIfInBounds_toArray, List.set_cons_zero, List.set_cons_succ]
  refine seq_end ?_
  have HW3 : Hid (WS K p (k.int (k.text (k.int s x.kind).1 x.name).1 x.time).1 (putL cs o [.int .i64 (k.int s x.kind).2, .string (k.text (k.int s x.kind).1 x.name).2, .int .i64 (k.int (k.text (k.int s x.kind).1 x.name).1 x.time).2]) w w3) := h1
  have I2 := Lib.hid i2
  clear i2
  clear h1 hf HW2
  go_wp2_with fail
  refine (HW3.out.field (place_walks K HK.out) plaE_ok h2 h3 (es := [.int .i64 x.pl.f, .int .i64 x.pl.a, .int .i64 x.pl.b, .int .i64 x.pl.c]) (a := [.int .i64 x.kind, .string x.name, .int .i64 x.time]) (c := [v]) HAt.out rfl ⟨rfl, r4⟩ HAv.out _ rfl (Nat.le_trans (HK.out.mono.slice HK.out.mono.reading _ _ _) HSz.out)).mono ?_
  rintro e w4 ⟨rfl, es3, h1, ⟨rfl, i3⟩, -, hf⟩
  have HW4 : Hid (WS K p (k.place (k.int (k.text (k.int s x.kind).1 x.name).1 x.time).1 x.pl).1 (putL cs o [.int .i64 (k.int s x.kind).2, .string (k.text (k.int s x.kind).1 x.name).2, .int .i64 (k.int (k.text (k.int s x.kind).1 x.name).1 x.time).2, .int .i64 (k.place (k.int (k.text (k.int s x.kind).1 x.name).1 x.time).1 x.pl).2.f, .int .i64 (k.place (k.int (k.text (k.int s x.kind).1 x.name).1 x.time).1 x.pl).2.a, .int .i64 (k.place (k.int (k.text (k.int s x.kind).1 x.name).1 x.time).1 x.pl).2.b, .int .i64 (k.place (k.int (k.text (k.int s x.kind).1 x.name).1 x.time).1 x.pl).2.c]) w w4) := h1
  have I3 := Lib.hid i3
  clear i3
  clear h1 hf HW3
  go_wp2_with fail
  refine (HW4.out.field (slice_rd K HK.out) (sliE_ok rdE_ok) h2 h3 (es := [v]) (a := [.int .i64 x.kind, .string x.name, .int .i64 x.time, .int .i64 x.pl.f, .int .i64 x.pl.a, .int .i64 x.pl.b, .int .i64 x.pl.c]) (c := []) HAt.out rfl ⟨_, rfl, r5⟩ HAv.out _ rfl HSz.out).mono ?_
  rintro e w5 ⟨rfl, es4, h1, ⟨y4, rfl, R4⟩, -, hf⟩
  have HW5 : Hid (WS K p ((k.slice k.reading (0, 0)) (k.place (k.int (k.text (k.int s x.kind).1 x.name).1 x.time).1 x.pl).1 x.rds).1 (putL cs o [.int .i64 (k.int s x.kind).2, .string (k.text (k.int s x.kind).1 x.name).2, .int .i64 (k.int (k.text (k.int s x.kind).1 x.name).1 x.time).2, .int .i64 (k.place (k.int (k.text (k.int s x.kind).1 x.name).1 x.time).1 x.pl).2.f, .int .i64 (k.place (k.int (k.text (k.int s x.kind).1 x.name).1 x.time).1 x.pl).2.a, .int .i64 (k.place (k.int (k.text (k.int s x.kind).1 x.name).1 x.time).1 x.pl).2.b, .int .i64 (k.place (k.int (k.text (k.int s x.kind).1 x.name).1 x.time).1 x.pl).2.c, y4]) w w5) := h1
  have R4h := Lib.hid R4
  clear R4
  have R4 := R4h
  clear R4h
  clear h1 hf HW4
  try go_wp2_with fail
  go_end0
  exact ⟨rfl, WS.post (E := repE) (q := k.rep s x) HW5.out (⟨y4, rfl, I0.out, I1.out, I2.out, I3.out, R4.out⟩)⟩
end
end Go.Proofs.Ytpknalpdcfjffaa
