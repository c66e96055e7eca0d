/- Part 11 of the proof: laws on memory and what functions of the program return. No conditions but those that each theorem names. -/
import Derived.Test.YtpknalpdcfjffaaGreatR10
set_option linter.unusedVariables false
set_option linter.unusedSimpArgs false
/- The law's entry. Printed by gen_law.py. -/
namespace Go.Proofs.YtpknalpdcfjffaaGreat
open Go Go.RowKit

set_option maxHeartbeats 16000000 in
set_option maxRecDepth 100000 in
theorem entry_ok (B b : Nat) (w : World) (h : CodesIs w B b) :
    Calls Tryz.prog 7 #[.pointer (some ⟨b, 0, none⟩)] w (EntIs B b w) := by
  have hle := h.le
  have hbw : Hid (b < w.heap.size) := h.lt
  have H0 : Hid (Mk w B b w.heap.size (kc 0) (w.alloc (.cells #[.int .i64 0, .int .i64 0, .int .i64 0, .string ⟨#[]⟩, .int .i64 0, .int .i64 0, .int .i64 0, .int .i64 0, .int .i64 0, .slice none 0 0, .int .i64 0, .int .i64 0, .int .i64 0, .string ⟨#[]⟩, .int .i64 0, .bool false, .int .i64 0, .int .i64 0, .int .i64 0, .int .i64 0, .slice none 0 0, .int .i64 0, .int .i64 0, .int .i64 0, .slice none 0 0, .slice none 0 0, .slice none 0 0, .slice none 0 0, .int .i64 0, .int .u64 0, .int .i64 0, .int .i64 0, .int .i64 0, .int .i64 0, .slice none 0 0, .slice none 0 0, .slice none 0 0, .slice none 0 0] 55))) := Mk.new (St.start h) hle (kc 0) (by rw [kc_length]; decide) 55 (by decide)
  clear h hle
  go_enter Tryz.func7, Tryz.ntmps7
  go_wp2_with fail
  generalize w.alloc (.cells #[.int .i64 0, .int .i64 0, .int .i64 0, .string ⟨#[]⟩, .int .i64 0, .int .i64 0, .int .i64 0, .int .i64 0, .int .i64 0, .slice none 0 0, .int .i64 0, .int .i64 0, .int .i64 0, .string ⟨#[]⟩, .int .i64 0, .bool false, .int .i64 0, .int .i64 0, .int .i64 0, .int .i64 0, .slice none 0 0, .int .i64 0, .int .i64 0, .int .i64 0, .slice none 0 0, .slice none 0 0, .slice none 0 0, .slice none 0 0, .int .i64 0, .int .u64 0, .int .i64 0, .int .i64 0, .int .i64 0, .int .i64 0, .slice none 0 0, .slice none 0 0, .slice none 0 0, .slice none 0 0] 55) = w0 at H0 ⊢
  refine (next_ok B b 4 w0 H0.out.st.1 (by omega) (by omega)).mono ?_
  rintro e w1 ⟨x, x0, x1, rfl, hs⟩
  have H1 := Lib.hid (H0.out.call hs)
  have HA : Hid (Mk w B b w1.heap.size (kc 0) (w1.alloc (.cells #[.int .i64 0, .int .i64 0, .int .i64 0, .string ⟨#[]⟩, .int .i64 0, .int .i64 0, .int .i64 0, .int .i64 0, .int .i64 0, .slice none 0 0, .int .i64 0, .int .i64 0, .int .i64 0, .string ⟨#[]⟩, .int .i64 0, .bool false, .int .i64 0, .int .i64 0, .int .i64 0, .int .i64 0, .slice none 0 0, .int .i64 0, .int .i64 0, .int .i64 0, .slice none 0 0, .slice none 0 0, .slice none 0 0, .slice none 0 0, .int .i64 0, .int .u64 0, .int .i64 0, .int .i64 0, .int .i64 0, .int .i64 0, .slice none 0 0, .slice none 0 0, .slice none 0 0, .slice none 0 0] 55))) := Mk.new H1.out.st H1.out.bb (kc 0) (by rw [kc_length]; decide) 55 (by decide)
  clear hs H0
  have hx : x = 0 ∨ x = 1 ∨ x = 2 ∨ x = 3 := by omega
  clear x0 x1
  rcases hx with rfl | rfl | rfl | rfl
  · skip
    have hbK := run_buildK 1
    go_upto_region 2 with (refine list_storeAgg rfl _ _ rfl w1.heap.size 0 rfl (kc 1) rfl sz_ent (kc_one 1) (HA.out.pa.thereMid 0 38 (by rw [kc_length]; decide)) ?_; intro wM hwM)
    have HE := Lib.hid (En.new (k := 1) (by unfold I64; omega) H1.out hbw.out hwM)
    clear hwM HA H1
    generalize w1.heap.size = P at HE ⊢
    have hk0 : wM.cell? ⟨P, 0, none⟩ = some (.int .i64 1) := HE.out.m.pa.1.at 0 rfl
    go_wp2_with fail
    refine (int_ok B b wM HE.out.m.st.1).mono ?_
    rintro e w2 ⟨n, hx, rfl, hs⟩
    have HE2 := Lib.hid (HE.out.call hs)
    have HX := Lib.hid hx
    clear hs hx HE hk0
    go_wp2_with (first
      | (refine list_storeEl intT rfl _ _ rfl P 1 rfl [(.int .i64 n)] rfl rfl (all_one rfl) (HE2.out.m.pa.thereMid 1 1 (by rw [entCells_length]; decide)) ?_
         intro w3 hw
         have HE3 : Hid (En w B b P { Ent.zero with kind := 1, now := n } nilV nilV nilV nilV nilV nilV nilV nilV nilV nilV w3) := by
           exact HE2.out.setNow HX.out hw
         clear hw HE2)
      | (refine list_loadAgg HE3.out.load rfl _ rfl rfl ?_)
      | (refine list_entStore HE3.out rfl _ _ rfl rfl rfl ?_; intro wz hwz; have HW := Lib.hid hwz; clear hwz)
      | fail)
    exact HE3.out.ret HW.out rfl rfl rfl (Or.inl rfl) ⟨⟨Nat.zero_le _, Nat.zero_le _⟩, Nat.zero_le _, Nat.zero_le _, Or.inl rfl⟩
  · skip
    have hbK := run_buildK 2
    go_upto_region 2 with (refine list_storeAgg rfl _ _ rfl w1.heap.size 0 rfl (kc 2) rfl sz_ent (kc_one 2) (HA.out.pa.thereMid 0 38 (by rw [kc_length]; decide)) ?_; intro wM hwM)
    have HE := Lib.hid (En.new (k := 2) (by unfold I64; omega) H1.out hbw.out hwM)
    clear hwM HA H1
    generalize w1.heap.size = P at HE ⊢
    have hk0 : wM.cell? ⟨P, 0, none⟩ = some (.int .i64 2) := HE.out.m.pa.1.at 0 rfl
    go_wp2_with fail
    refine (report_ok B b wM HE.out.m.st.1).mono ?_
    rintro e w2 ⟨r, cs, rfl, hrep, h1, h2, hs⟩
    obtain ⟨rv, rfl, r1, r2, r3, r4, r5⟩ := repP hrep
    obtain ⟨ra, rc, rfl⟩ := r5.slice
    have HE2 := Lib.hid (HE.out.call hs)
    have HSr : Hid (smRep r) := ⟨h1, h2⟩
    have HRp := Lib.hid (And.intro r1 (And.intro r2 (And.intro r3 r4)))
    have HRd := Lib.hid (Cy.rd (b := b) (P := P) (w := w) rdE_ok r5 HE.out.m.lt HE.out.m.st.lt HE.out.r.lt)
    clear hs h1 h2 hrep r1 r2 r3 r4 r5 HE hk0
    simp only [repCells]
    go_wp2_with fail
    refine (next_ok B b 27 w2 HE2.out.m.st.1 (by omega) (by omega)).mono ?_
    rintro e w3 ⟨co, j0, jm, rfl, hs⟩
    have HE3 := Lib.hid (HE2.out.call hs)
    have HRd3 := Lib.hid (rdk rdE_ok HRd.out (Kp.st (P := P) hs))
    have HCo : Hid (I64 co) := by unfold Hid; unfold I64; omega
    clear hs j0 jm HE2 HRd
    go_wp2_with fail
    refine (int_ok B b w3 HE3.out.m.st.1).mono ?_
    rintro e w4 ⟨ar, hx, rfl, hs⟩
    have HE4 := Lib.hid (HE3.out.call hs)
    have HRd4 := Lib.hid (rdk rdE_ok HRd3.out (Kp.st (P := P) hs))
    have HAr := Lib.hid hx
    clear hs hx HE3 HRd3
    go_wp2_with (first
      | (refine list_storeAgg rfl _ _ rfl P 2 rfl (itmCells r (.slice ra r.rds.length rc) co ar) rfl (by rw [sz_item]; rfl) (all_one rfl) (HE4.out.m.pa.thereMid 2 _ (by rw [entCells_length]; simp [itmCells, repCells])) ?_
         intro w5 hw
         have HE5 : Hid (En w B b P { Ent.zero with kind := 2, rep := r, corr := co, arr := ar } (.slice ra r.rds.length rc) nilV nilV nilV nilV nilV nilV nilV nilV nilV w5) := by
           exact HE4.out.setItem HRp.out HRd4.out HCo.out HAr.out hw
         clear hw HE4 HRd4)
      | (refine list_loadAgg HE5.out.load rfl _ rfl rfl ?_)
      | (refine list_entStore HE5.out rfl _ _ rfl rfl rfl ?_; intro wz hwz; have HW := Lib.hid hwz; clear hwz)
      | fail)
    exact HE5.out.ret HW.out rfl rfl rfl (Or.inr (Or.inl rfl)) ⟨HSr.out, Nat.zero_le _, Nat.zero_le _, Or.inl rfl⟩
  · skip
    have hbK := run_buildK 3
    go_upto_region 2 with (refine list_storeAgg rfl _ _ rfl w1.heap.size 0 rfl (kc 3) rfl sz_ent (kc_one 3) (HA.out.pa.thereMid 0 38 (by rw [kc_length]; decide)) ?_; intro wM hwM)
    have HE := Lib.hid (En.new (k := 3) (by unfold I64; omega) H1.out hbw.out hwM)
    clear hwM HA H1
    generalize w1.heap.size = P at HE ⊢
    have hk0 : wM.cell? ⟨P, 0, none⟩ = some (.int .i64 3) := HE.out.m.pa.1.at 0 rfl
    go_wp2_with fail
    refine (next_ok B b 4 wM HE.out.m.st.1 (by omega) (by omega)).mono ?_
    rintro e w2 ⟨st, j0, jm, rfl, hs⟩
    have HE2 := Lib.hid (HE.out.call hs)
    have HSt : Hid (I64 st) := by unfold Hid; unfold I64; omega
    clear hs j0 jm HE hk0
    go_wp2_with fail
    refine (name_ok B b w2 HE2.out.m.st.1).mono ?_
    rintro e w3 ⟨nm, hx, rfl, hs⟩
    have HE3 := Lib.hid (HE2.out.call hs)
    have HNm := Lib.hid hx
    clear hs hx HE2
    go_upto_region 10 with (first
        | (refine list_storeEl intT rfl _ _ rfl P 12 rfl [(.int .i64 st)] rfl rfl (all_one rfl) (HE3.out.m.pa.thereMid 12 1 (by rw [entCells_length]; decide)) ?_
           intro w4 hw
           have HE4 : Hid (En w B b P { Ent.zero with kind := 3, st := st } nilV nilV nilV nilV nilV nilV nilV nilV nilV nilV w4) := by
             exact HE3.out.setSt HSt.out hw
           clear hw HE3)
        | (refine list_storeEl strT rfl _ _ rfl P 13 rfl [(.string nm)] rfl rfl (all_one rfl) (HE4.out.m.pa.thereMid 13 1 (by rw [entCells_length]; decide)) ?_
           intro w5 hw
           have HE5 : Hid (En w B b P { Ent.zero with kind := 3, st := st, name := nm } nilV nilV nilV nilV nilV nilV nilV nilV nilV nilV w5) := by
             exact HE4.out.setName (Nat.le_trans HNm.out (by decide)) hw
           clear hw HE4)
        | fail)
    go_wp2_with fail
    refine (int_ok B b w5 HE5.out.m.st.1).mono ?_
    rintro e w6 ⟨fr, hx, rfl, hs⟩
    have HE6 := Lib.hid (HE5.out.call hs)
    have HFr := Lib.hid hx
    clear hs hx HE5
    go_wp2_with fail
    refine (next_ok B b 2 w6 HE6.out.m.st.1 (by omega) (by omega)).mono ?_
    rintro e w7 ⟨cl, j0, jm, rfl, hs⟩
    have HE7 := Lib.hid (HE6.out.call hs)
    clear hs j0 jm HE6
    go_wp2_with fail
    refine (place_ok B b w7 HE7.out.m.st.1).mono ?_
    rintro e w8 ⟨f, p, q, r, f0, f1, p0, p1, q0, q1, r0, r1, rfl, hs⟩
    have HE8 := Lib.hid (HE7.out.call hs)
    have HPl : Hid (okPla ⟨f, p, q, r⟩) := by unfold Hid; simp only [okPla, okI, I64]; omega
    clear hs HE7 f0 f1 p0 p1 q0 q1 r0 r1
    generalize (cl == 1) = cb
    go_wp2_with (first
      | (refine list_storeAgg rfl _ _ rfl P 14 rfl [.int .i64 fr, .bool cb, .int .i64 f, .int .i64 p, .int .i64 q, .int .i64 r, nilV] rfl (by rw [sz_per]; rfl) (all_one rfl) (HE8.out.m.pa.thereMid 14 _ (by rw [entCells_length]; simp)) ?_
         intro w9 hw
         have HE9 : Hid (En w B b P { Ent.zero with kind := 3, st := st, name := nm, from_ := fr, closed := cb, pl := ⟨f, p, q, r⟩ } nilV nilV nilV nilV nilV nilV nilV nilV nilV nilV w9) := HE8.out.setPer (p := ⟨f, p, q, r⟩) HFr.out HPl.out hw
         clear hw HE8)
      | fail)
    refine (next_ok B b 3 w9 HE9.out.m.st.1 (by omega) (by omega)).mono ?_
    rintro e W0 ⟨n, n0, n1, rfl, hs⟩
    obtain ⟨n, rfl⟩ := Int.eq_ofNat_of_zero_le n0
    have HC0 := Lib.hid (HE9.out.call hs)
    have HS := Lib.hid (Lp.start (E := rdE) (T := 77) HC0.out.m)
    clear hs HE9
    go_wp2_with fail
    go_loopw [4] (fun kv wr => ∃ (k : Nat) (v : Value) (l : List (Int × Int)), kv = .int .i64 k ∧ l.length + k ≤ 2 ∧ Hid (Lp rdE 77 w B b P (entCells { Ent.zero with kind := 3, st := st, name := nm, from_ := fr, closed := cb, pl := ⟨f, p, q, r⟩ } nilV v nilV nilV nilV nilV nilV nilV nilV nilV) W0 v l wr)) (fun kv _ => (intOf kv).toNat)
    case atStart => exact ⟨n, _, [], rfl, by simp; omega, HS⟩
    case round =>
      clear HS
      obtain ⟨k, v, l, rfl, hk, H0⟩ := hrel
      obtain ⟨va0, vc0, rfl⟩ := H0.out.row.slice
      have HL := Lib.hid hk
      by_cases hk0 : 0 < k
      · have k0 : (0 : Int) < (k : Int) := by omega
        clear hk
        go_upto_region 14 with fail
        refine wp_region_seqL (by kernel_rfl) (fun w' => PAt w' P (entCells { Ent.zero with kind := 3, st := st, name := nm, from_ := fr, closed := cb, pl := ⟨f, p, q, r⟩ } nilV (.slice va0 l.length vc0) nilV nilV nilV nilV nilV nilV nilV nilV)) 12 [(0, 0), (1, 0), (2, 1), (3, 0), (5, 0), (4, 2), (6, 2), (7, 0), (8, 2), (9, 2), (10, 0), (11, 0), (12, 2)] (by kernel_rfl) (H0.out.m.pa.drew) ?_
        refine sl_q (d := some 52) rfl rfl rfl (.pointer (some ⟨P, 14, none⟩)) (fun w => by go_simp) ?_
        simp only [Act.put, List.setIfInBounds_toArray, List.set_cons_zero, List.set_cons_succ]
        refine sl_q (d := some 53) rfl rfl rfl (.pointer (some ⟨P, 20, none⟩)) (fun w => by go_simp) ?_
        simp only [Act.put, List.setIfInBounds_toArray, List.set_cons_zero, List.set_cons_succ]
        refine sl_s (d := some 54) rfl rfl rfl (.slice va0 l.length vc0) (fun w hw => by have hw0 := hw.1.at 20 rfl; simp [execOp, Act.eval, hw0, go_sem]) ?_
        simp only [Act.put, List.setIfInBounds_toArray, List.set_cons_zero, List.set_cons_succ]
        refine sl_q (d := some 55) rfl rfl rfl (.pointer (some ⟨b, 0, none⟩)) (fun w => rfl) ?_
        simp only [Act.put, List.setIfInBounds_toArray, List.set_cons_zero, List.set_cons_succ]
        refine sl_q (d := some 57) rfl rfl rfl (.pointer (some ⟨b, 0, none⟩)) (fun w => rfl) ?_
        simp only [Act.put, List.setIfInBounds_toArray, List.set_cons_zero, List.set_cons_succ]
        refine sl_call (d := some 56) rfl rfl rfl ⟨_, Tryz.func6, by kernel_rfl, by kernel_rfl⟩ _ _ _ rfl rfl [.pointer (some ⟨b, 0, none⟩), .int .i64 12] rfl (next_ok B b 12 (wr.drew) ((H0.out.drew rdE_ok).m.st.1) (by omega) (by omega)) ?_
        rintro e w1 ⟨y1, p1, q1, rfl, hs⟩
        have H1 := Lib.hid ((H0.out.drew rdE_ok).call rdE_ok hs)
        clear hs
        have HY1 : Hid (0 ≤ y1 ∧ y1 ≤ 11) := ⟨p1, by omega⟩
        clear p1 q1
        refine ⟨_, rfl, fun _ => H1.out.m.pa, ?_⟩
        simp only [Act.put, List.setIfInBounds_toArray, List.set_cons_zero, List.set_cons_succ]
        refine sl_call (d := some 58) rfl rfl rfl ⟨_, Tryz.func19, by kernel_rfl, by kernel_rfl⟩ _ _ _ rfl rfl [.pointer (some ⟨b, 0, none⟩)] rfl (int_ok B b (w1) (H1.out.m.st.1)) ?_
        rintro e w2 ⟨y2, hx, rfl, hs⟩
        have H2 := Lib.hid (H1.out.call rdE_ok hs)
        have HY2 := Lib.hid hx
        clear hs hx
        refine ⟨_, rfl, fun _ => H2.out.m.pa, ?_⟩
        simp only [Act.put, List.setIfInBounds_toArray, List.set_cons_zero, List.set_cons_succ]
        refine sl_q (d := some 59) rfl rfl rfl (.agg #[.int .i64 y1, .int .i64 y2]) (fun w => by simp [execOp, Act.eval, Instr.build, go_sem]) ?_
        simp only [Act.put, List.setIfInBounds_toArray, List.set_cons_zero, List.set_cons_succ]
        have hre : rdE.rep (avR W0.heap.size (.slice va0 l.length vc0)) (w2) [.int .i64 y1, .int .i64 y2] (y1, y2) := ⟨rfl, by have := HY1.out; unfold I64; omega, HY2.out⟩
        obtain ⟨va, wa, hrun, hr, hb⟩ := RowE.append rdE_ok rdT H2.out.row hre (by have := HL.out; omega) H2.out.kp.size 30
        have HA := Lib.hid (Lp.next H2.out hr hb)
        have HRun := Lib.hid hrun
        clear hrun hr hb
        refine sl_run (d := some 60) rfl rfl rfl (.slice (some ⟨(w2).heap.size, 0, none⟩) 1 1) ((w2).alloc (.cells ([.int .i64 y1, .int .i64 y2]).toArray 77)) (lit_run rdT _ rfl _ [.int .i64 y1, .int .i64 y2] rfl (rdE_ok.len hre) (rdE_ok.one hre)) (fun _ => (H2.out.alloc rdE_ok _).m.pa) ?_
        clear hre
        simp only [Act.put, List.setIfInBounds_toArray, List.set_cons_zero, List.set_cons_succ]
        refine sl_run (d := some 61) rfl rfl rfl va wa (run_append _ _ _ rfl _ _ rfl rfl HRun.out) (fun _ => HA.out.m.pa) ?_
        simp only [Act.put, List.setIfInBounds_toArray, List.set_cons_zero, List.set_cons_succ]
        refine sl_q (d := some 62) rfl rfl rfl (.pointer (some ⟨P, 14, none⟩)) (fun w => by go_simp) ?_
        simp only [Act.put, List.setIfInBounds_toArray, List.set_cons_zero, List.set_cons_succ]
        refine sl_q (d := some 63) rfl rfl rfl (.pointer (some ⟨P, 20, none⟩)) (fun w => by go_simp) ?_
        simp only [Act.put, List.setIfInBounds_toArray, List.set_cons_zero, List.set_cons_succ]
        obtain ⟨va1, va2, va3⟩ := HA.out.row.slice
        subst va3
        have q0 := HA.out.m.pa.1.at 20 rfl
        have q1 := HA.out.m.pa.1.2.2 20 (by simp [entCells])
        have HZ := Lib.hid (HA.out.set rdE_ok 20 (.slice va1 (l ++ [(y1, y2)]).length va2) (by simp [entCells]))
        clear HA
        refine sl_skip (d := none) rfl rfl rfl (wa.setCell ⟨P, 20, none⟩ (.slice va1 (l ++ [(y1, y2)]).length va2)) (by simp [execOp, Act.eval, q0, q1, go_sem]) (fun h => by cases h) ?_
        clear q0 q1
        simp only [Act.put, List.setIfInBounds_toArray, List.set_cons_zero, List.set_cons_succ]
        refine sl_end ?_
        have HZ1 : Hid (Lp rdE 77 w B b P (entCells { Ent.zero with kind := 3, st := st, name := nm, from_ := fr, closed := cb, pl := ⟨f, p, q, r⟩ } nilV (.slice va1 (l ++ [(y1, y2)]).length va2) nilV nilV nilV nilV nilV nilV nilV nilV) W0 (.slice va1 (l ++ [(y1, y2)]).length va2) (l ++ [(y1, y2)]) (wa.setCell ⟨P, 20, none⟩ (.slice va1 (l ++ [(y1, y2)]).length va2))) := HZ
        generalize wa.setCell ⟨P, 20, none⟩ (.slice va1 (l ++ [(y1, y2)]).length va2) = wz at HZ1 ⊢
        clear HZ HRun H0 H1 H2
        have hk2 : k ≤ 2 := by have := HL.out; omega
        go_wp2_with fail
        go_roundw
        case rel => exact ⟨k - 1, _, _, by go_num, by have := HL.out; simp; omega, HZ1⟩
        case measure => simp [intOf]; omega
      · obtain rfl : k = 0 := by omega
        have HE10 : Hid (En w B b P { Ent.zero with kind := 3, st := st, name := nm, from_ := fr, closed := cb, pl := ⟨f, p, q, r⟩, bias := l } nilV (.slice va0 l.length vc0) nilV nilV nilV nilV nilV nilV nilV nilV wr) := HC0.out.setBias H0.out.kp H0.out.m (Cy.rd (b := b) (P := P) (w := w) rdE_ok (H0.out.row.rd rdE_ok (by decide) (by omega)) H0.out.pb (by have := H0.out.pb; have := H0.out.m.lo; omega) HC0.out.r.lt)
        clear hk H0 HC0
        go_wp2_with (first
          | (refine list_loadAgg HE10.out.load rfl _ rfl rfl ?_)
          | (refine list_entStore HE10.out rfl _ _ rfl rfl rfl ?_; intro wz hwz; have HW := Lib.hid hwz; clear hwz)
          | fail)
        exact HE10.out.ret HW.out rfl rfl rfl (Or.inr (Or.inr (Or.inl rfl))) ⟨⟨Nat.zero_le _, Nat.zero_le _⟩, HNm.out, by have := HL.out; simpa using this, Or.inl rfl⟩
  · skip
    have hbK := run_buildK 4
    go_upto_region 2 with (refine list_storeAgg rfl _ _ rfl w1.heap.size 0 rfl (kc 4) rfl sz_ent (kc_one 4) (HA.out.pa.thereMid 0 38 (by rw [kc_length]; decide)) ?_; intro wM hwM)
    have HE := Lib.hid (En.new (k := 4) (by unfold I64; omega) H1.out hbw.out hwM)
    clear hwM HA H1
    generalize w1.heap.size = P at HE ⊢
    have hk0 : wM.cell? ⟨P, 0, none⟩ = some (.int .i64 4) := HE.out.m.pa.1.at 0 rfl
    go_wp2_with fail
    refine (made_ok B b wM HE.out.m.st.1).mono ?_
    rintro e w2 ⟨c, cs, rfl, hrep, hsm, hs⟩
    have hrep2 := cycE_ok.weak (av' := fun k => nb b P k ∧ w.heap.size < k) hrep fun k hk _ => by
      have h1 : wM.heap.size ≤ k := hk
      have := HE.out.m.lt; have := HE.out.m.st.lt; have := HE.out.r.lt
      exact ⟨⟨by omega, by omega⟩, by omega⟩
    obtain ⟨u0, u1, u2, u3, u4, u5, u6, u7, rfl, hc⟩ := hrep2
    have HE2 := Lib.hid (HE.out.call hs)
    have HSm := Lib.hid hsm
    have HOne := Lib.hid (cycE_ok.one hrep)
    have HC : Hid (cycR (fun k => nb b P k ∧ w.heap.size < k) w2 c u0 u1 u2 u3 u4 u5 u6 u7) := hc
    clear hs hsm hc hrep HE hk0
    go_wp2_with (first
      | (refine list_storeAgg rfl _ _ rfl P 21 rfl (cycCells c u0 u1 u2 u3 u4 u5 u6 u7) rfl (by rw [sz_cyc]; rfl) HOne.out (HE2.out.m.pa.thereMid 21 _ (by simp [entCells, cycCells])) ?_
         intro w3 hw
         have HE3 : Hid (En w B b P { Ent.zero with kind := 4, cyc := c } nilV nilV u0 u1 u2 u3 u4 u5 u6 u7 w3) := by
           exact HE2.out.setCyc HC.out hw
         clear hw HE2)
      | (refine list_loadAgg HE3.out.load rfl _ rfl rfl ?_)
      | (refine list_entStore HE3.out rfl _ _ rfl rfl rfl ?_; intro wz hwz; have HW := Lib.hid hwz; clear hwz)
      | fail)
    exact HE3.out.ret HW.out rfl rfl rfl (Or.inr (Or.inr (Or.inr rfl))) ⟨⟨Nat.zero_le _, Nat.zero_le _⟩, Nat.zero_le _, Nat.zero_le _, Or.inr HSm.out⟩
end Go.Proofs.YtpknalpdcfjffaaGreat
/- New of synopticfield: a reader of the first choices of a list that came in. -/
namespace Go.Proofs.YtpknalpdcfjffaaGreat
open Go Go.RowKit

/-- A list of bytes that came in, below block B. -/
def U8At (w : World) (B : Nat) (v : Value) : Prop :=
  ∃ (a : Option Addr) (len cap : Nat), v = .slice a len cap ∧ len ≤ cap ∧ cap ≤ 9223372036854775807 ∧
    ∀ i, i < len → ∃ ab ao : Nat, a = some ⟨ab, ao, none⟩ ∧ ab < B ∧ ∃ z : Int, 0 ≤ z ∧ z ≤ 255 ∧ w.cell? ⟨ab, ao + i, none⟩ = some (.int .u8 z)
theorem U8At.below {w w' : World} {B : Nat} {v : Value} (h : U8At w B v) (hb : Below w.heap.size w w') : U8At w' B v := by
  obtain ⟨a, len, cap, e, h1, h2, h3⟩ := h
  refine ⟨a, len, cap, e, h1, h2, fun i hi => ?_⟩
  obtain ⟨ab, ao, ha, hB, z, z0, z1, hc⟩ := h3 i hi
  refine ⟨ab, ao, ha, hB, z, z0, z1, ?_⟩
  rw [hb.cell (World.block_lt_of_cell? _ _ hc)]; exact hc
/-- A new reader. -/
def NewCodes (B : Nat) (w : World) (e : Ending) (w' : World) : Prop := e = .returned (.pointer (some ⟨w.heap.size, 0, none⟩)) ∧ CodesIs w' B w.heap.size ∧ Below w.heap.size w w' ∧ w'.heap.size = w.heap.size + 1
set_option maxHeartbeats 1000000 in
theorem cnew_ok (v : Value) (m : Nat) (B : Nat) (w : World) (hB : B ≤ w.heap.size) (hm : m ≤ 1000) (h : U8At w B v) : Calls Tryz.prog 5 #[v, .int .i64 m] w (NewCodes B w) := by
  obtain ⟨a, len, cap, rfl, hlc, hc, hel⟩ := h
  have Hel := Lib.hid hel
  have fin : ∀ (k : Nat), k ≤ len → k ≤ 1000 → NewCodes B w (.returned (.pointer (some ⟨w.heap.size, 0, none⟩))) (w.alloc (.cells #[.slice a k cap, .int .i64 0] 71)) := by
    intro k hk hk2
    have hb : Below w.heap.size w (w.alloc (.cells #[.slice a k cap, .int .i64 0] 71)) := (Below.refl _ _).alloc (Nat.le_refl _) _
    refine ⟨rfl, ⟨a, k, cap, 0, hB, by simp, by simp, by simp, by omega, hk2, fun i _ hi => ?_⟩, hb, by simp⟩
    obtain ⟨ab, ao, ha, hlt, z, z0, z1, hcell⟩ := Hel.out i (by omega)
    refine ⟨ab, ao, ha, hlt, z, z0, z1, ?_⟩
    rw [hb.cell (World.block_lt_of_cell? _ _ hcell), hcell]
  have Hfin := Lib.hid fin
  clear fin hel
  by_cases hlt : m < len
  · have hlt' : (m : Int) < (len : Int) := by omega
    go_enter Tryz.func5, Tryz.ntmps5
    go_wp2_with fail
    go_ret
    exact Hfin.out m (by omega) hm
  · go_enter Tryz.func5, Tryz.ntmps5
    go_wp2_with fail
    go_ret
    exact Hfin.out len (Nat.le_refl _) (by omega)
end Go.Proofs.YtpknalpdcfjffaaGreat
/- A Log variable, and what a law answers. No walk. -/
namespace Go.Proofs.YtpknalpdcfjffaaGreat
open Go Go.RowKit

theorem list_loadAggG {T : TypeId} {ops : Array Oper} {rest : List Oper} {op : Oper} {a : Act} {w : World} {Q : Exit → Act → World → Prop} {ad : Addr} {v : Value} (hrun : (loadVar T ad).run Tryz.prog w = .ok v w) (hw : Region.wanted op (yielded ops a.tmps) = true) (x : Operand) (ho : op.op = .load T x) (hx : a.eval x = .pointer (some ad))
    (k : wpList Tryz.prog ops Q rest (a.put op.dst v) w) : wpList Tryz.prog ops Q (op :: rest) a w := by
  unfold wpList
  rw [if_pos hw]
  refine Or.inl ?_
  unfold Oper.wp execOp
  simp only [ho, hx, Instr.loadAt, Instr.sureAddr, Sem.run_bind, Sem.run_pure, Result.andThen_ok, hrun]
  exact k
theorem rsameB_self (x : Ent) : rsameB x x = true := by simp [rsameB]
theorem sameB_self (x : Ent) : sameB x x = true := by simp [sameB]
/-- A Log's variable, just made and stored. -/
theorem log_new (W : World) (cs : List Value) (hl : cs.length = 38) {W' : World} (hW : W' = (W.alloc (.cells (kc 0).toArray 55)).setCells W.heap.size 0 cs) : PAt W' W.heap.size cs ∧ Below W.heap.size W W' := by
  rw [hW]
  exact ⟨(PAt.new W (kc 0) (by rw [kc_length]; decide) 55 (by decide) rfl).setCells cs (by rw [hl, kc_length]), ((Below.refl _ _).alloc (Nat.le_refl _) _).trans ((apartR_setCells _ _ _ _).below (Nat.le_refl _))⟩
theorem log_there (W : World) (n : Nat) (hn : n ≤ 38) : (W.alloc (.cells (kc 0).toArray 55)).there W.heap.size 0 n := (PAt.new W (kc 0) (by rw [kc_length]; decide) 55 (by decide) rfl).1.there (by rw [kc_length]; exact hn)
def TrueIs (w : World) (e : Ending) (w' : World) : Prop := e = .returned (.bool true) ∧ Below w.heap.size w w'
end Go.Proofs.YtpknalpdcfjffaaGreat
/- store.Append. -/
namespace Go.Proofs.YtpknalpdcfjffaaGreat
open Go Go.RowKit

/-- What Append gives: the journal with the entries behind it, or the first error. -/
def appRes : List UInt8 → List Ent → List UInt8 × Int
  | acc, [] => (acc, 0)
  | acc, x :: xs => if (encRes x.kind (entB x)).2 = 0 then appRes (acc ++ (encRes x.kind (entB x)).1) xs else ([], (encRes x.kind (entB x)).2)
theorem encRes_len (k : Int) (o : Option (List UInt8)) : (encRes k o).1.length ≤ 1048576 := by
  unfold encRes
  cases o with
  | none => simp
  | some b =>
    simp only
    split
    · simp
    · simp only [List.length_append, be_length, List.length_cons]; omega
theorem encRes_int (k : Int) (o : Option (List UInt8)) : 0 ≤ (encRes k o).2 ∧ (encRes k o).2 ≤ 4 := by
  unfold encRes
  cases o with
  | none => simp
  | some b => simp only; split <;> simp
def AppIs (jl : List UInt8) (xs : List Ent) (w : World) (e : Ending) (w' : World) : Prop := ∃ v, e = .returned (.tuple #[v, .int .i64 (appRes jl xs).2]) ∧ OwnB w' w.heap.size v (appRes jl xs).1 ∧ Below w.heap.size w w'
theorem log_load {w : World} {b o : Nat} {es : List Value} (h : w.rangeAt b o es) (hl : es.length = 38) : (loadVar 55 ⟨b, o, none⟩).run Tryz.prog w = .ok (.agg es.toArray) w := run_loadVar_mid w b o _ es _ h Tryz.underlying55 rfl (by rw [sz_ent, hl])
/-- An element, as it lies in whatever world keeps what was there. -/
theorem RdS.atBelow {α : Type} {E : El α} {av : Nat → Prop} {w : World} {a : Option Addr} {n c : Nat} {l : List α} (hE : E.OK) (h : RdS E av w (.slice a n c) l) (i : Nat) (hi : i < l.length) :
    ∃ (ab ao : Nat) (es : List Value), a = some ⟨ab, ao, none⟩ ∧ ∀ W, Below w.heap.size w W → E.rep av W es l[i] ∧ W.rangeAt ab (ao + i * E.n) es := by
  obtain ⟨ab, ao, es, ea, e1, e2⟩ := h.at hE i hi
  refine ⟨ab, ao, es, ea, fun W hW => ⟨hE.keep e1 (Keeps.of_below hW), fun j v hj => ?_⟩⟩
  have h1 := e2 j v hj
  exact cell_then hW h1
theorem OwnB.grownB {w w' : World} {base : Nat} {v : Value} {l : List UInt8} (h : OwnB w base v l) (hb : Below w.heap.size w w') : OwnB w' base v l := ownsRow_below h hb
set_option maxHeartbeats 16000000 in
set_option maxRecDepth 100000 in
theorem app_any (v lv : Value) (jl : List UInt8) (xs : List Ent) (av : Nat → Prop) (w : World) (h : BytesL w w.heap.size v jl) (hx : RdS entE av w lv xs) (hs : ∀ x ∈ xs, ∀ b, entB x = some b → b.length ≤ 9000000) (hm : jl.length + 1048576 * xs.length ≤ 900000000) :
    Calls Tryz.prog 8 #[v, lv] w (AppIs jl xs w) := by
  have HX := Lib.hid hx
  have HS := Lib.hid hs
  have HM := Lib.hid hm
  have nl := hx.le
  obtain ⟨la, lc, rfl⟩ := hx.slice
  have HC := Lib.hid (clone_any v jl w h (by omega))
  clear hx hs hm h
  obtain ⟨n, hn⟩ : ∃ n, n = xs.length := ⟨_, rfl⟩
  rw [← hn] at HX nl ⊢
  have HN := Lib.hid hn
  clear hn
  have m1 : (n : Int) ≤ 1000000 := by omega
  go_enter Tryz.func8, Tryz.ntmps8
  go_wp2_with fail
  refine HC.out.mono ?_
  rintro e w1 ⟨v1, rfl, ho, hb⟩
  have HO := Lib.hid (And.intro ho hb)
  clear ho hb HC
  go_wp2_with fail
  go_loopw [6, 15] (fun ov kv wr => ∃ (i : Nat) (acc : List UInt8), kv = .int .i64 i ∧ i ≤ n ∧ Hid (OwnB wr w.heap.size ov acc ∧ Below w.heap.size w wr) ∧ Hid (appRes jl xs = appRes acc (xs.drop i) ∧ acc.length + 1048576 * (n - i) ≤ 900000000)) (fun _ kv _ => (2000000 - intOf kv).toNat)
  case atStart => exact ⟨0, jl, rfl, by omega, HO, ⟨by simp, by have := HM.out; have := HN.out; omega⟩⟩
  case round =>
    clear HO
    obtain ⟨i, acc, rfl, hi, HS1, HA⟩ := hrel
    by_cases hin : i < n
    · have i0 : (i : Int) < (n : Int) := by omega
      have hil : i < xs.length := by have := HN.out; omega
      obtain ⟨ab, ao, es, rfl, hal⟩ := HX.out.atBelow entE_ok i hil
      obtain ⟨hre, hrg⟩ := hal wr HS1.out.2
      have hdr : xs.drop i = xs[i] :: xs.drop (i + 1) := List.drop_eq_getElem_cons hil
      have hsm := HS.out _ (List.getElem_mem hil)
      generalize xs[i] = x at hre hdr hsm
      have HRe := Lib.hid hre
      have HRg : Hid (wr.rangeAt ab (ao + i * 38) es) := hrg
      have HEl : es.length = 38 := entE_ok.len hre
      have HDr := Lib.hid hdr
      have HSm := Lib.hid hsm
      clear hre hrg hdr hsm hil hal
      go_wp2_with (first
        | (refine list_loadAgg (log_load HRg.out HEl) rfl _ rfl rfl ?_)
        | (refine list_storeAgg rfl _ _ rfl wr.heap.size 0 rfl es rfl (by rw [sz_ent, HEl]) (entE_ok.one HRe.out) (log_there wr _ (by rw [HEl]; exact Nat.le_refl 38)) ?_
           intro w4 hw
           have h4 := log_new wr es HEl hw
           have HP4 := Lib.hid h4.1
           have HB4 := Lib.hid (below_then HS1.out.2 h4.2)
           have HO4 := Lib.hid (HS1.out.1.grownB h4.2)
           have HR4 := Lib.hid (entE_ok.keep HRe.out (Keeps.of_below h4.2))
           clear hw h4 HRe HRg)
        | (refine list_loadAgg (ent_load0 w4 wr.heap.size es HEl HP4.out.1.range) rfl _ rfl rfl ?_)
        | fail)
      have hei := encRes_int x.kind (entB x)
      have hel := encRes_len x.kind (entB x)
      refine (encode_any x es av w4 HR4.out HSm.out).mono ?_
      rintro e w5 ⟨v5, rfl, ho5, hb5⟩
      have hap : appRes acc (xs.drop i) = if (encRes x.kind (entB x)).2 = 0 then appRes (acc ++ (encRes x.kind (entB x)).1) (xs.drop (i + 1)) else ([], (encRes x.kind (entB x)).2) := by rw [HDr.out]; rfl
      generalize encRes x.kind (entB x) = q at hei hel ho5 hap ⊢
      obtain ⟨qb, qe⟩ := q
      dsimp only at hei hel ho5 hap ⊢
      obtain ⟨a5, c5, rfl⟩ := ho5.slice
      have HB5 := Lib.hid (below_then HB4.out hb5)
      have ho5' : BytesL w5 w5.heap.size (.slice a5 qb.length c5) qb := ho5.bl
      have hoA : OwnB w5 w.heap.size u6 acc := HO4.out.grownB hb5
      have HEi := Lib.hid hei
      by_cases he : qe = 0
      · subst he
        rw [if_pos rfl] at hap
        obtain ⟨v6, w6, hrun, ho6, hb6⟩ := append_bl hoA ho5' (by have := HA.out.2; omega) (by omega) HB5.out.size 22
        have HRun := Lib.hid hrun
        have HN6 : Hid (OwnB w6 w.heap.size v6 (acc ++ qb) ∧ Below w.heap.size w w6) := ⟨ho6, HB5.out.trans hb6⟩
        have HA6 : Hid (appRes jl xs = appRes (acc ++ qb) (xs.drop (i + 1)) ∧ (acc ++ qb).length + 1048576 * (n - (i + 1)) ≤ 900000000) := by
          refine ⟨HA.out.1.trans hap, ?_⟩
          have h1 := HA.out.2
          have h2 : 1048576 * (n - i) = 1048576 * (n - (i + 1)) + 1048576 := by
            rw [show n - i = n - (i + 1) + 1 by omega, Nat.mul_add]
          rw [List.length_append]; omega
        clear hei hel ho5 hap ho5' hoA hrun ho6 hb6 hb5 HB5 HO4 HB4 HR4 HP4 HA HS1 HDr
        go_wp2_with (first
          | (at_builtin; refine wpList_append_run rfl _ _ _ rfl _ _ _ _ rfl rfl HRun.out ?_; clear HRun)
          | fail)
        go_roundw
        case rel => exact ⟨i + 1, _, by go_num, by omega, HN6, HA6⟩
        case measure => simp [intOf]; omega
      · rw [if_neg he] at hap
        have HF : Hid (AppIs jl xs w (.returned (.tuple #[.slice none 0 0, .int .i64 qe])) w5) := ⟨_, by rw [HA.out.1, hap], by rw [HA.out.1, hap]; exact OwnB.nil _ _, HB5.out⟩
        have hne : (qe != 0) = true := by simpa using he
        clear hei hel ho5 hap ho5' hoA hb5 HB5 HO4 HB4 HR4 HP4 HA HS1 HDr
        go_wp2_with fail
        go_ret2
        exact HF.out
    · obtain rfl : n = i := by omega
      have HF : Hid (AppIs jl xs w (.returned (.tuple #[u6, .int .i64 0])) wr) := by
        have e : xs.drop n = [] := List.drop_eq_nil_of_le (by have := HN.out; omega)
        refine ⟨_, by rw [HA.out.1, e]; rfl, by rw [HA.out.1, e]; exact HS1.out.1, HS1.out.2⟩
      clear HA HS1
      go_wp2_with fail
      go_ret2
      exact HF.out
end Go.Proofs.YtpknalpdcfjffaaGreat
/- store.Read. -/
namespace Go.Proofs.YtpknalpdcfjffaaGreat
open Go Go.RowKit

theorem decRes_ok (l : List UInt8) (h : (decRes l).2.2 = 0) : 8 ≤ (decRes l).2.1 ∧ (decRes l).2.1 ≤ l.length := by
  by_cases h1 : l.length < 4
  · unfold decRes at h; rw [if_pos h1] at h; simp at h
  by_cases h2 : 1048576 < num (l.take 4) + 8
  · unfold decRes at h; rw [if_neg h1, if_pos h2] at h; simp at h
  by_cases h3 : l.length < num (l.take 4) + 8
  · unfold decRes at h; rw [if_neg h1, if_neg h2, if_pos h3] at h; simp at h
  unfold decRes at h ⊢
  rw [if_neg h1, if_neg h2, if_neg h3] at h ⊢
  split at h
  · simp at h
  · rename_i h4
    rw [if_neg h4]
    split at h
    · simp at h
    · rename_i h5
      rw [if_neg h5]
      split at h
      · simp at h
      · rename_i h6
        rw [if_neg h6]
        split at h
        · dsimp only
          omega
        · simp at h
theorem decRes_err (l : List UInt8) : 0 ≤ (decRes l).2.2 ∧ (decRes l).2.2 ≤ 11 := by
  unfold decRes
  repeat' split
  all_goals (simp only; omega)
/-- What Read gives, by fuel. -/
def readRes : Nat → List UInt8 → List Ent × Nat
  | 0, _ => ([], 0)
  | f + 1, l => if (decRes l).2.2 = 0 then ((decRes l).1 :: (readRes f (l.drop (decRes l).2.1)).1, (decRes l).2.1 + (readRes f (l.drop (decRes l).2.1)).2) else ([], 0)
theorem read_fuel : ∀ (f g : Nat) (l : List UInt8), l.length < f → l.length < g → readRes f l = readRes g l
  | 0, _, _, h, _ => by omega
  | _ + 1, 0, _, _, h => by omega
  | f + 1, g + 1, l, h1, h2 => by
    simp only [readRes]
    by_cases he : (decRes l).2.2 = 0
    · rw [if_pos he, if_pos he]
      have hd := decRes_ok l he
      have := read_fuel f g (l.drop (decRes l).2.1) (by rw [List.length_drop]; omega) (by rw [List.length_drop]; omega)
      rw [this]
    · rw [if_neg he, if_neg he]
def readAll (l : List UInt8) : List Ent × Nat := readRes (l.length + 1) l
theorem readAll_step (l : List UInt8) : readAll l = if (decRes l).2.2 = 0 then ((decRes l).1 :: (readAll (l.drop (decRes l).2.1)).1, (decRes l).2.1 + (readAll (l.drop (decRes l).2.1)).2) else ([], 0) := by
  unfold readAll
  rw [readRes]
  by_cases he : (decRes l).2.2 = 0
  · rw [if_pos he, if_pos he]
    have hd := decRes_ok l he
    rw [read_fuel l.length ((l.drop (decRes l).2.1).length + 1) (l.drop (decRes l).2.1) (by rw [List.length_drop]; omega) (by omega)]
  · rw [if_neg he, if_neg he]
theorem RowE.below {α : Type} {E : El α} {T : TypeId} {base : Nat} {w w' : World} {v : Value} {l : List α} (hE : E.OK) (h : RowE E T base w v l) (hb : Below w.heap.size w w') : RowE E T base w' v l := by
  obtain ⟨cc, h1, h2⟩ := h
  refine ⟨cc, ownsRow_below h1 hb, fun j hj => ?_⟩
  obtain ⟨es, e1, e2⟩ := h2 j hj
  exact ⟨es, hE.keep e1 (Keeps.of_below hb), e2⟩
theorem BytesL.up {w : World} {base B : Nat} {v : Value} {l : List UInt8} (h : BytesL w base v l) (hB : base ≤ B) : BytesL w B v l := by
  obtain ⟨a, c, e, h1, h2, h3⟩ := h
  exact ⟨a, c, e, h1, h2, fun i hi => by obtain ⟨ab, ao, ea, hlt, hc⟩ := h3 i hi; exact ⟨ab, ao, ea, Nat.lt_of_lt_of_le hlt hB, hc⟩⟩
theorem logT : ElT 55 26 38 aggOf (kc 0) := elT_row Tryz.underlying26 Tryz.underlying55 rfl (z := .agg (kc 0).toArray) (by_ := 480) (by kernel_rfl) rfl (by decide) (by decide) (by decide) (by decide) (kc_length 0)
def ReadIs (l : List UInt8) (w : World) (e : Ending) (w' : World) : Prop := ∃ v, e = .returned (.tuple #[v, .int .i64 ((readAll l).2 : Nat)]) ∧ RdS entE (w.heap.size ≤ ·) w' v (readAll l).1 ∧ Below w.heap.size w w'
set_option maxHeartbeats 16000000 in
set_option maxRecDepth 100000 in
theorem read_any (v : Value) (l : List UInt8) (w : World) (h : BytesL w w.heap.size v l) (hm : l.length ≤ 900000) : Calls Tryz.prog 12 #[v] w (ReadIs l w) := by
  obtain ⟨a, c, rfl⟩ := h.slice
  have hlc : l.length ≤ c ∧ c ≤ 9223372036854775807 := by
    obtain ⟨a', c', e, h1, h2, _⟩ := h
    obtain ⟨_, rfl⟩ : a = a' ∧ c = c' := by simpa using e
    exact ⟨h1, h2⟩
  have HL := Lib.hid h
  have HM := Lib.hid hm
  obtain ⟨n, hn⟩ : ∃ n, n = l.length := ⟨_, rfl⟩
  rw [← hn] at HL hlc ⊢
  have HN := Lib.hid hn
  have m1 : (n : Int) ≤ 900000 := by omega
  have m2 : (n : Int) ≤ (c : Int) := by omega
  have m3 : (c : Int) ≤ 9223372036854775807 := by omega
  have HLc := Lib.hid hlc
  clear h hm hn hlc
  have HS : Hid (RowE entE 55 w.heap.size w (.slice none 0 0) [] ∧ Below w.heap.size w w) := ⟨.nil, Below.refl _ _⟩
  go_enter Tryz.func12, Tryz.ntmps12
  go_wp2_with fail
  go_loopw [4, 5] (fun lv kv wr => ∃ (i : Nat) (done : List Ent), kv = .int .i64 i ∧ i ≤ n ∧ Hid (RowE entE 55 w.heap.size wr lv done ∧ Below w.heap.size w wr) ∧ Hid (readAll l = (done ++ (readAll (l.drop i)).1, i + (readAll (l.drop i)).2) ∧ done.length ≤ i)) (fun _ kv _ => (2000000 - intOf kv).toNat)
  case atStart => exact ⟨0, [], rfl, by omega, HS, ⟨by simp, by simp⟩⟩
  case round =>
    clear HS
    obtain ⟨i, done, rfl, hi, HS1, HA⟩ := hrel
    have i0 : (i : Int) ≤ (n : Int) := by omega
    have i1 : (i : Int) ≤ (c : Int) := by omega
    by_cases hci : c = i
    · have hni : n = i := by omega
      have hd0 : l.drop i = [] := List.drop_eq_nil_of_le (by have := HN.out; omega)
      have HNe : Hid ((decRes (l.drop i)).2.2 ≠ 0) := by unfold Hid; rw [hd0]; decide
      have HBl : Hid (BytesL wr wr.heap.size (.slice a (n - i) 0) (l.drop i)) := by
        have h1 : BytesL wr w.heap.size (.slice a n c) l := HL.out.below HS1.out.2
        have h2 := h1.drop (a2 := a) i (by have := HN.out; omega) (fun h => by have := HN.out; omega)
        rw [← HN.out] at h2
        have e : c - i = 0 := by omega
        rw [e] at h2
        exact h2.up HS1.out.2.size
      clear hd0 hni
      go_wp2_with fail
      obtain ⟨va, vc, rfl⟩ := HS1.out.1.slice
      refine (decode_any _ (l.drop i) wr HBl.out).mono ?_
      rintro e w3 ⟨cs, rfl, hrep, hb3⟩
      have hei := decRes_err (l.drop i)
      have HcsL : cs.length = 38 := entE_ok.len hrep
      have HRp := Lib.hid hrep
      have HB3 := Lib.hid hb3
      obtain ⟨qn, hqn⟩ : ∃ q, q = (decRes (l.drop i)).2.1 := ⟨_, rfl⟩
      obtain ⟨qe, hqe⟩ : ∃ q, q = (decRes (l.drop i)).2.2 := ⟨_, rfl⟩
      rw [← hqn, ← hqe]
      have HQn := Lib.hid hqn
      have HQe := Lib.hid hqe
      clear hrep hb3 hqn hqe HBl
      have hne : (qe != 0) = true := by rw [HQe.out]; simpa using HNe.out
      clear hei
      go_wp2_with (first
        | (refine list_storeAgg rfl _ _ rfl w3.heap.size 0 rfl cs rfl (by rw [sz_ent, HcsL]) (entE_ok.one HRp.out) (log_there w3 _ (Nat.le_of_eq HcsL)) ?_
           intro w4 hw
           have h4 := log_new w3 cs HcsL hw
           have HP4 := Lib.hid h4.1
           have HBx : Hid (Below wr.heap.size wr w4) := below_then HB3.out h4.2
           have HB4 := Lib.hid (HS1.out.2.trans (HBx.out.mono HS1.out.2.size))
           have HR4 := Lib.hid (HS1.out.1.below entE_ok HBx.out)
           have HRp4 := Lib.hid (entE_ok.keep HRp.out (Keeps.of_below h4.2))
           clear hw h4 HB3)
        | fail)
      have hdl : done.length ≤ 1000000 := by have := HA.out.2; have := HM.out; have := HN.out; omega
      have HF : Hid (ReadIs l w (.returned (.tuple #[.slice va done.length vc, .int .i64 (i : Nat)])) w4) := by
        have e1 : readAll l = (done, i) := by rw [HA.out.1, readAll_step, if_neg HNe.out]; simp
        exact ⟨_, by rw [e1], by rw [e1]; exact HR4.out.rd entE_ok (by decide) hdl, HB4.out⟩
      clear HA HR4 HB4
      go_wp2_with fail
      go_ret2
      exact HF.out
    · have HBl : Hid (BytesL wr wr.heap.size (.slice (Option.map (fun x => x.add i) a) (n - i) (c - i)) (l.drop i)) := by
        have h1 : BytesL wr w.heap.size (.slice a n c) l := HL.out.below HS1.out.2
        have h2 := h1.drop (a2 := Option.map (fun x => x.add i) a) i (by have := HN.out; omega) (fun _ ab ao e => by rw [e]; simp [Addr.add_mid])
        rw [← HN.out] at h2
        exact h2.up HS1.out.2.size
      go_wp2_with fail
      obtain ⟨va, vc, rfl⟩ := HS1.out.1.slice
      refine (decode_any _ (l.drop i) wr HBl.out).mono ?_
      rintro e w3 ⟨cs, rfl, hrep, hb3⟩
      have hei := decRes_err (l.drop i)
      have HcsL : cs.length = 38 := entE_ok.len hrep
      have HRp := Lib.hid hrep
      have HB3 := Lib.hid hb3
      obtain ⟨qn, hqn⟩ : ∃ q, q = (decRes (l.drop i)).2.1 := ⟨_, rfl⟩
      obtain ⟨qe, hqe⟩ : ∃ q, q = (decRes (l.drop i)).2.2 := ⟨_, rfl⟩
      rw [← hqn, ← hqe]
      have HQn := Lib.hid hqn
      have HQe := Lib.hid hqe
      clear hrep hb3 hqn hqe HBl
      by_cases he : qe = 0
      · subst he
        have HQ0 : Hid ((decRes (l.drop i)).2.2 = 0) := HQe.out.symm
        have hq8 := decRes_ok _ HQ0.out
        rw [← HQn.out, List.length_drop, ← HN.out] at hq8
        have HQ8 := Lib.hid hq8
        have q1 : (qn : Int) ≤ 900000 := by omega
        clear hq8 hei
        go_wp2_with (first
          | (refine list_storeAgg rfl _ _ rfl w3.heap.size 0 rfl cs rfl (by rw [sz_ent, HcsL]) (entE_ok.one HRp.out) (log_there w3 _ (Nat.le_of_eq HcsL)) ?_
             intro w4 hw
             have h4 := log_new w3 cs HcsL hw
             have HP4 := Lib.hid h4.1
             have HBx : Hid (Below wr.heap.size wr w4) := below_then HB3.out h4.2
             have HB4 := Lib.hid (HS1.out.2.trans (HBx.out.mono HS1.out.2.size))
             have HR4 := Lib.hid (HS1.out.1.below entE_ok HBx.out)
             have HRp4 := Lib.hid (entE_ok.keep HRp.out (Keeps.of_below h4.2))
             clear hw h4 HB3)
          | (refine list_loadAgg (ent_load0 w4 w3.heap.size cs HcsL HP4.out.1.range) rfl _ rfl rfl ?_
             have hre : entE.rep (avR w.heap.size (.slice va done.length vc)) w4 cs (decRes (l.drop i)).1 := entE_ok.weak HRp4.out fun k hk _ => by
               have h1 : wr.heap.size ≤ k := hk
               refine ⟨Nat.le_trans HS1.out.2.size h1, fun e => ?_⟩
               have := (HS1.out.1.lt k e).2
               omega
             obtain ⟨v6, w6, hrun, hr6, hb6⟩ := RowE.append entE_ok logT HR4.out hre (by have := HA.out.2; have := HM.out; have := HN.out; omega) HB4.out.size 26
             have HRun := Lib.hid hrun
             have HS6 : Hid (RowE entE 55 w.heap.size w6 v6 (done ++ [(decRes (l.drop i)).1]) ∧ Below w.heap.size w w6) := ⟨hr6, HB4.out.trans hb6⟩
             clear hre hrun hr6 hb6)
          | (refine list_lit logT rfl _ rfl cs rfl HcsL (entE_ok.one HRp4.out) ?_)
          | (at_builtin; refine wpList_append_run rfl _ _ _ rfl _ _ _ _ rfl rfl HRun.out ?_; clear HRun)
          | fail)
        go_roundw
        case rel =>
          refine ⟨i + qn, _, by go_num, by have := HQ8.out; omega, HS6, ?_, ?_⟩
          · rw [HA.out.1, readAll_step, if_pos HQ0.out, ← HQn.out, List.drop_drop, List.append_assoc]
            simp [Nat.add_assoc]
          · rw [List.length_append]
            have := HA.out.2; have := HQ8.out
            simp; omega
        case measure => have := HQ8.out; simp [intOf]; omega
      · have HNe : Hid ((decRes (l.drop i)).2.2 ≠ 0) := by unfold Hid; rw [← HQe.out]; exact he
        have hne : (qe != 0) = true := by simpa using he
        clear hei he
        go_wp2_with (first
          | (refine list_storeAgg rfl _ _ rfl w3.heap.size 0 rfl cs rfl (by rw [sz_ent, HcsL]) (entE_ok.one HRp.out) (log_there w3 _ (Nat.le_of_eq HcsL)) ?_
             intro w4 hw
             have h4 := log_new w3 cs HcsL hw
             have HP4 := Lib.hid h4.1
             have HBx : Hid (Below wr.heap.size wr w4) := below_then HB3.out h4.2
             have HB4 := Lib.hid (HS1.out.2.trans (HBx.out.mono HS1.out.2.size))
             have HR4 := Lib.hid (HS1.out.1.below entE_ok HBx.out)
             have HRp4 := Lib.hid (entE_ok.keep HRp.out (Keeps.of_below h4.2))
             clear hw h4 HB3)
          | fail)
        have hdl : done.length ≤ 1000000 := by have := HA.out.2; have := HM.out; have := HN.out; omega
        have HF : Hid (ReadIs l w (.returned (.tuple #[.slice va done.length vc, .int .i64 (i : Nat)])) w4) := by
          have e1 : readAll l = (done, i) := by rw [HA.out.1, readAll_step, if_neg HNe.out]; simp
          exact ⟨_, by rw [e1], by rw [e1]; exact HR4.out.rd entE_ok (by decide) hdl, HB4.out⟩
        clear HA HR4 HB4
        go_wp2_with fail
        go_ret2
        exact HF.out
end Go.Proofs.YtpknalpdcfjffaaGreat
/- StoreCrashes in plain data: what a journal that was cut or damaged is read as. No walk. -/
namespace Go.Proofs.YtpknalpdcfjffaaGreat
open Go Go.RowKit

def encX (x : Ent) : List UInt8 := encB x.kind ((entB x).getD [])
def encs (xs : List Ent) : List UInt8 := xs.flatMap encX
def good (x : Ent) : Prop := okEnt x.kind x ∧ 1 ≤ x.kind ∧ x.kind ≤ 4 ∧ ∃ b, entB x = some b ∧ b.length ≤ 20000
theorem good.enc {x : Ent} (h : good x) : encRes x.kind (entB x) = (encX x, 0) ∧ 9 ≤ (encX x).length ∧ (encX x).length ≤ 20009 := by
  obtain ⟨_, _, _, b, hb, hl⟩ := h
  unfold encX
  rw [hb, encRes_some _ _ (by omega)]
  have hE := encB_length x.kind b
  exact ⟨rfl, show 9 ≤ (encB x.kind b).length by omega, show (encB x.kind b).length ≤ 20009 by omega⟩
theorem good.dec {x : Ent} (h : good x) (rest : List UInt8) : decRes (encX x ++ rest) = (x, (encX x).length, 0) := by
  obtain ⟨h1, h2, h3, b, hb, hl⟩ := h
  unfold encX
  rw [hb]
  show decRes (encB x.kind b ++ rest) = (x, (encB x.kind b).length, 0)
  rw [dec_enc x.kind x b rest h1 hb (by omega) ⟨h2, h3⟩, encB_length]
theorem good.cut {x : Ent} (h : good x) (m : Nat) (hm : m < (encX x).length) : (decRes ((encX x).take m)).2.2 ≠ 0 := by
  obtain ⟨h1, h2, h3, b, hb, hl⟩ := h
  unfold encX at hm ⊢
  rw [hb] at hm ⊢
  have hm : m < (encB x.kind b).length := hm
  show (decRes ((encB x.kind b).take m)).2.2 ≠ 0
  rw [encB_length] at hm
  have hL : ((encB x.kind b).take m).length = m := by rw [List.length_take, encB_length]; omega
  by_cases h4 : m < 4
  · unfold decRes; rw [if_pos (by omega)]; decide
  · have e4 : ((encB x.kind b).take m).take 4 = be 4 (b.length + 1) := by
      rw [List.take_take, show min 4 m = 4 by omega, encB, List.append_assoc, List.take_left' (be_length 4 _)]
    have hn : num (be 4 (b.length + 1)) = b.length + 1 := num_be 4 _ (by rw [pow4]; omega)
    unfold decRes
    simp only [e4, hn]
    rw [if_neg (by omega), if_neg (by omega), if_pos (by omega)]
    decide
theorem read_encs : ∀ (xs : List Ent) (t : List UInt8), (∀ x ∈ xs, good x) → readAll (encs xs ++ t) = (xs ++ (readAll t).1, (encs xs).length + (readAll t).2)
  | [], t, _ => by simp [encs]
  | x :: xs, t, h => by
    have hx := h x (by simp)
    have e : encs (x :: xs) ++ t = encX x ++ (encs xs ++ t) := by simp [encs]
    have hd := hx.dec (encs xs ++ t)
    rw [e, readAll_step, hd]
    dsimp only
    rw [if_pos rfl, List.drop_left, read_encs xs t fun y hy => h y (by simp [hy])]
    simp [encs, Nat.add_assoc]
theorem readAll_stop {t : List UInt8} (h : (decRes t).2.2 ≠ 0) : readAll t = ([], 0) := by rw [readAll_step, if_neg h]
theorem readAll_nil : readAll [] = ([], 0) := readAll_stop (by decide)
/-- How far the first i entries go. -/
def endN (xs : List Ent) (i : Nat) : Nat := (encs (xs.take i)).length
theorem encs_append (xs ys : List Ent) : encs (xs ++ ys) = encs xs ++ encs ys := by simp [encs]
theorem endN_zero (xs : List Ent) : endN xs 0 = 0 := by simp [endN, encs]
theorem endN_all (xs : List Ent) : endN xs xs.length = (encs xs).length := by simp [endN]
theorem endN_succ (xs : List Ent) (i : Nat) (h : i < xs.length) : endN xs (i + 1) = endN xs i + (encX xs[i]).length := by
  unfold endN
  rw [show xs.take (i + 1) = xs.take i ++ [xs[i]] by rw [List.take_add_one]; simp [h], encs_append, List.length_append]
  simp [encs]
theorem endN_snoc (xs : List Ent) (x : Ent) (i : Nat) (h : i ≤ xs.length) : endN (xs ++ [x]) i = endN xs i := by
  unfold endN; rw [List.take_append_of_le_length h]
/-- A journal cut within an entry gives the entries before it. -/
theorem read_cut (xs : List Ent) (hg : ∀ x ∈ xs, good x) (T m : Nat) (h1 : endN xs m ≤ T) (h2 : m < xs.length → T < endN xs (m + 1)) :
    readAll ((encs xs).take T) = (xs.take m, endN xs m) := by
  have e : encs xs = encs (xs.take m) ++ encs (xs.drop m) := by rw [← encs_append, List.take_append_drop]
  have e2 : (encs xs).take T = encs (xs.take m) ++ (encs (xs.drop m)).take (T - endN xs m) := by
    rw [e, List.take_append, List.take_of_length_le (by exact h1)]
    rfl
  have hgt : ∀ x ∈ xs.take m, good x := fun x hx => hg x (List.mem_of_mem_take hx)
  rw [e2, read_encs _ _ hgt]
  have hz : readAll ((encs (xs.drop m)).take (T - endN xs m)) = ([], 0) := by
    rcases Nat.lt_or_ge m xs.length with hlt | hge
    · have hx := hg _ (List.getElem_mem hlt)
      have h3 := endN_succ xs m hlt
      have h4 := h2 hlt
      have e3 : encs (xs.drop m) = encX xs[m] ++ encs (xs.drop (m + 1)) := by
        rw [List.drop_eq_getElem_cons hlt, encs, encs, List.flatMap_cons]
      rw [e3, List.take_append_of_le_length (by omega)]
      exact readAll_stop (hx.cut _ (by omega))
    · rw [List.drop_eq_nil_of_le hge]
      simp only [encs, List.flatMap_nil, List.take_nil]
      exact readAll_nil
  rw [hz]
  simp [endN]
/-- The last index below i whose end lies within T. -/
def whole (xs : List Ent) (T : Nat) : Nat → Nat
  | 0 => 0
  | i + 1 => if endN xs i ≤ T then i else whole xs T i
theorem whole_lt (xs : List Ent) (T : Nat) : ∀ i, 0 < i → whole xs T i < i
  | 0, h => by omega
  | i + 1, _ => by
    unfold whole
    split
    · omega
    · rcases Nat.eq_zero_or_pos i with rfl | hi
      · simp [whole]
      · have := whole_lt xs T i hi; omega
theorem whole_in (xs : List Ent) (T : Nat) : ∀ i, endN xs (whole xs T i) ≤ T
  | 0 => by unfold whole; rw [endN_zero]; omega
  | i + 1 => by
    unfold whole
    split
    · assumption
    · exact whole_in xs T i
theorem whole_max (xs : List Ent) (T : Nat) : ∀ i k, whole xs T i < k → k < i → T < endN xs k
  | 0, k, _, h => by omega
  | i + 1, k, h1, h2 => by
    unfold whole at h1
    split at h1
    · omega
    · rename_i hn
      rcases Nat.lt_or_ge k i with hk | hk
      · exact whole_max xs T i k h1 hk
      · obtain rfl : k = i := by omega
        omega
theorem read_whole (xs : List Ent) (hg : ∀ x ∈ xs, good x) (T : Nat) : readAll ((encs xs).take T) = (xs.take (whole xs T (xs.length + 1)), endN xs (whole xs T (xs.length + 1))) := by
  have h1 := whole_lt xs T (xs.length + 1) (by omega)
  exact read_cut xs hg T _ (whole_in xs T _) (fun h => whole_max xs T (xs.length + 1) (whole xs T (xs.length + 1) + 1) (by omega) (by omega))
/-- Whatever becomes of the last entry's bytes, those before it are read. -/
theorem read_before (xs : List Ent) (hg : ∀ x ∈ xs, good x) (d : List UInt8) (m : Nat) (hd : d.take (endN xs m) = encs (xs.take m)) : ∃ r, (readAll d).1 = xs.take m ++ r := by
  have e : d = encs (xs.take m) ++ d.drop (endN xs m) := by rw [← hd, List.take_append_drop]
  rw [e, read_encs _ _ fun x hx => hg x (List.mem_of_mem_take hx)]
  exact ⟨_, rfl⟩
end Go.Proofs.YtpknalpdcfjffaaGreat
/- Slices that grow side by side: what lies in the elements lies outside of the other's row, too. No walk. -/
namespace Go.Proofs.YtpknalpdcfjffaaGreat
open Go Go.RowKit

def RowD {α : Type} (E : El α) (T : TypeId) (base : Nat) (bad : Nat → Prop) (w : World) (v : Value) (l : List α) : Prop :=
  ∃ cc, w.ownsRow base T E.n v l.length cc ∧ ∀ j, (hj : j < l.length) → ∃ es, E.rep (fun k => avR base v k ∧ ¬ bad k) w es l[j] ∧ ∀ q, q < E.n → cc[j * E.n + q]? = es[q]?
section
variable {α : Type} {E : El α} {T ST : TypeId} {ev : List Value → Value} {zc : List Value} {base : Nat} {bad bad' : Nat → Prop} {w w' : World} {v : Value} {l : List α}
theorem RowD.nil : RowD E T base bad w (.slice none 0 0) ([] : List α) := ⟨[], World.ownsRow_nil _ _ _ _, fun j hj => by simp at hj⟩
theorem RowD.e (hE : E.OK) (h : RowD E T base bad w v l) : RowE E T base w v l := by
  obtain ⟨cc, h1, h2⟩ := h
  exact ⟨cc, h1, fun j hj => by obtain ⟨es, e1, e2⟩ := h2 j hj; exact ⟨es, hE.weak e1 fun k hk _ => hk.1, e2⟩⟩
theorem RowD.typed (h : RowD E T base bad w v l) : ∀ g, v.ownBlock = some g → base ≤ g ∧ g < w.heap.size ∧ ∃ c f, w.heap[g]? = some (.cells c T f) := by
  obtain ⟨cc, h1, _⟩ := h
  exact fun g hg => ⟨(ownsRow_typed h1 g hg).1, (World.ownsRow.lt h1 g hg).2, (ownsRow_typed h1 g hg).2⟩
theorem RowD.kept (hE : E.OK) {r : Nat} (h : RowD E T base bad w v l) (hk : KeptBut r w w') (hr : r < base) : RowD E T base bad w' v l := by
  obtain ⟨cc, h1, h2⟩ := h
  refine ⟨cc, ownsRow_block h1 fun g hg => ?_, fun j hj => ?_⟩
  · obtain ⟨h3, h4⟩ := World.ownsRow.lt h1 g hg
    exact hk.2 g h4 (by omega)
  · obtain ⟨es, e1, e2⟩ := h2 j hj
    exact ⟨es, hE.keep e1 (hk.keeps fun h => by have := h.1.1; omega), e2⟩
theorem RowD.below (hE : E.OK) (h : RowD E T base bad w v l) (hb : Below w.heap.size w w') : RowD E T base bad w' v l := by
  obtain ⟨cc, h1, h2⟩ := h
  refine ⟨cc, ownsRow_below h1 hb, fun j hj => ?_⟩
  obtain ⟨es, e1, e2⟩ := h2 j hj
  exact ⟨es, hE.keep e1 (Keeps.of_below hb), e2⟩
/-- The other's row grew. -/
theorem RowD.other (hE : E.OK) (h : RowD E T base bad w v l) (hk : ∀ g, g < w.heap.size → ¬ bad g → w'.heap[g]? = w.heap[g]?) (hv : ∀ g, v.ownBlock = some g → ¬ bad g) (hb : ∀ g, g < w.heap.size → bad' g → bad g) : RowD E T base bad' w' v l := by
  obtain ⟨cc, h1, h2⟩ := h
  refine ⟨cc, ownsRow_block h1 fun g hg => hk g (World.ownsRow.lt h1 g hg).2 (hv g hg), fun j hj => ?_⟩
  obtain ⟨es, e1, e2⟩ := h2 j hj
  have r4 : E.rep (fun k => (avR base v k ∧ ¬ bad k) ∧ k < w.heap.size) w es l[j] := hE.weak e1 fun g h5 h6 => ⟨h5, h6⟩
  have r5 : E.rep (fun k => (avR base v k ∧ ¬ bad k) ∧ k < w.heap.size) w' es l[j] := hE.keep r4 fun g c t f e4 e5 e6 => hk g e6.2 e6.1.2
  exact ⟨es, hE.weak r5 fun g h5 _ => ⟨h5.1.1, fun hb' => h5.1.2 (hb g h5.2 hb')⟩, e2⟩
theorem RowD.append (hE : E.OK) (hT : ElT T ST E.n ev zc) (h : RowD E T base bad w v l) {es : List Value} {x : α} (he : E.rep (fun k => avR base v k ∧ ¬ bad k) w es x) (hm : l.length ≤ 1000000) (hb : base ≤ w.heap.size) (ty : TypeId) :
    ∃ (v' : Value) (w' : World), (Builtin.append_ #[ST, ST] ty #[v, .slice (some ⟨w.heap.size, 0, none⟩) 1 1]).run Tryz.prog (w.alloc (.cells es.toArray T)) = .ok v' w' ∧ RowD E T base bad w' v' (l ++ [x]) ∧ Below base w w' ∧
      (∀ g, g < w.heap.size → v.ownBlock ≠ some g → w'.heap[g]? = w.heap[g]?) ∧ (v'.ownBlock = v.ownBlock ∨ ∀ g, v'.ownBlock = some g → w.heap.size < g) := by
  obtain ⟨cc, r1, r2⟩ := h
  obtain ⟨v', w4, a1, a2, a3, a4⟩ := hT.append r1 (hE.len he) (hE.one he) hm hb ty
  have hg : ∀ g, v.ownBlock = some g → base ≤ g ∧ g < w.heap.size := fun g hg => World.ownsRow.lt r1 g hg
  have hal : Below w.heap.size w (w.alloc (.cells es.toArray T)) := (Below.refl _ _).alloc (Nat.le_refl _) _
  have keepA : ∀ g, g < w.heap.size → v.ownBlock ≠ some g → w4.heap[g]? = w.heap[g]? := fun g hg1 hg2 => by
    rw [a3.block g (by simp; omega) (fun e => hg2 e.symm)]
    exact hal.block g hg1
  have hw4 : Below base w w4 := by
    refine ⟨?_, ?_, ?_, ?_, fun g hg1 => keepA g (by omega) (fun e => by have := hg g e; omega)⟩
    · rw [a3.os]; exact hal.os
    · rw [a3.tape]; exact hal.tape
    · rw [a3.output]; exact hal.output
    · exact Nat.le_trans hal.size a3.size
  have avl' : ∀ g, avR base v g → g < w.heap.size → avR base v' g := by
    rintro g ⟨hg1, hg2⟩ hg3
    refine ⟨hg1, fun e => ?_⟩
    rcases a4 with a4 | a4
    · exact hg2 (a4 ▸ e)
    · have := a4 g e; omega
  have move : ∀ es' y, E.rep (fun k => avR base v k ∧ ¬ bad k) w es' y → E.rep (fun k => avR base v' k ∧ ¬ bad k) w4 es' y := fun es' y e1 => by
    have r4 : E.rep (fun g => (avR base v g ∧ ¬ bad g) ∧ g < w.heap.size) w es' y := hE.weak e1 fun g h5 h6 => ⟨h5, h6⟩
    have r5 : E.rep (fun g => (avR base v g ∧ ¬ bad g) ∧ g < w.heap.size) w4 es' y := hE.keep r4 fun g c t f e4 e5 e6 => keepA g e6.2 e6.1.1.2
    exact hE.weak r5 fun g h5 _ => ⟨avl' g h5.1.1 h5.2, h5.1.2⟩
  have hcc : cc.length = l.length * E.n := r1.1
  refine ⟨v', w4, a1, ⟨cc ++ es, by rw [List.length_append]; exact a2, fun j hj => ?_⟩, hw4, keepA, a4⟩
  rw [List.length_append] at hj
  have hj : j < l.length + 1 := hj
  rcases Nat.lt_or_ge j l.length with hji | hji
  · obtain ⟨es', e1, e2⟩ := r2 j hji
    refine ⟨es', by rw [List.getElem_append_left hji]; exact move _ _ e1, fun q hq => ?_⟩
    rw [List.getElem?_append_left (by
      rw [hcc]
      have : (j + 1) * E.n ≤ l.length * E.n := Nat.mul_le_mul_right _ hji
      rw [Nat.add_mul] at this; omega)]
    exact e2 q hq
  · obtain rfl : j = l.length := by omega
    refine ⟨es, by rw [List.getElem_append_right (Nat.le_refl _)]; simpa using move _ _ he, fun q hq => ?_⟩
    have e5 : l.length * E.n + q - l.length * E.n = q := by omega
    rw [List.getElem?_append_right (by rw [hcc]; omega), hcc, e5]
end
end Go.Proofs.YtpknalpdcfjffaaGreat
/- The state of the walk of StoreCrashes, and bytes that are turned. No walk. -/
namespace Go.Proofs.YtpknalpdcfjffaaGreat
open Go Go.RowKit

theorem OwnB.monoB {w : World} {base B : Nat} {v : Value} {l : List UInt8} (h : OwnB w base v l) (hB : B ≤ base) : OwnB w B v l := by
  obtain ⟨h1, h2⟩ := h
  refine ⟨h1, ?_⟩
  rcases h2 with h2 | ⟨g, cap, cur, e, hg, r⟩
  · exact Or.inl h2
  · exact Or.inr ⟨g, cap, cur, e, Nat.le_trans hB hg, r⟩
theorem OwnB.keptB {w w' : World} {base r : Nat} {v : Value} {l : List UInt8} (h : OwnB w base v l) (hk : KeptBut r w w') (hr : r < base) : OwnB w' base v l := ownsRow_block h fun g hg => by
  obtain ⟨h3, h4⟩ := World.ownsRow.lt h g hg
  exact hk.2 g h4 (by omega)
/-- The ends of the entries, a zero first. -/
def endsL (xs : List Ent) : List Int := (List.range (xs.length + 1)).map fun i => ((endN xs i : Nat) : Int)
theorem endsL_length (xs : List Ent) : (endsL xs).length = xs.length + 1 := by simp [endsL]
theorem endsL_snoc (xs : List Ent) (x : Ent) : endsL (xs ++ [x]) = endsL xs ++ [((encs (xs ++ [x])).length : Int)] := by
  unfold endsL
  rw [List.length_append, show xs.length + [x].length + 1 = xs.length + 1 + 1 from rfl, List.range_succ, List.map_append]
  congr 1
  · apply List.map_congr_left
    intro i hi
    rw [endN_snoc xs x i (by simp at hi; omega)]
  · simp only [List.map_cons, List.map_nil]
    rw [show xs.length + 1 = (xs ++ [x]).length by simp, endN_all]
/-- In the midst of the first loop. -/
structure CrS (w : World) (B b base : Nat) (jv lv ev : Value) (xs : List Ent) (wr : World) : Prop where
  st : St w B b wr
  oj : OwnB wr base jv (encs xs)
  ol : RowD entE 55 base (fun k => ev.ownBlock = some k) wr lv xs
  oe : RowD intE 3 base (fun _ => False) wr ev (endsL xs)
  ok : ∀ x ∈ xs, good x
  sz : base ≤ wr.heap.size
  bb : b < base
  wb : w.heap.size ≤ base
section
variable {w wr wr' : World} {B b base : Nat} {jv lv ev : Value} {xs : List Ent}
theorem CrS.below (h : CrS w B b base jv lv ev xs wr) (hb : Below wr.heap.size wr wr') : CrS w B b base jv lv ev xs wr' := ⟨h.st.below hb, h.oj.grownB hb, h.ol.below entE_ok hb, h.oe.below intE_ok hb, h.ok, Nat.le_trans h.sz hb.size, h.bb, h.wb⟩
theorem CrS.call (h : CrS w B b base jv lv ev xs wr) (hs : St wr B b wr') : CrS w B b base jv lv ev xs wr' := ⟨h.st.then hs, h.oj.keptB (KeptBut.st hs) h.bb, h.ol.kept entE_ok (KeptBut.st hs) h.bb, h.oe.kept intE_ok (KeptBut.st hs) h.bb, h.ok, Nat.le_trans h.sz hs.2.size, h.bb, h.wb⟩
theorem typed_ne {w : World} {g : Nat} {c c' : Array Value} {f f' : Nat × Nat} {T T' : TypeId} (h1 : w.heap[g]? = some (Obj.cells c T f)) (h2 : w.heap[g]? = some (Obj.cells c' T' f')) (hT : T ≠ T') : False := by
  rw [h1] at h2
  injection h2 with h2
  injection h2 with _ h2 _
  exact hT h2
theorem CrS.push (h : CrS w B b base jv lv ev xs wr) {x : Ent} {cs : List Value} {w5 w8 : World} {bv : Value} {B8 : Nat} (hg : good x) (hs : St wr B b w5) (hrep : entE.rep (wr.heap.size ≤ ·) w5 cs x) (hb : Below w5.heap.size w5 w8) (hj : OwnB w8 B8 bv (encs xs ++ encX x)) (hB8 : base ≤ B8) (hl : xs.length ≤ 4) (hM : (encs xs ++ encX x).length ≤ 1000000) (ty ty' : TypeId) :
    ∃ (v10 : Value) (w10 : World) (v12 : Value) (w12 : World), (Builtin.append_ #[26, 26] ty #[lv, .slice (some ⟨w8.heap.size, 0, none⟩) 1 1]).run Tryz.prog (w8.alloc (.cells cs.toArray 55)) = .ok v10 w10 ∧
      (Builtin.append_ #[38, 38] ty' #[ev, .slice (some ⟨w10.heap.size, 0, none⟩) 1 1]).run Tryz.prog (w10.alloc (.cells #[.int .i64 ((encs xs ++ encX x).length : Int)] 3)) = .ok v12 w12 ∧ CrS w B b base bv v10 v12 (xs ++ [x]) w12 := by
  have h8 := (h.call hs).below hb
  have he : entE.rep (fun k => avR base lv k ∧ ¬ ev.ownBlock = some k) w8 cs x := entE_ok.weak (entE_ok.keep hrep (Keeps.of_below hb)) fun k hk _ => by
    have h1 : wr.heap.size ≤ k := hk
    refine ⟨⟨Nat.le_trans h.sz h1, fun e => ?_⟩, fun e => ?_⟩
    · have := (h.ol.typed k e).2.1; omega
    · have := (h.oe.typed k e).2.1; omega
  obtain ⟨v10, w10, r10, d10, b10, k10, f10⟩ := RowD.append entE_ok logT h8.ol he (by omega) h8.sz ty
  have neLE : ∀ g, ev.ownBlock = some g → lv.ownBlock ≠ some g := fun g h1 h2 => by
    obtain ⟨_, _, c, f, e1⟩ := h8.oe.typed g h1
    obtain ⟨_, _, c', f', e2⟩ := h8.ol.typed g h2
    exact typed_ne e1 e2 (by decide)
  have oe10 : RowD intE 3 base (fun _ => False) w10 ev (endsL xs) := by
    obtain ⟨cc, q1, q2⟩ := h8.oe
    exact ⟨cc, ownsRow_block q1 fun g hg => k10 g (World.ownsRow.lt q1 g hg).2 (neLE g hg), q2⟩
  have oj10 : OwnB w10 B8 bv (encs xs ++ encX x) := ownsRow_block hj fun g hg => k10 g (World.ownsRow.lt hj g hg).2 fun e => by
    obtain ⟨_, c, f, e1⟩ := ownsRow_typed hj g hg
    obtain ⟨_, _, c', f', e2⟩ := h8.ol.typed g e
    exact typed_ne e1 e2 (by decide)
  have hi : I64 ((encs xs ++ encX x).length : Int) := by unfold I64; omega
  obtain ⟨v12, w12, r12, d12, b12, k12, f12⟩ := RowD.append intE_ok intT oe10 (es := [.int .i64 ((encs xs ++ encX x).length : Int)]) (x := ((encs xs ++ encX x).length : Int)) ⟨rfl, hi⟩ (by rw [endsL_length]; omega) (Nat.le_trans h8.sz b10.size) ty'
  refine ⟨v10, w10, v12, w12, r10, r12, ⟨(h8.st.grown b10 h.bb h.wb).grown b12 h.bb h.wb, ?_, ?_, ?_, ?_, Nat.le_trans (Nat.le_trans h8.sz b10.size) b12.size, h.bb, h.wb⟩⟩
  · have e : encs (xs ++ [x]) = encs xs ++ encX x := by simp [encs]
    rw [e]
    refine OwnB.monoB (base := B8) ?_ hB8
    exact ownsRow_block oj10 fun g hg => k12 g (World.ownsRow.lt oj10 g hg).2 fun e => by
      obtain ⟨_, c, f, e1⟩ := ownsRow_typed oj10 g hg
      obtain ⟨_, _, c', f', e2⟩ := oe10.typed g e
      exact typed_ne e1 e2 (by decide)
  · refine d10.other entE_ok (fun g hg hn => k12 g hg hn) (fun g h1 h2 => ?_) fun g hg hb' => ?_
    · obtain ⟨_, _, c, f, e1⟩ := d10.typed g h1
      obtain ⟨_, _, c', f', e2⟩ := oe10.typed g h2
      exact typed_ne e1 e2 (by decide)
    · rcases f12 with f12 | f12
      · rw [← f12]; exact hb'
      · have := f12 g hb'; omega
  · rw [endsL_snoc, encs_append]
    have e : encs [x] = encX x := by simp [encs]
    rw [e]
    exact d12
  · intro y hy
    rcases List.mem_append.1 hy with hy | hy
    · exact h.ok y hy
    · simp at hy; subst hy; exact hg
end
theorem lit_zero {w : World} {base : Nat} (hb : base ≤ w.heap.size) : RowD intE 3 base (fun _ => False) (w.alloc (.cells #[.int .i64 0] 3)) (.slice (some ⟨w.heap.size, 0, none⟩) 1 1) (endsL []) := by
  refine ⟨[.int .i64 0], ⟨rfl, Or.inr ⟨w.heap.size, 1, _, rfl, hb, heap_alloc_new w _, Nat.le_refl 1, by decide, rfl, rfl⟩⟩, fun j hj => ?_⟩
  have hj : j < 1 := hj
  obtain rfl : j = 0 := by omega
  refine ⟨[.int .i64 0], ⟨by simp [endsL, endN, encs], by simp [endsL, endN, encs, I64]⟩, fun q hq => ?_⟩
  have hq : q < 1 := hq
  obtain rfl : q = 0 := by omega
  rfl
theorem endsL_get (xs : List Ent) (i : Nat) (hi : i < (endsL xs).length) : (endsL xs)[i] = (endN xs i : Nat) := by simp [endsL]
/-- An end, where it lies. -/
theorem end_cell {av : Nat → Prop} {w : World} {a : Option Addr} {n c : Nat} {xs : List Ent} (h : RdS intE av w (.slice a n c) (endsL xs)) (i : Nat) (hi : i ≤ xs.length) : ∃ eb eo : Nat, a = some ⟨eb, eo, none⟩ ∧ ∀ W, Below w.heap.size w W → W.cell? ⟨eb, eo + i, none⟩ = some (.int .i64 (endN xs i : Nat)) := by
  have hi' : i < (endsL xs).length := by rw [endsL_length]; omega
  obtain ⟨eb, eo, es, ea, hal⟩ := h.atBelow intE_ok i hi'
  refine ⟨eb, eo, ea, fun W hW => ?_⟩
  obtain ⟨⟨rfl, _⟩, h2⟩ := hal W hW
  have := h2 0 _ rfl
  rw [endsL_get] at this
  simpa [intE, Addr.add] using this
theorem OwnB.set {w : World} {base g n cap : Nat} {l : List UInt8} (h : OwnB w base (.slice (some ⟨g, 0, none⟩) n cap) l) (k : Nat) (c : UInt8) : OwnB (w.setCell ⟨g, k, none⟩ (.int .u8 (c.toNat : Nat))) base (.slice (some ⟨g, 0, none⟩) n cap) (l.set k c) := by
  obtain ⟨h1, h2⟩ := h
  rcases h2 with ⟨e, _⟩ | ⟨g', cap', cur, e, hg, hh, hc, hm, hsz, htk⟩
  · cases e
  · obtain ⟨rfl, rfl, rfl⟩ : g = g' ∧ n = l.length ∧ cap = cap' := by simpa using e
    have hb : bcs (l.set k c) = (bcs l).set k (.int .u8 (c.toNat : Nat)) := by simp [bcs, List.map_set]
    refine ⟨by simp [bcs], Or.inr ⟨g, cap, cur.setIfInBounds k (.int .u8 (c.toNat : Nat)), by simp, hg, ?_, by simpa using hc, hm, by simpa using hsz, ?_⟩⟩
    · simp only [World.setCell]
      rw [Array.getElem?_modify, if_pos rfl, hh]
      rfl
    · rw [hb, ← htk, Array.toList_setIfInBounds, List.length_set, List.take_set]
theorem xor_byte (a b : Int) : ∃ c : UInt8, bits .xor .u8 a b = ((c.toNat : Nat) : Int) := by
  have h : ∃ x, bits .xor .u8 a b = IntKind.u8.wrap x := ⟨_, rfl⟩
  obtain ⟨x, hx⟩ := h
  rw [hx]
  exact ⟨k8 x, wrap_k8 x⟩
theorem OwnB.block {w : World} {base : Nat} {v : Value} {l : List UInt8} (h : OwnB w base v l) (h0 : 0 < l.length) : ∃ g cap, v = .slice (some ⟨g, 0, none⟩) l.length cap ∧ base ≤ g ∧ ∀ k, (hk : k < l.length) → w.cell? ⟨g, k, none⟩ = some (.int .u8 (l[k].toNat : Nat)) ∧ w.frozen? ⟨g, k, none⟩ = false := by
  have h' := h
  obtain ⟨h1, h2⟩ := h
  rcases h2 with ⟨e, h0'⟩ | ⟨g, cap, cur, e, hg, hh, hc, hm, hsz, htk⟩
  · omega
  · refine ⟨g, cap, e, hg, fun k hk => ⟨?_, ?_⟩⟩
    · have := World.ownsRow.cells h' (g := g) (by rw [e]; rfl) k (.int .u8 (l[k].toNat : Nat)) (by simp [bcs, hk])
      rw [Go.WideShapes.add_plain, Nat.zero_add] at this
      exact this
    · simp only [World.frozen?, hh]
      simp
theorem get_pre {α : Type} {l xs r : List α} {Z i : Nat} (h : l = xs.take Z ++ r) (hi : i < Z) (hx : i < xs.length) (hl : i < l.length) : l[i] = xs[i] := by
  subst h
  rw [List.getElem_append_left (by rw [List.length_take]; omega)]
  simp
theorem rd_lit1 {w : World} {cs : List Value} {x : Ent} (h : entE.rep (fun _ => True) w cs x) : RdS entE (fun _ => True) (w.alloc (.cells cs.toArray 55)) (.slice (some ⟨w.heap.size, 0, none⟩) 1 1) [x] := by
  refine ⟨some ⟨w.heap.size, 0, none⟩, 1, rfl, Nat.le_refl 1, by omega, by simp, fun _ => ⟨w.heap.size, 0, cs.toArray, 55, (0, 0), rfl, heap_alloc_new w _, by decide, trivial, fun i hi => ?_⟩⟩
  have hi : i < 1 := hi
  obtain rfl : i = 0 := by omega
  refine ⟨cs, entE_ok.keep h (Keeps.of_below ((Below.refl _ _).alloc (Nat.le_refl _) _)), fun j hj => ?_⟩
  have hl : cs.length = 38 := entE_ok.len h
  have h1 := (PAt.new w cs (by omega) 55 (by decide) rfl).1.2.1 j (by rw [hl]; exact hj)
  simp only [Nat.zero_mul, Nat.zero_add]
  exact h1
end Go.Proofs.YtpknalpdcfjffaaGreat
/- A list of entries that is copied, and one more behind it. No walk. -/
namespace Go.Proofs.YtpknalpdcfjffaaGreat
open Go Go.RowKit

/-- A row whose elements' data lie between base and B, the row itself from B on. -/
def RowO {α : Type} (E : El α) (T : TypeId) (base B : Nat) (w : World) (v : Value) (l : List α) : Prop :=
  ∃ cc, w.ownsRow B T E.n v l.length cc ∧ ∀ j, (hj : j < l.length) → ∃ es, E.rep (fun k => base ≤ k ∧ k < B) w es l[j] ∧ ∀ q, q < E.n → cc[j * E.n + q]? = es[q]?
section
variable {α : Type} {E : El α} {T ST : TypeId} {ev : List Value → Value} {zc : List Value} {base B : Nat} {w w' : World} {v : Value} {l : List α}
theorem cells_one (hE : E.OK) {cc : List Value} {av : Nat → Prop} (hl : cc.length = l.length * E.n) (h : ∀ j, (hj : j < l.length) → ∃ es, E.rep av w es l[j] ∧ ∀ q, q < E.n → cc[j * E.n + q]? = es[q]?) : ∀ u ∈ cc, u.oneCell' = true := by
  intro u hu
  obtain ⟨i, hi, rfl⟩ := List.mem_iff_getElem.1 hu
  have hp := hE.pos
  have hj : i / E.n < l.length := by rw [Nat.div_lt_iff_lt_mul hp]; omega
  obtain ⟨es, e1, e2⟩ := h (i / E.n) hj
  have h2 := e2 (i % E.n) (Nat.mod_lt _ hp)
  rw [Nat.div_add_mod' i E.n, List.getElem?_eq_getElem hi] at h2
  exact hE.one e1 _ (List.mem_of_getElem? h2.symm)
/-- append(nil, l...) -/
theorem RowE.copy (hE : E.OK) (hT : ElT T ST E.n ev zc) (h : RowE E T base w v l) (hm : l.length ≤ 1000000) (ty : TypeId) :
    ∃ (v' : Value) (w' : World), (Builtin.append_ #[ST, ST] ty #[.slice none 0 0, v]).run Tryz.prog w = .ok v' w' ∧ RowO E T base w.heap.size w' v' l ∧ Below w.heap.size w w' := by
  obtain ⟨cc, r1, r2⟩ := h
  obtain ⟨z, by_, hi, hz, hby⟩ := hT.info
  obtain ⟨i0, hi, hz0, hz1, hz2⟩ := info_parts hi
  have hcc := r1.1
  have hone := cells_one hE hcc r2
  have r1' := r1
  obtain ⟨h1, h2⟩ := r1
  rcases h2 with ⟨rfl, h0⟩ | ⟨g, cap, cur, rfl, hg, hh, hc, hmx, hsz, htk⟩
  · refine ⟨.slice none 0 0, w, ?_, ⟨[], by rw [h0]; exact World.ownsRow_nil _ _ _ _, fun j hj => by omega⟩, Below.refl _ _⟩
    simp [Builtin.append_, run_underlying hT.slice, sizeOf, typeInfo, hi, Builtin.lenOf, Builtin.firstCells, loadCells, loadCellsFrom]
  · have hbm : (0 + l.length) * by_ ≤ 1000001 * 1000 := Nat.mul_le_mul (by omega) hby
    obtain ⟨v', w', a1, a2, a3, _, _⟩ := run_append_own_at (P := Tryz.prog) (w := w) w.heap.size ST ty T i0 z E.n by_ hT.slice hi hz0 hz1 hz2 (by rw [hz, List.size_toArray, hT.zlen]) hT.pos
      (.slice none 0 0) 0 [] (World.ownsRow_nil _ _ _ _) ⟨g, 0, none⟩ l.length cap cc (by rw [hcc]) (fun j u hj => World.ownsRow.cells r1' (g := g) rfl j u hj) hone (by unfold maxLen; omega) (by omega) (Nat.le_refl _)
    have hb : Below w.heap.size w w' := (Below.refl _ w).grown a3 (Nat.le_refl _) (fun k hk => by cases hk)
    refine ⟨v', w', a1, ⟨cc, by simpa using a2, fun j hj => ?_⟩, hb⟩
    obtain ⟨es, e1, e2⟩ := r2 j hj
    exact ⟨es, hE.keep (hE.weak (av' := fun k => base ≤ k ∧ k < w.heap.size) e1 fun k hk hlt => ⟨hk.1, hlt⟩) (Keeps.of_below hb), e2⟩
theorem RowO.kept (hE : E.OK) {r : Nat} (h : RowO E T base B w v l) (hk : KeptBut r w w') (hr : r < base) (hB : base ≤ B) : RowO E T base B w' v l := by
  obtain ⟨cc, h1, h2⟩ := h
  refine ⟨cc, ownsRow_block h1 fun g hg => ?_, fun j hj => ?_⟩
  · obtain ⟨h3, h4⟩ := World.ownsRow.lt h1 g hg
    exact hk.2 g h4 (by omega)
  · obtain ⟨es, e1, e2⟩ := h2 j hj
    exact ⟨es, hE.keep e1 (hk.keeps fun h => by have := h.1; omega), e2⟩
theorem RowO.append (hE : E.OK) (hT : ElT T ST E.n ev zc) (h : RowO E T base B w v l) {es : List Value} {x : α} (he : E.rep (fun k => base ≤ k ∧ k < B) w es x) (hm : l.length ≤ 1000000) (hb : B ≤ w.heap.size) (ty : TypeId) :
    ∃ (v' : Value) (w' : World), (Builtin.append_ #[ST, ST] ty #[v, .slice (some ⟨w.heap.size, 0, none⟩) 1 1]).run Tryz.prog (w.alloc (.cells es.toArray T)) = .ok v' w' ∧ RowO E T base B w' v' (l ++ [x]) ∧ Below B w w' := by
  obtain ⟨cc, r1, r2⟩ := h
  obtain ⟨v', w4, a1, a2, a3, a4⟩ := hT.append r1 (hE.len he) (hE.one he) hm hb ty
  have hg : ∀ g, v.ownBlock = some g → B ≤ g ∧ g < w.heap.size := fun g hg => World.ownsRow.lt r1 g hg
  have hal : Below w.heap.size w (w.alloc (.cells es.toArray T)) := (Below.refl _ _).alloc (Nat.le_refl _) _
  have hw4 : Below B w w4 := by
    refine ⟨?_, ?_, ?_, ?_, fun g hg1 => ?_⟩
    · rw [a3.os]; exact hal.os
    · rw [a3.tape]; exact hal.tape
    · rw [a3.output]; exact hal.output
    · exact Nat.le_trans hal.size a3.size
    · rw [a3.block g (by simp; omega) (fun e => by have := hg g e.symm; omega)]
      exact hal.block g (by omega)
  have move : ∀ es' y, E.rep (fun k => base ≤ k ∧ k < B) w es' y → E.rep (fun k => base ≤ k ∧ k < B) w4 es' y := fun es' y e1 => hE.keep e1 fun k c t f e4 e5 e6 => hw4.block k e6.2
  have hcc : cc.length = l.length * E.n := r1.1
  refine ⟨v', w4, a1, ⟨cc ++ es, by rw [List.length_append]; exact a2, fun j hj => ?_⟩, hw4⟩
  rw [List.length_append] at hj
  have hj : j < l.length + 1 := hj
  rcases Nat.lt_or_ge j l.length with hji | hji
  · obtain ⟨es', e1, e2⟩ := r2 j hji
    refine ⟨es', by rw [List.getElem_append_left hji]; exact move _ _ e1, fun q hq => ?_⟩
    rw [List.getElem?_append_left (by
      rw [hcc]
      have : (j + 1) * E.n ≤ l.length * E.n := Nat.mul_le_mul_right _ hji
      rw [Nat.add_mul] at this; omega)]
    exact e2 q hq
  · obtain rfl : j = l.length := by omega
    refine ⟨es, by rw [List.getElem_append_right (Nat.le_refl _)]; simpa using move _ _ he, fun q hq => ?_⟩
    have e5 : l.length * E.n + q - l.length * E.n = q := by omega
    rw [List.getElem?_append_right (by rw [hcc]; omega), hcc, e5]
theorem RowO.rd (hE : E.OK) (hT : T ≠ 5) (h : RowO E T base B w v l) (hi : l.length ≤ 1000000) : RdS E (fun _ => True) w v l := by
  obtain ⟨cc, r1, r2⟩ := h
  have r1' := r1
  obtain ⟨h1, h2⟩ := r1
  rcases h2 with ⟨e, h0⟩ | ⟨g, cap, cur, e, hg, hh, hc, hm, hsz, htk⟩
  · exact ⟨none, 0, by rw [e, h0], by omega, by omega, by omega, fun h => by omega⟩
  · refine ⟨some ⟨g, 0, none⟩, cap, e, by omega, by unfold maxLen at hm; omega, by omega, fun h0 => ⟨g, 0, cur, T, (0, 0), rfl, hh, hT, trivial, fun j hj => ?_⟩⟩
    obtain ⟨es, e1, e2⟩ := r2 j hj
    refine ⟨es, hE.weak e1 fun g' h5 _ => trivial, fun q hq => ?_⟩
    rw [← e2 q hq]
    have hlt : j * E.n + q < cc.length := by
      rw [h1]
      have : (j + 1) * E.n ≤ l.length * E.n := Nat.mul_le_mul_right _ (by omega)
      rw [Nat.add_mul] at this; omega
    have := World.ownsRow.cells r1' (g := g) (by rw [e]; rfl) (j * E.n + q) _ (List.getElem?_eq_getElem hlt)
    rw [Addr.add_mid, Nat.zero_add] at this
    rw [Nat.zero_add, this, List.getElem?_eq_getElem hlt]
end
/-- The loop that makes the entries of a journal. -/
structure JS (w : World) (B b base : Nat) (lv : Value) (xs : List Ent) (wr : World) : Prop where
  st : St w B b wr
  row : RowE entE 55 base wr lv xs
  ok : ∀ x ∈ xs, good x
  sz : base ≤ wr.heap.size
  bb : b < base
  wb : w.heap.size ≤ base
section
variable {w wr wr' : World} {B b base : Nat} {lv : Value} {xs : List Ent}
theorem JS.call (h : JS w B b base lv xs wr) (hs : St wr B b wr') : JS w B b base lv xs wr' := ⟨h.st.then hs, h.row.kept entE_ok (KeptBut.st hs) h.bb, h.ok, Nat.le_trans h.sz hs.2.size, h.bb, h.wb⟩
theorem JS.below (h : JS w B b base lv xs wr) (hb : Below wr.heap.size wr wr') : JS w B b base lv xs wr' := ⟨h.st.below hb, h.row.below entE_ok hb, h.ok, Nat.le_trans h.sz hb.size, h.bb, h.wb⟩
theorem JS.push (h : JS w B b base lv xs wr) {x : Ent} {cs : List Value} {w5 : World} (hg : good x) (hs : St wr B b w5) (hrep : entE.rep (wr.heap.size ≤ ·) w5 cs x) (hl : xs.length ≤ 4) (ty : TypeId) :
    ∃ (v' : Value) (w' : World), (Builtin.append_ #[26, 26] ty #[lv, .slice (some ⟨w5.heap.size, 0, none⟩) 1 1]).run Tryz.prog (w5.alloc (.cells cs.toArray 55)) = .ok v' w' ∧ JS w B b base v' (xs ++ [x]) w' := by
  have h5 := h.call hs
  have he : entE.rep (avR base lv) w5 cs x := entE_ok.weak hrep fun k hk _ => by
    have h1 : wr.heap.size ≤ k := hk
    refine ⟨Nat.le_trans h.sz h1, fun e => ?_⟩
    have := (h.row.lt k e).2; omega
  obtain ⟨v', w', a1, a2, a3⟩ := RowE.append entE_ok logT h5.row he (by omega) h5.sz ty
  refine ⟨v', w', a1, ⟨h5.st.grown a3 h.bb h.wb, a2, fun y hy => ?_, Nat.le_trans h5.sz a3.size, h.bb, h.wb⟩⟩
  rcases List.mem_append.1 hy with hy | hy
  · exact h.ok y hy
  · simp at hy; subst hy; exact hg
end
end Go.Proofs.YtpknalpdcfjffaaGreat
/- What is decoded is small. No walk. -/
namespace Go.Proofs.YtpknalpdcfjffaaGreat
open Go Go.RowKit

theorem zero_none : entB Ent.zero = none := rfl
theorem dec_small (l : List UInt8) : ∀ b, entB (decRes l).1 = some b → b.length ≤ 1048576 := by
  intro b hb
  have hz : ∀ (n : Nat) (e : Int), entB ((Ent.zero, n, e) : Ent × Nat × Int).1 = some b → b.length ≤ 1048576 := fun n e h => by
    have h : entB Ent.zero = some b := h
    rw [zero_none] at h; cases h
  unfold decRes at hb
  split at hb
  · exact hz _ _ hb
  · split at hb
    · exact hz _ _ hb
    · rename_i h1
      split at hb
      · exact hz _ _ hb
      · split at hb
        · exact hz _ _ hb
        · split at hb
          · exact hz _ _ hb
          · split at hb
            · exact hz _ _ hb
            · split at hb
              · rename_i x hx
                obtain ⟨b', hb', hl, _⟩ := ent_back _ _ _ _ hx
                have hb : entB x = some b := hb
                rw [hb'] at hb
                obtain rfl := Option.some.inj hb
                rw [List.append_nil] at hl
                rw [← hl, List.length_drop, List.length_take]
                omega
              · exact hz _ _ hb
theorem odd_short {x : Ent} (hs : smEnt x) (k : Int) : ∀ b, entB { x with kind := k } = some b → b.length ≤ 20000 := by
  obtain ⟨h1, h2, h3, h4⟩ := hs
  intro b hb
  unfold entB at hb
  dsimp only at hb
  split at hb
  · obtain rfl := Option.some.inj hb; simp [ints_length]
  · split at hb
    · obtain rfl := Option.some.inj hb
      have := repB_length h1
      simp only [List.length_append, ints_length, List.length_cons, List.length_nil]; omega
    · split at hb
      · obtain rfl := Option.some.inj hb
        simp only [List.length_append, ints_length, List.length_cons, List.length_nil, strB_length, boolB_length, placeB_length, readingsB_length]; omega
      · split at hb
        · obtain rfl := Option.some.inj hb
          rcases h4 with h4 | h4
          · rw [h4]; decide
          · have := cycB_length h4; omega
        · cases hb
end Go.Proofs.YtpknalpdcfjffaaGreat
/- The reference's Encode. -/
namespace Go.Proofs.YtpknalpdcfjffaaGreat
open Go Go.RowKit

set_option maxHeartbeats 16000000 in
set_option maxRecDepth 100000 in
theorem renc_any (x : Ent) (cs : List Value) (av : Nat → Prop) (w : World) (h6 : entE.rep av w cs x) (hbx : ∀ b, entB x = some b → b.length ≤ 11000000) : Calls Tryz.prog 25 #[.agg cs.toArray] w (EncIs x w) := by
  have hlx : cs.length = 38 := entE_ok.len h6
  have hB0 : Below w.heap.size w (w.alloc (.cells cs.toArray 55)) := (Below.refl _ _).alloc (Nat.le_refl _) _
  have HP0 : Hid (PAt (w.alloc (.cells cs.toArray 55)) w.heap.size cs) := PAt.new w cs (by rw [hlx]; decide) _ (by decide) rfl
  have HB0 := Lib.hid hB0
  have H60 := Lib.hid (entE_ok.keep h6 (Keeps.of_below hB0))
  have HBX := Lib.hid hbx
  clear h6 hbx hB0
  go_enter Tryz.func25, Tryz.ntmps25
  go_upto_region 1 with fail
  generalize w.alloc (.cells cs.toArray 55) = w0 at HP0 HB0 H60 ⊢
  go_wp2_with (first
    | (refine list_loadAgg (ent_load0 w0 w.heap.size cs hlx HP0.out.1.range) rfl _ rfl rfl ?_)
    | fail)
  refine (rbody_any x cs av w0 H60.out HBX.out).mono ?_
  rintro e w1 ⟨v1, rfl, ho1, hb1, hn1⟩
  have HB1 := Lib.hid (HB0.out.trans (hb1.mono HB0.out.size))
  cases hb : entB x with
  | none =>
    have HF : Hid (EncIs x w (.returned (.tuple #[.slice none 0 0, .int .i64 4])) w1) := ⟨_, by rw [hb]; rfl, by rw [hb]; exact OwnB.nil _ _, HB1.out⟩
    rw [show (none : Option (List UInt8)).isSome = false from rfl]
    clear ho1 hb1 hn1 hb
    go_wp2_with fail
    go_ret2
    exact HF.out
  | some b =>
    have hbl := HBX.out b hb
    have hbb : bodyB x = k8 x.kind :: b := by unfold bodyB; rw [hb]
    rw [hbb] at ho1
    obtain ⟨L, hL⟩ : ∃ L, L = (k8 x.kind :: b).length := ⟨_, rfl⟩
    have hLb : L = b.length + 1 := by rw [hL]; rfl
    obtain ⟨a1, c1, rfl⟩ := ho1.slice
    rw [← hL]
    have HO1 := Lib.hid ho1
    have HL := Lib.hid hL
    have HLb := Lib.hid hLb
    have HBe := Lib.hid hb
    have l0 : (L : Int) ≤ 11000001 := by omega
    rw [show (some b : Option (List UInt8)).isSome = true from rfl]
    by_cases hbig : 1048576 < b.length + 9
    · have l1 : (1048576 : Int) < (L : Int) + 8 := by omega
      have HF : Hid (EncIs x w (.returned (.tuple #[.slice none 0 0, .int .i64 2])) w1) := by
        have e : encRes x.kind (entB x) = ([], 2) := by rw [hb]; simp only [encRes]; rw [if_pos hbig]
        exact ⟨_, by rw [e], by rw [e]; exact OwnB.nil _ _, HB1.out⟩
      clear ho1 hb1 hn1 hb hbb hL hLb hbl
      go_wp2_with fail
      go_ret2
      exact HF.out
    · have l1 : decide ((1048576 : Int) < (L : Int) + 8) = false := decide_eq_false (by omega)
      have HEr : Hid (encRes x.kind (entB x) = (encB x.kind b, 0)) := by rw [hb]; exact encRes_some _ _ (by omega)
      have HSm := Lib.hid hbig
      clear ho1 hb1 hn1 hb hbb hL hLb hbl
      go_wp2_with fail
      refine (rput_any 4 L w1.heap.size (by omega) (by omega) _ _ w1 (OwnB.nil w1 w1.heap.size) (by simp) (Nat.le_refl _)).mono ?_
      rintro e w2 ⟨v2, rfl, hO, hB, hN⟩
      rw [List.nil_append] at hO
      have hsrc : BytesL w2 w2.heap.size (.slice a1 (k8 x.kind :: b).length c1) (k8 x.kind :: b) := by
        have := (HO1.out.bl.below hB).up hB.size
        rw [← HL.out] at this ⊢; exact this
      obtain ⟨v3, w3, hrun, ho3, hb3⟩ := append_bl hO hsrc (by rw [be_length]; omega) (by rw [← HL.out]; omega) hB.size 22
      rw [← HL.out] at hrun
      have HRun := Lib.hid hrun
      have HB3 := Lib.hid (below_then HB1.out (hB.trans hb3))
      have HSz : Hid (w1.heap.size ≤ w3.heap.size) := Nat.le_trans hB.size hb3.size
      have HLo : Hid (w.heap.size ≤ w1.heap.size) := HB1.out.size
      have HO3 := Lib.hid ho3
      have HB33 : Hid (Below w.heap.size w w3) := HB3.out
      clear hO hB hN hsrc hrun ho3 hb3
      go_wp2_with (first
        | (at_builtin; refine wpList_append_run rfl _ _ _ rfl _ _ _ _ rfl rfl HRun.out ?_; clear HRun)
        | fail)
      refine (rchecksum_any v3 (be 4 L ++ (k8 x.kind :: b)) w3 HO3.out.r (by rw [List.length_append, be_length, ← HL.out]; omega)).mono ?_
      rintro e w4 ⟨rfl, rfl⟩
      have hck := chk_lt (be 4 L ++ (k8 x.kind :: b))
      obtain ⟨C, hC⟩ : ∃ C, C = chk (be 4 L ++ (k8 x.kind :: b)) := ⟨_, rfl⟩
      rw [← hC] at hck ⊢
      have HC := Lib.hid hC
      clear hC
      go_wp2_with fail
      refine (rput_any 4 C w1.heap.size (by omega) (by omega) _ _ w3 HO3.out (by rw [List.length_append, be_length, ← HL.out]; omega) HSz.out).mono ?_
      rintro e w5 ⟨v5, rfl, hO, hB, hN⟩
      have HF : Hid (EncIs x w (.returned (.tuple #[v5, .int .i64 0])) w5) := by
        refine ⟨_, by rw [HEr.out], ?_, HB33.out.trans (hB.mono HLo.out)⟩
        rw [HEr.out]
        have h1 := OwnB.monoB hO HLo.out
        rw [HC.out, HLb.out] at h1
        exact h1
      clear hO hB hN
      go_wp2_with fail
      go_ret2
      exact HF.out
end Go.Proofs.YtpknalpdcfjffaaGreat
/- The reference's get. -/
namespace Go.Proofs.YtpknalpdcfjffaaGreat
open Go Go.RowKit

/-- What get gives: where it stands then, whether it fitted, the number. -/
def rgetS (l : List UInt8) (p : Nat) (ok : Bool) (n : Nat) : Nat × Bool × Nat := if ok = true ∧ n ≤ l.length - p then (p + n, true, num ((l.drop p).take n)) else (p, false, 0)
def rdV (a : Option Addr) (len c p : Nat) (ok : Bool) : List Value := [.slice a len c, .int .i64 p, .bool ok]
def RGetIs (a : Option Addr) (c : Nat) (l : List UInt8) (p : Nat) (ok : Bool) (n : Nat) (w : World) (e : Ending) (w' : World) : Prop := e = .returned (.tuple #[.agg (rdV a l.length c (rgetS l p ok n).1 (rgetS l p ok n).2.1).toArray, .int .u64 ((rgetS l p ok n).2.2 : Nat)]) ∧ Below w.heap.size w w'
theorem rowT_rd : RowT 99 3 := ⟨by kernel_rfl, _, Tryz.underlying99, rfl⟩
theorem sz_rd : (Tryz.prog.info? 99).map (·.size) = some 3 := by kernel_rfl
theorem rd_load (w : World) (b : Nat) (es : List Value) (hl : es.length = 3) (hr : w.rangeAt b 0 es) : (loadVar 99 ⟨b, 0, none⟩).run Tryz.prog w = .ok (.agg es.toArray) w := run_loadVar_mid w b 0 _ es _ hr Tryz.underlying99 rfl (by rw [sz_rd, hl])
theorem sz_bool : (Tryz.prog.info? 4).map (·.size) = some 1 := by kernel_rfl
theorem list_storeBool {ops : Array Oper} {rest : List Oper} {op : Oper} {a : Act} {w : World} {Q : Exit → Act → World → Prop} (hgd : op.guard = none) (x y : Operand) (ho : op.op = .store 4 x y) (b o : Nat) (hx : a.eval x = .pointer (some ⟨b, o, none⟩)) (v : Bool) (hy : a.eval y = .bool v) (ht : w.there b o 1)
    (k : ∀ w', w' = w.setCells b o [.bool v] → wpList Tryz.prog ops Q rest (a.put op.dst undef) w') : wpList Tryz.prog ops Q (op :: rest) a w := by
  have key : ∀ es : List Value, es = [.bool v] → (storeVar 4 ⟨b, o, none⟩ (.agg es.toArray)).run Tryz.prog w = .ok () (w.setCells b o es) := fun es he =>
    run_storeVar_mid w b o 4 es.toArray (by rw [List.size_toArray, he]; exact ht) (by rw [sz_bool, List.size_toArray, he]; rfl) (all_oneCell_toArray (by rw [he]; exact all_one rfl))
  have hst : (storeVar 4 ⟨b, o, none⟩ (.bool v)).run Tryz.prog w = .ok () (w.setCells b o [.bool v]) := by
    rw [storeVar_cells]
    exact key _ rfl
  refine list_skip hgd _ ?_ (k _ rfl)
  unfold execOp
  simp only [ho, hx, hy, Instr.storeAt, Instr.sureAddr, Sem.run_bind, Sem.run_pure, Result.andThen_ok, hst]
set_option maxHeartbeats 16000000 in
set_option maxRecDepth 100000 in
theorem rget_any (a : Option Addr) (c : Nat) (l : List UInt8) (p : Nat) (ok : Bool) (n : Nat) (hn : n ≤ 8) (w : World) (h : BytesL w w.heap.size (.slice a l.length c) l) (hp : p ≤ l.length) :
    Calls Tryz.prog 36 #[.agg (rdV a l.length c p ok).toArray, .int .i64 n] w (RGetIs a c l p ok n w) := by
  have hlc : l.length ≤ c ∧ c ≤ 9223372036854775807 := by
    obtain ⟨a', c', e, h1, h2, _⟩ := h
    obtain ⟨_, rfl⟩ : a = a' ∧ c = c' := by simpa using e
    exact ⟨h1, h2⟩
  have hX : PAt (w.alloc (.cells (rdV a l.length c p ok).toArray 99)) w.heap.size (rdV a l.length c p ok) := PAt.new w _ (by simp [rdV]) _ (by decide) rfl
  have hB : Below w.heap.size w ((w.alloc (.cells (rdV a l.length c p ok).toArray 99)).alloc (.cells #[.slice none 0 0, .int .i64 0, .bool false] 99)) := ((Below.refl _ _).alloc (Nat.le_refl _) _).alloc (by simp) _
  have HX : Hid (PAt ((w.alloc (.cells (rdV a l.length c p ok).toArray 99)).alloc (.cells #[.slice none 0 0, .int .i64 0, .bool false] 99)) w.heap.size (rdV a l.length c p ok)) := hX.below ((Below.refl _ _).alloc (Nat.le_refl _) _)
  have HR : Hid (PAt ((w.alloc (.cells (rdV a l.length c p ok).toArray 99)).alloc (.cells #[.slice none 0 0, .int .i64 0, .bool false] 99)) (w.heap.size + 1) [.slice none 0 0, .int .i64 0, .bool false]) := PAt.new _ [.slice none 0 0, .int .i64 0, .bool false] (by simp) _ (by decide) (by simp)
  have HL := Lib.hid (h.below hB)
  have HB := Lib.hid hB
  obtain ⟨N, hN⟩ : ∃ N, N = l.length := ⟨_, rfl⟩
  rw [← hN] at HX HR HL HB hlc hp ⊢
  have HN := Lib.hid hN
  clear hX hB h hN
  go_enter Tryz.func36, Tryz.ntmps36
  go_upto_region 1 with fail
  generalize (w.alloc (.cells (rdV a N c p ok).toArray 99)).alloc (.cells #[.slice none 0 0, .int .i64 0, .bool false] 99) = w0 at HX HR HL HB ⊢
  have k0 : w0.cell? ⟨w.heap.size, 0, none⟩ = some (.slice a N c) := HX.out.1.at 0 rfl
  have k1 : w0.cell? ⟨w.heap.size, 1, none⟩ = some (.int .i64 p) := HX.out.1.at 1 rfl
  have k2 : w0.cell? ⟨w.heap.size, 2, none⟩ = some (.bool ok) := HX.out.1.at 2 rfl
  have f1 := HX.out.1.2.2 1 (by simp [rdV])
  have f2 := HX.out.1.2.2 2 (by simp [rdV])
  have i1 : (N : Int) ≤ 9223372036854775807 := by omega
  have i2 : (p : Int) ≤ (N : Int) := by omega
  by_cases hg : ok = true ∧ n ≤ N - p
  · obtain ⟨rfl, hg⟩ := hg
    have i3 : decide ((N : Int) - (p : Int) < (n : Int)) = false := decide_eq_false (by omega)
    go_wp2_with fail
    have HT : Hid (((l.drop p).take n).length = n) := by unfold Hid; rw [List.length_take, List.length_drop, ← HN.out]; omega
    go_loop [6, 7] (fun nv kv => ∃ m : Nat, kv = .int .i64 m ∧ m ≤ n ∧ nv = .int .u64 (num (((l.drop p).take n).take m) : Nat)) (fun _ kv => (20 - intOf kv).toNat)
    case atStart => exact ⟨0, rfl, by omega, by simp [num]⟩
    case round =>
      obtain ⟨m, rfl, hm, rfl⟩ := hrel
      by_cases hlt : m < n
      · have m0 : (m : Int) < (n : Int) := by omega
        have hl1 : p + m < l.length := by rw [← HN.out]; omega
        obtain ⟨ab, ao, hab, hc⟩ : ∃ ab ao : Nat, a = some ⟨ab, ao, none⟩ ∧ w0.cell? ⟨ab, ao + (p + m), none⟩ = some (.int .u8 (l[p + m].toNat : Nat)) := by
          obtain ⟨a', c', e, q1, q2, q3⟩ := HL.out
          obtain ⟨ab, ao, ea, _, hc⟩ := q3 (p + m) hl1
          obtain ⟨rfl, _⟩ : a = a' ∧ _ := by simpa using e
          exact ⟨ab, ao, ea, hc⟩
        subst hab
        have hlt' : m < ((l.drop p).take n).length := by rw [HT.out]; exact hlt
        have hget : ((l.drop p).take n)[m] = l[p + m] := by simp
        have hnt := num_take ((l.drop p).take n) m hlt'
        have hnl := num_take_lt ((l.drop p).take n) m hlt' (by rw [HT.out]; exact hn)
        rw [hget] at hnt
        have hcc := l[p + m].toNat_lt
        generalize l[p + m] = ch at hc hnt hcc
        have ho := or_byte (num (((l.drop p).take n).take m)) ch.toNat hnl hcc
        have HT2 := Lib.hid hnt
        have n1 : (num (((l.drop p).take n).take m) : Int) < 72057594037927936 := by omega
        have q1 : (p : Int) + (m : Int) < (N : Int) := by omega
        generalize num (((l.drop p).take n).take m) = Q at hnl ho HT2 n1 ⊢
        generalize ch.toNat = C at hc hcc ho HT2
        have c1 : (C : Int) < 256 := by omega
        clear hnl hcc hget hnt hlt'
        go_wp2_with fail
        go_round
        case rel => exact ⟨m + 1, by go_num, by omega, by rw [HT2.out, Int.natCast_add, Int.natCast_mul]; rfl⟩
        case measure => simp [intOf]; omega
      · obtain rfl : n = m := by omega
        obtain ⟨K, hK⟩ : ∃ K, K = p + n := ⟨_, rfl⟩
        have kw : (p : Int) + (n : Int) = (K : Int) := by omega
        have hnum : ((l.drop p).take n).take n = (l.drop p).take n := List.take_of_length_le (by rw [HT.out]; exact Nat.le_refl n)
        rw [hnum]
        have HRes : Hid (rgetS l p true n = (K, true, num ((l.drop p).take n))) := by
          unfold Hid rgetS
          rw [if_pos ⟨rfl, by rw [← HN.out]; exact hg⟩, hK]
        generalize num ((l.drop p).take n) = Q at HRes ⊢
        clear hK hnum hlt hm
        go_wp2_with (first
          | (refine list_storeEl intT rfl _ _ rfl w.heap.size 1 rfl [.int .i64 (K : Int)] rfl rfl (all_one rfl) (HX.out.thereMid 1 1 (by simp [rdV])) ?_
             intro w1 hw
             have HX1 : Hid (PAt w1 w.heap.size (rdV a N c K true)) := by rw [hw]; exact HX.out.setMid [.int .i64 (K : Int)] 1 (by simp [rdV])
             have HR1 : Hid (PAt w1 (w.heap.size + 1) [.slice none 0 0, .int .i64 0, .bool false]) := by rw [hw]; exact HR.out.of_block ((setCells_kept w.heap.size [.int .i64 (K : Int)] 1 w0).2 _ HR.out.lt (by omega))
             have HB1 : Hid (Below w.heap.size w w1) := by rw [hw]; exact HB.out.trans ((apartR_setCells _ _ _ _).below (Nat.le_refl _))
             clear hw k0 k1 k2 f1 f2)
          | (refine list_loadAgg (rd_load w1 w.heap.size (rdV a N c K true) rfl HX1.out.1.range) rfl _ rfl rfl ?_)
          | (refine list_storeAgg rfl _ _ rfl (w.heap.size + 1) 0 rfl (rdV a N c K true) rfl (by rw [sz_rd]; rfl) (all_one rfl) (HR1.out.thereMid 0 3 (by simp)) ?_
             intro w2 hw
             have HW2 := Lib.hid hw
             clear hw)
          | fail)
        have hpz : PAt w2 (w.heap.size + 1) (rdV a N c K true) := by rw [HW2.out]; exact HR1.out.setCells _ rfl
        refine ret_row2 rfl _ _ _ hpz.1 rowT_rd rfl rfl rfl ⟨by rw [HRes.out, ← HN.out]; rfl, ?_⟩
        rw [HW2.out]
        exact HB1.out.trans ((apartR_setCells _ _ _ _).below (by omega))
  · have HRes : Hid (rgetS l p ok n = (p, false, 0)) := by
      unfold Hid rgetS
      rw [if_neg (by rw [← HN.out]; exact hg)]
    have hgo : ok = false ∨ (ok = true ∧ N - p < n) := by
      cases ok with
      | false => exact Or.inl rfl
      | true => exact Or.inr ⟨rfl, by have : ¬ n ≤ N - p := fun h => hg ⟨rfl, h⟩; omega⟩
    clear hg
    have fin : True := trivial
    rcases hgo with rfl | ⟨rfl, hgo⟩
    · go_upto_region 2 with fail
      go_upto_region 3 with (first
        | (refine list_storeBool rfl _ _ rfl w.heap.size 2 rfl false rfl (HX.out.thereMid 2 1 (by simp [rdV])) ?_
           intro w1 hw
           have HX1 : Hid (PAt w1 w.heap.size (rdV a N c p false)) := by rw [hw]; exact HX.out.setMid [.bool false] 2 (by simp [rdV])
           have HR1 : Hid (PAt w1 (w.heap.size + 1) [.slice none 0 0, .int .i64 0, .bool false]) := by rw [hw]; exact HR.out.of_block ((setCells_kept w.heap.size [.bool false] 2 w0).2 _ HR.out.lt (by omega))
           have HB1 : Hid (Below w.heap.size w w1) := by rw [hw]; exact HB.out.trans ((apartR_setCells _ _ _ _).below (Nat.le_refl _))
           clear hw k0 k1 k2 f1 f2)
        | fail)
      go_wp2_with (first
        | (refine list_loadAgg (rd_load w1 w.heap.size (rdV a N c p false) rfl HX1.out.1.range) rfl _ rfl rfl ?_)
        | (refine list_storeAgg rfl _ _ rfl (w.heap.size + 1) 0 rfl (rdV a N c p false) rfl (by rw [sz_rd]; rfl) (all_one rfl) (HR1.out.thereMid 0 3 (by simp)) ?_
           intro w2 hw
           have HW2 := Lib.hid hw
           clear hw)
        | fail)
      have hpz : PAt w2 (w.heap.size + 1) (rdV a N c p false) := by rw [HW2.out]; exact HR1.out.setCells _ rfl
      refine ret_row2 rfl _ _ _ hpz.1 rowT_rd rfl rfl rfl ⟨by rw [HRes.out, ← HN.out]; rfl, ?_⟩
      rw [HW2.out]
      exact HB1.out.trans ((apartR_setCells _ _ _ _).below (by omega))
    · have i3 : (N : Int) - (p : Int) < (n : Int) := by omega
      go_wp2_with (first
        | (refine list_storeBool rfl _ _ rfl w.heap.size 2 rfl false rfl (HX.out.thereMid 2 1 (by simp [rdV])) ?_
           intro w1 hw
           have HX1 : Hid (PAt w1 w.heap.size (rdV a N c p false)) := by rw [hw]; exact HX.out.setMid [.bool false] 2 (by simp [rdV])
           have HR1 : Hid (PAt w1 (w.heap.size + 1) [.slice none 0 0, .int .i64 0, .bool false]) := by rw [hw]; exact HR.out.of_block ((setCells_kept w.heap.size [.bool false] 2 w0).2 _ HR.out.lt (by omega))
           have HB1 : Hid (Below w.heap.size w w1) := by rw [hw]; exact HB.out.trans ((apartR_setCells _ _ _ _).below (Nat.le_refl _))
           clear hw k0 k1 k2 f1 f2)
        | (refine list_loadAgg (rd_load w1 w.heap.size (rdV a N c p false) rfl HX1.out.1.range) rfl _ rfl rfl ?_)
        | (refine list_storeAgg rfl _ _ rfl (w.heap.size + 1) 0 rfl (rdV a N c p false) rfl (by rw [sz_rd]; rfl) (all_one rfl) (HR1.out.thereMid 0 3 (by simp)) ?_
           intro w2 hw
           have HW2 := Lib.hid hw
           clear hw)
        | fail)
      have hpz : PAt w2 (w.heap.size + 1) (rdV a N c p false) := by rw [HW2.out]; exact HR1.out.setCells _ rfl
      refine ret_row2 rfl _ _ _ hpz.1 rowT_rd rfl rfl rfl ⟨by rw [HRes.out, ← HN.out]; rfl, ?_⟩
      rw [HW2.out]
      exact HB1.out.trans ((apartR_setCells _ _ _ _).below (by omega))
end Go.Proofs.YtpknalpdcfjffaaGreat
/- The reference's getInt. -/
namespace Go.Proofs.YtpknalpdcfjffaaGreat
open Go Go.RowKit

/-- Between two calls of a reader: the reader's variable, the result's, and what stands below. -/
structure GetS (a : Option Addr) (c : Nat) (l : List UInt8) (w : World) (p : Nat) (ok : Bool) (W : World) : Prop where
  x : PAt W w.heap.size (rdV a l.length c p ok)
  r : PAt W (w.heap.size + 1) [.slice none 0 0, .int .i64 0, .bool false]
  below : Below w.heap.size w W
  src : BytesL W w.heap.size (.slice a l.length c) l
  le : p ≤ l.length
theorem rgetS_le (l : List UInt8) (p : Nat) (ok : Bool) (n : Nat) (hp : p ≤ l.length) : (rgetS l p ok n).1 ≤ l.length := by
  unfold rgetS
  split
  · rename_i h; show p + n ≤ l.length; omega
  · exact hp
theorem rgetS_lt (l : List UInt8) (p : Nat) (ok : Bool) : (rgetS l p ok 8).2.2 < 18446744073709551616 := by
  unfold rgetS
  split
  · have h1 := num_lt ((l.drop p).take 8)
    have h2 : ((l.drop p).take 8).length ≤ 8 := by rw [List.length_take]; omega
    have h3 : 256 ^ ((l.drop p).take 8).length ≤ 256 ^ 8 := Nat.pow_le_pow_right (by decide) h2
    have h4 : (256 : Nat) ^ 8 = 18446744073709551616 := by decide
    show num _ < _
    omega
  · show 0 < _
    omega
section
variable {a : Option Addr} {c p : Nat} {l : List UInt8} {w W W' : World} {ok : Bool}
theorem GetS.start (h : BytesL w w.heap.size (.slice a l.length c) l) (hp : p ≤ l.length) : GetS a c l w p ok ((w.alloc (.cells (rdV a l.length c p ok).toArray 99)).alloc (.cells #[.slice none 0 0, .int .i64 0, .bool false] 99)) := by
  have hB : Below w.heap.size w ((w.alloc (.cells (rdV a l.length c p ok).toArray 99)).alloc (.cells #[.slice none 0 0, .int .i64 0, .bool false] 99)) := ((Below.refl _ _).alloc (Nat.le_refl _) _).alloc (by simp) _
  exact ⟨(PAt.new w _ (by simp [rdV]) _ (by decide) rfl).below ((Below.refl _ _).alloc (Nat.le_refl _) _), PAt.new _ [.slice none 0 0, .int .i64 0, .bool false] (by simp) _ (by decide) (by simp), hB, h.below hB, hp⟩
theorem GetS.lt (h : GetS a c l w p ok W) : w.heap.size < W.heap.size := h.x.lt
theorem GetS.new (h : GetS a c l w p ok W) (hb : Below W.heap.size W W') : GetS a c l w p ok W' := ⟨h.x.below hb, h.r.below hb, h.below.trans (hb.mono h.below.size), h.src.below (hb.mono h.below.size), h.le⟩
theorem GetS.put (h : GetS a c l w p ok W) {p' : Nat} {ok' : Bool} (hp : p' ≤ l.length) (hW : W' = W.setCells w.heap.size 0 (rdV a l.length c p' ok')) : GetS a c l w p' ok' W' := by
  have hb : Below w.heap.size W W' := by rw [hW]; exact (apartR_setCells _ _ _ _).below (Nat.le_refl _)
  refine ⟨by rw [hW]; exact h.x.setCells _ rfl, ?_, h.below.trans hb, h.src.below hb, hp⟩
  rw [hW]
  exact h.r.of_block ((setCells_kept w.heap.size (rdV a l.length c p' ok') 0 W).2 _ h.r.lt (by omega))
theorem GetS.fin (h : GetS a c l w p ok W) (hW : W' = W.setCells (w.heap.size + 1) 0 (rdV a l.length c p ok)) : PAt W' (w.heap.size + 1) (rdV a l.length c p ok) ∧ Below w.heap.size w W' := by
  rw [hW]
  exact ⟨h.r.setCells _ rfl, h.below.trans ((apartR_setCells _ _ _ _).below (by omega))⟩
end
def RIntIs (a : Option Addr) (c : Nat) (l : List UInt8) (p : Nat) (ok : Bool) (w : World) (e : Ending) (w' : World) : Prop := e = .returned (.tuple #[.agg (rdV a l.length c (rgetS l p ok 8).1 (rgetS l p ok 8).2.1).toArray, .int .i64 (i64of (rgetS l p ok 8).2.2)]) ∧ Below w.heap.size w w'
set_option maxHeartbeats 16000000 in
set_option maxRecDepth 100000 in
theorem rgetInt_any (a : Option Addr) (c : Nat) (l : List UInt8) (p : Nat) (ok : Bool) (w : World) (h : BytesL w w.heap.size (.slice a l.length c) l) (hp : p ≤ l.length) :
    Calls Tryz.prog 52 #[.agg (rdV a l.length c p ok).toArray] w (RIntIs a c l p ok w) := by
  have H0 := Lib.hid (GetS.start (ok := ok) h hp)
  clear h hp
  go_enter Tryz.func52, Tryz.ntmps52
  go_upto_region 1 with fail
  generalize (w.alloc (.cells (rdV a l.length c p ok).toArray 99)).alloc (.cells #[.slice none 0 0, .int .i64 0, .bool false] 99) = w0 at H0 ⊢
  go_wp2_with (first
    | (refine list_loadAgg (rd_load w0 w.heap.size (rdV a l.length c p ok) rfl H0.out.x.1.range) rfl _ rfl rfl ?_)
    | fail)
  refine (rget_any a c l p ok 8 (by omega) w0 (H0.out.src.up H0.out.below.size) H0.out.le).mono ?_
  rintro e w1 ⟨rfl, hb1⟩
  have H1 := Lib.hid (H0.out.new hb1)
  have HLe := Lib.hid (rgetS_le l p ok 8 H0.out.le)
  have HLt := Lib.hid (rgetS_lt l p ok)
  obtain ⟨q, hq⟩ : ∃ q, q = rgetS l p ok 8 := ⟨_, rfl⟩
  rw [← hq] at HLe HLt ⊢
  obtain ⟨q1, q2, q3⟩ := q
  have HQ := Lib.hid hq
  clear hq
  dsimp only at HLe HLt ⊢
  clear hb1 H0
  go_upto_region 2 with (first
    | (refine list_storeAgg rfl _ _ rfl w.heap.size 0 rfl (rdV a l.length c q1 q2) rfl (by rw [sz_rd]; rfl) (all_one rfl) (H1.out.x.thereMid 0 3 (by simp [rdV])) ?_
       intro w2 hw
       have H2 := Lib.hid (H1.out.put HLe.out hw)
       clear hw)
    | fail)
  go_wp2_with (first
    | (refine list_loadAgg (rd_load w2 w.heap.size (rdV a l.length c q1 q2) rfl H2.out.x.1.range) rfl _ rfl rfl ?_)
    | (refine list_storeAgg rfl _ _ rfl (w.heap.size + 1) 0 rfl (rdV a l.length c q1 q2) rfl (by rw [sz_rd]; rfl) (all_one rfl) (H2.out.r.thereMid 0 3 (by simp)) ?_
       intro w3 hw
       have H3 := Lib.hid (H2.out.fin hw)
       clear hw)
    | fail)
  have hw64 : wrap64 (q3 : Int) = i64of q3 := by
    have := HLt.out
    unfold wrap64 i64of
    split <;> omega
  refine ret_row2 rfl _ _ (.int .i64 (i64of q3)) H3.out.1.1 rowT_rd rfl (by rw [← hw64]; rfl) rfl ⟨by rw [← HQ.out], H3.out.2⟩
end Go.Proofs.YtpknalpdcfjffaaGreat
/- The reference's count. -/
namespace Go.Proofs.YtpknalpdcfjffaaGreat
open Go Go.RowKit

/-- What count gives: where it stands then, whether it fitted, the number. -/
def rcountS (l : List UInt8) (p : Nat) (ok : Bool) (s : Nat) : Nat × Bool × Nat := if (rgetS l p ok 4).2.1 = true ∧ (rgetS l p ok 4).2.2 ≤ (l.length - (rgetS l p ok 4).1) / s then ((rgetS l p ok 4).1, true, (rgetS l p ok 4).2.2) else ((rgetS l p ok 4).1, false, 0)
theorem rgetS_no (l : List UInt8) (p : Nat) (ok : Bool) (n : Nat) (h : (rgetS l p ok n).2.1 = false) : (rgetS l p ok n).2.2 = 0 := by
  unfold rgetS at h ⊢
  split at h
  · cases h
  · rename_i h1; rw [if_neg h1]
theorem rgetS_lt4 (l : List UInt8) (p : Nat) (ok : Bool) : (rgetS l p ok 4).2.2 < 4294967296 := by
  unfold rgetS
  split
  · have h1 := num_lt ((l.drop p).take 4)
    have h2 : ((l.drop p).take 4).length ≤ 4 := by rw [List.length_take]; omega
    have h3 : 256 ^ ((l.drop p).take 4).length ≤ 256 ^ 4 := Nat.pow_le_pow_right (by decide) h2
    have h4 : (256 : Nat) ^ 4 = 4294967296 := by decide
    show num _ < _
    omega
  · show 0 < _
    omega
theorem GetS.bool {a : Option Addr} {c p : Nat} {l : List UInt8} {w W W' : World} {ok b : Bool} (h : GetS a c l w p ok W) (hW : W' = W.setCells w.heap.size 2 [.bool b]) : GetS a c l w p b W' := by
  have hb : Below w.heap.size W W' := by rw [hW]; exact (apartR_setCells _ _ _ _).below (Nat.le_refl _)
  refine ⟨by rw [hW]; exact h.x.setMid [.bool b] 2 (by simp [rdV]), ?_, h.below.trans hb, h.src.below hb, h.le⟩
  rw [hW]
  exact h.r.of_block ((setCells_kept w.heap.size [.bool b] 2 W).2 _ h.r.lt (by omega))
def RCntIs (a : Option Addr) (c : Nat) (l : List UInt8) (p : Nat) (ok : Bool) (s : Nat) (w : World) (e : Ending) (w' : World) : Prop := e = .returned (.tuple #[.agg (rdV a l.length c (rcountS l p ok s).1 (rcountS l p ok s).2.1).toArray, .int .i64 ((rcountS l p ok s).2.2 : Nat)]) ∧ Below w.heap.size w w'
set_option maxHeartbeats 16000000 in
set_option maxRecDepth 100000 in
theorem rcount_any (a : Option Addr) (c : Nat) (l : List UInt8) (p : Nat) (ok : Bool) (s : Nat) (hs : 1 ≤ s ∧ s ≤ 100) (w : World) (h : BytesL w w.heap.size (.slice a l.length c) l) (hp : p ≤ l.length) :
    Calls Tryz.prog 77 #[.agg (rdV a l.length c p ok).toArray, .int .i64 s] w (RCntIs a c l p ok s w) := by
  have hlc : l.length ≤ 9223372036854775807 := by
    obtain ⟨a', c', e, h1, h2, _⟩ := h
    omega
  have H0 := Lib.hid (GetS.start (ok := ok) h hp)
  clear h hp
  go_enter Tryz.func77, Tryz.ntmps77
  go_upto_region 1 with fail
  generalize (w.alloc (.cells (rdV a l.length c p ok).toArray 99)).alloc (.cells #[.slice none 0 0, .int .i64 0, .bool false] 99) = w0 at H0 ⊢
  go_wp2_with (first
    | (refine list_loadAgg (rd_load w0 w.heap.size (rdV a l.length c p ok) rfl H0.out.x.1.range) rfl _ rfl rfl ?_)
    | fail)
  refine (rget_any a c l p ok 4 (by omega) w0 (H0.out.src.up H0.out.below.size) H0.out.le).mono ?_
  rintro e w1 ⟨rfl, hb1⟩
  have H1 := Lib.hid (H0.out.new hb1)
  have hle := rgetS_le l p ok 4 H0.out.le
  have hlt := rgetS_lt4 l p ok
  have hno := rgetS_no l p ok 4
  obtain ⟨q, hq⟩ : ∃ q, q = rgetS l p ok 4 := ⟨_, rfl⟩
  rw [← hq] at hle hlt hno ⊢
  obtain ⟨q1, q2, q3⟩ := q
  have HQ := Lib.hid hq
  clear hq
  dsimp only at hle hlt hno ⊢
  have HLe := Lib.hid hle
  clear hb1 H0
  go_upto_region 2 with (first
    | (refine list_storeAgg rfl _ _ rfl w.heap.size 0 rfl (rdV a l.length c q1 q2) rfl (by rw [sz_rd]; rfl) (all_one rfl) (H1.out.x.thereMid 0 3 (by simp [rdV])) ?_
       intro w2 hw
       have H2 := Lib.hid (H1.out.put HLe.out hw)
       clear hw)
    | fail)
  have k0 : w2.cell? ⟨w.heap.size, 0, none⟩ = some (.slice a l.length c) := H2.out.x.1.at 0 rfl
  have k1 : w2.cell? ⟨w.heap.size, 1, none⟩ = some (.int .i64 q1) := H2.out.x.1.at 1 rfl
  have k2 : w2.cell? ⟨w.heap.size, 2, none⟩ = some (.bool q2) := H2.out.x.1.at 2 rfl
  obtain ⟨D, hD⟩ : ∃ D, D = (l.length - q1) / s := ⟨_, rfl⟩
  have htd : ((l.length : Int) - (q1 : Int)).tdiv (s : Int) = (D : Int) := by
    rw [hD, show (l.length : Int) - (q1 : Int) = ((l.length - q1 : Nat) : Int) by omega]
    rfl
  have hDl : D ≤ l.length := by rw [hD]; exact Nat.le_trans (Nat.div_le_self _ _) (Nat.sub_le _ _)
  have d0 : (D : Int) ≤ 9223372036854775807 := by omega
  have d1 : (q1 : Int) ≤ (l.length : Int) := by omega
  have d2 : (l.length : Int) ≤ 9223372036854775807 := by omega
  have d3 : (q3 : Int) < 4294967296 := by omega
  have s0 : ¬ ((s : Int) = 0) := by omega
  have HD := Lib.hid hD
  have hno := Lib.hid hno
  clear hD hDl hle hlt
  cases q2 with
  | false =>
    have h0 : q3 = 0 := hno.out rfl
    subst h0
    have HRes : Hid (rcountS l p ok s = (q1, false, 0)) := by unfold Hid rcountS; rw [← HQ.out, if_neg (by simp)]
    have g0 : decide ((D : Int) < 0) = false := decide_eq_false (by omega)
    go_upto_region 5 with fail
    go_wp2_with (first
      | (refine list_loadAgg (rd_load w2 w.heap.size (rdV a l.length c q1 false) rfl H2.out.x.1.range) rfl _ rfl rfl ?_)
      | (refine list_storeAgg rfl _ _ rfl (w.heap.size + 1) 0 rfl (rdV a l.length c q1 false) rfl (by rw [sz_rd]; rfl) (all_one rfl) (H2.out.r.thereMid 0 3 (by simp)) ?_
         intro w3 hw
         have H3 := Lib.hid (H2.out.fin hw)
         clear hw)
      | fail)
    exact ret_row2 rfl _ _ (.int .i64 0) H3.out.1.1 rowT_rd rfl rfl rfl ⟨by rw [HRes.out]; rfl, H3.out.2⟩
  | true =>
    by_cases hg : q3 ≤ D
    · have HRes : Hid (rcountS l p ok s = (q1, true, q3)) := by unfold Hid rcountS; rw [← HQ.out, if_pos ⟨rfl, by rw [← HD.out]; exact hg⟩]
      have g0 : decide ((D : Int) < (q3 : Int)) = false := decide_eq_false (by omega)
      have HD3 := Lib.hid d3
      have d9 := Lib.hid (show (q3 : Int) ≤ (D : Int) by omega)
      have g2 : ((D : Int) < (q3 : Int)) = False := by simp; omega
      have g3 : (D < q3) = False := by simp; omega
      clear d3 hg
      go_upto_region 4 with fail
      go_upto_region 6 with fail
      have d3 : (q3 : Int) ≤ 9223372036854775807 := by have := d9.out; omega
      go_wp2_with (first
        | (refine list_loadAgg (rd_load w2 w.heap.size (rdV a l.length c q1 true) rfl H2.out.x.1.range) rfl _ rfl rfl ?_)
        | (refine list_storeAgg rfl _ _ rfl (w.heap.size + 1) 0 rfl (rdV a l.length c q1 true) rfl (by rw [sz_rd]; rfl) (all_one rfl) (H2.out.r.thereMid 0 3 (by simp)) ?_
           intro w3 hw
           have H3 := Lib.hid (H2.out.fin hw)
           clear hw)
        | fail)
      have hF : RCntIs a c l p ok s w (.returned (.tuple #[.agg (rdV a l.length c q1 true).toArray, .int .i64 ((q3 : Nat) : Int)])) w3 := ⟨by rw [HRes.out], H3.out.2⟩
      have HF := Lib.hid hF
      have HRow := Lib.hid H3.out.1.1
      clear hF HRes H3 H2 H1 g0 htd d0 d1 d2 d3 s0
      exact ret_row2 rfl _ _ _ HRow.out rowT_rd rfl rfl rfl HF.out
    · have HRes : Hid (rcountS l p ok s = (q1, false, 0)) := by unfold Hid rcountS; rw [← HQ.out, if_neg (by rw [← HD.out]; intro h; exact hg h.2)]
      have g0 : (D : Int) < (q3 : Int) := by omega
      go_upto_region 3 with fail
      go_upto_region 4 with (first
        | (refine list_storeBool rfl _ _ rfl w.heap.size 2 rfl false rfl (H2.out.x.thereMid 2 1 (by simp [rdV])) ?_
           intro w4 hw
           have H4 := Lib.hid (H2.out.bool hw)
           clear hw k0 k1 k2)
        | fail)
      have k2 : w4.cell? ⟨w.heap.size, 2, none⟩ = some (.bool false) := H4.out.x.1.at 2 rfl
      go_upto_region 5 with fail
      go_wp2_with (first
        | (refine list_loadAgg (rd_load w4 w.heap.size (rdV a l.length c q1 false) rfl H4.out.x.1.range) rfl _ rfl rfl ?_)
        | (refine list_storeAgg rfl _ _ rfl (w.heap.size + 1) 0 rfl (rdV a l.length c q1 false) rfl (by rw [sz_rd]; rfl) (all_one rfl) (H4.out.r.thereMid 0 3 (by simp)) ?_
           intro w3 hw
           have H3 := Lib.hid (H4.out.fin hw)
           clear hw)
        | fail)
      exact ret_row2 rfl _ _ (.int .i64 0) H3.out.1.1 rowT_rd rfl rfl rfl ⟨by rw [HRes.out]; rfl, H3.out.2⟩
end Go.Proofs.YtpknalpdcfjffaaGreat
