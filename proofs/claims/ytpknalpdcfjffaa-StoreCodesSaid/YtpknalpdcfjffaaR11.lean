/- StoreReturns answers true at every input. No conditions. -/
import Derived.Test.YtpknalpdcfjffaaR10
import Derived.Deep.DeepAppendWide
import Derived.Test.YtpknalpdcfjffaaRows
import Derived.WalkKit
import Derived.ProofKit
import Derived.OpenShut
import Derived.SizedLaws
set_option linter.unusedVariables false
set_option linter.unusedSimpArgs false
/- The law's entry. Printed by gen_law.py. -/
namespace Go.Proofs.Ytpknalpdcfjffaa
open Go Go.RowKit

set_option maxHeartbeats 16000000 in
set_option maxRecDepth 100000 in
theorem entry_ok (B b : Nat) (w : World) (h : CodesIs w B b) :
    Calls Try.prog 8 #[.pointer (some ⟨b, 0, none⟩)] w (EntIs B b w) := by
  have hle := h.le
  have hbw : Hid (b < w.heap.size) := h.lt
  have H0 : Hid (Mk w B b w.heap.size (kc 0) (w.alloc (.cells #[.int .i64 0, .int .i64 0, .int .i64 0, .string ⟨#[]⟩, .int .i64 0, .int .i64 0, .int .i64 0, .int .i64 0, .int .i64 0, .slice none 0 0, .int .i64 0, .int .i64 0, .int .i64 0, .string ⟨#[]⟩, .int .i64 0, .bool false, .int .i64 0, .int .i64 0, .int .i64 0, .int .i64 0, .slice none 0 0, .int .i64 0, .int .i64 0, .int .i64 0, .slice none 0 0, .slice none 0 0, .slice none 0 0, .slice none 0 0, .int .i64 0, .int .u64 0, .int .i64 0, .int .i64 0, .int .i64 0, .int .i64 0, .slice none 0 0, .slice none 0 0, .slice none 0 0, .slice none 0 0] 54))) := Mk.new (St.start h) hle (kc 0) (by rw [kc_length]; decide) 54 (by decide)
  clear h hle
  go_enter Try.func8, Try.ntmps8
  go_wp2_with fail
  generalize w.alloc (.cells #[.int .i64 0, .int .i64 0, .int .i64 0, .string ⟨#[]⟩, .int .i64 0, .int .i64 0, .int .i64 0, .int .i64 0, .int .i64 0, .slice none 0 0, .int .i64 0, .int .i64 0, .int .i64 0, .string ⟨#[]⟩, .int .i64 0, .bool false, .int .i64 0, .int .i64 0, .int .i64 0, .int .i64 0, .slice none 0 0, .int .i64 0, .int .i64 0, .int .i64 0, .slice none 0 0, .slice none 0 0, .slice none 0 0, .slice none 0 0, .int .i64 0, .int .u64 0, .int .i64 0, .int .i64 0, .int .i64 0, .int .i64 0, .slice none 0 0, .slice none 0 0, .slice none 0 0, .slice none 0 0] 54) = w0 at H0 ⊢
  refine (next_ok B b 4 w0 H0.out.st.1 (by omega) (by omega)).mono ?_
  rintro e w1 ⟨x, x0, x1, rfl, hs⟩
  have H1 := Lib.hid (H0.out.call hs)
  have HA : Hid (Mk w B b w1.heap.size (kc 0) (w1.alloc (.cells #[.int .i64 0, .int .i64 0, .int .i64 0, .string ⟨#[]⟩, .int .i64 0, .int .i64 0, .int .i64 0, .int .i64 0, .int .i64 0, .slice none 0 0, .int .i64 0, .int .i64 0, .int .i64 0, .string ⟨#[]⟩, .int .i64 0, .bool false, .int .i64 0, .int .i64 0, .int .i64 0, .int .i64 0, .slice none 0 0, .int .i64 0, .int .i64 0, .int .i64 0, .slice none 0 0, .slice none 0 0, .slice none 0 0, .slice none 0 0, .int .i64 0, .int .u64 0, .int .i64 0, .int .i64 0, .int .i64 0, .int .i64 0, .slice none 0 0, .slice none 0 0, .slice none 0 0, .slice none 0 0] 54))) := Mk.new H1.out.st H1.out.bb (kc 0) (by rw [kc_length]; decide) 54 (by decide)
  clear hs H0
  have hx : x = 0 ∨ x = 1 ∨ x = 2 ∨ x = 3 := by omega
  clear x0 x1
  rcases hx with rfl | rfl | rfl | rfl
  · skip
    have hbK := run_buildK 1
    go_upto_region 2 with (refine list_storeAgg rfl _ _ rfl w1.heap.size 0 rfl (kc 1) rfl sz_ent (kc_one 1) (HA.out.pa.thereMid 0 38 (by rw [kc_length]; decide)) ?_; intro wM hwM)
    have HE := Lib.hid (En.new (k := 1) (by unfold I64; omega) H1.out hbw.out hwM)
    clear hwM HA H1
    generalize w1.heap.size = P at HE ⊢
    have hk0 : wM.cell? ⟨P, 0, none⟩ = some (.int .i64 1) := HE.out.m.pa.1.at 0 rfl
    go_wp2_with fail
    refine (int_ok B b wM HE.out.m.st.1).mono ?_
    rintro e w2 ⟨n, hx, rfl, hs⟩
    have HE2 := Lib.hid (HE.out.call hs)
    have HX := Lib.hid hx
    clear hs hx HE hk0
    go_wp2_with (first
      | (refine list_storeEl intT rfl _ _ rfl P 1 rfl [(.int .i64 n)] rfl rfl (all_one rfl) (HE2.out.m.pa.thereMid 1 1 (by rw [entCells_length]; decide)) ?_
         intro w3 hw
         have HE3 : Hid (En w B b P { Ent.zero with kind := 1, now := n } nilV nilV nilV nilV nilV nilV nilV nilV nilV nilV w3) := by
           exact HE2.out.setNow HX.out hw
         clear hw HE2)
      | (refine list_loadAgg HE3.out.load rfl _ rfl rfl ?_)
      | (refine list_entStore HE3.out rfl _ _ rfl rfl rfl ?_; intro wz hwz; have HW := Lib.hid hwz; clear hwz)
      | fail)
    exact HE3.out.ret HW.out rfl rfl rfl (Or.inl rfl) ⟨⟨Nat.zero_le _, Nat.zero_le _⟩, Nat.zero_le _, Nat.zero_le _, Or.inl rfl⟩
  · skip
    have hbK := run_buildK 2
    go_upto_region 2 with (refine list_storeAgg rfl _ _ rfl w1.heap.size 0 rfl (kc 2) rfl sz_ent (kc_one 2) (HA.out.pa.thereMid 0 38 (by rw [kc_length]; decide)) ?_; intro wM hwM)
    have HE := Lib.hid (En.new (k := 2) (by unfold I64; omega) H1.out hbw.out hwM)
    clear hwM HA H1
    generalize w1.heap.size = P at HE ⊢
    have hk0 : wM.cell? ⟨P, 0, none⟩ = some (.int .i64 2) := HE.out.m.pa.1.at 0 rfl
    go_wp2_with fail
    refine (report_ok B b wM HE.out.m.st.1).mono ?_
    rintro e w2 ⟨r, cs, rfl, hrep, h1, h2, hs⟩
    obtain ⟨rv, rfl, r1, r2, r3, r4, r5⟩ := repP hrep
    obtain ⟨ra, rc, rfl⟩ := r5.slice
    have HE2 := Lib.hid (HE.out.call hs)
    have HSr : Hid (smRep r) := ⟨h1, h2⟩
    have HRp := Lib.hid (And.intro r1 (And.intro r2 (And.intro r3 r4)))
    have HRd := Lib.hid (Cy.rd (b := b) (P := P) (w := w) rdE_ok r5 HE.out.m.lt HE.out.m.st.lt HE.out.r.lt)
    clear hs h1 h2 hrep r1 r2 r3 r4 r5 HE hk0
    simp only [repCells]
    go_wp2_with fail
    refine (next_ok B b 27 w2 HE2.out.m.st.1 (by omega) (by omega)).mono ?_
    rintro e w3 ⟨co, j0, jm, rfl, hs⟩
    have HE3 := Lib.hid (HE2.out.call hs)
    have HRd3 := Lib.hid (rdk rdE_ok HRd.out (Kp.st (P := P) hs))
    have HCo : Hid (I64 co) := by unfold Hid; unfold I64; omega
    clear hs j0 jm HE2 HRd
    go_wp2_with fail
    refine (int_ok B b w3 HE3.out.m.st.1).mono ?_
    rintro e w4 ⟨ar, hx, rfl, hs⟩
    have HE4 := Lib.hid (HE3.out.call hs)
    have HRd4 := Lib.hid (rdk rdE_ok HRd3.out (Kp.st (P := P) hs))
    have HAr := Lib.hid hx
    clear hs hx HE3 HRd3
    go_wp2_with (first
      | (refine list_storeAgg rfl _ _ rfl P 2 rfl (itmCells r (.slice ra r.rds.length rc) co ar) rfl (by rw [sz_item]; rfl) (all_one rfl) (HE4.out.m.pa.thereMid 2 _ (by rw [entCells_length]; simp [itmCells, repCells])) ?_
         intro w5 hw
         have HE5 : Hid (En w B b P { Ent.zero with kind := 2, rep := r, corr := co, arr := ar } (.slice ra r.rds.length rc) nilV nilV nilV nilV nilV nilV nilV nilV nilV w5) := by
           exact HE4.out.setItem HRp.out HRd4.out HCo.out HAr.out hw
         clear hw HE4 HRd4)
      | (refine list_loadAgg HE5.out.load rfl _ rfl rfl ?_)
      | (refine list_entStore HE5.out rfl _ _ rfl rfl rfl ?_; intro wz hwz; have HW := Lib.hid hwz; clear hwz)
      | fail)
    exact HE5.out.ret HW.out rfl rfl rfl (Or.inr (Or.inl rfl)) ⟨HSr.out, Nat.zero_le _, Nat.zero_le _, Or.inl rfl⟩
  · skip
    have hbK := run_buildK 3
    go_upto_region 2 with (refine list_storeAgg rfl _ _ rfl w1.heap.size 0 rfl (kc 3) rfl sz_ent (kc_one 3) (HA.out.pa.thereMid 0 38 (by rw [kc_length]; decide)) ?_; intro wM hwM)
    have HE := Lib.hid (En.new (k := 3) (by unfold I64; omega) H1.out hbw.out hwM)
    clear hwM HA H1
    generalize w1.heap.size = P at HE ⊢
    have hk0 : wM.cell? ⟨P, 0, none⟩ = some (.int .i64 3) := HE.out.m.pa.1.at 0 rfl
    go_wp2_with fail
    refine (next_ok B b 4 wM HE.out.m.st.1 (by omega) (by omega)).mono ?_
    rintro e w2 ⟨st, j0, jm, rfl, hs⟩
    have HE2 := Lib.hid (HE.out.call hs)
    have HSt : Hid (I64 st) := by unfold Hid; unfold I64; omega
    clear hs j0 jm HE hk0
    go_wp2_with fail
    refine (name_ok B b w2 HE2.out.m.st.1).mono ?_
    rintro e w3 ⟨nm, hx, rfl, hs⟩
    have HE3 := Lib.hid (HE2.out.call hs)
    have HNm := Lib.hid hx
    clear hs hx HE2
    go_upto_region 10 with (first
        | (refine list_storeEl intT rfl _ _ rfl P 12 rfl [(.int .i64 st)] rfl rfl (all_one rfl) (HE3.out.m.pa.thereMid 12 1 (by rw [entCells_length]; decide)) ?_
           intro w4 hw
           have HE4 : Hid (En w B b P { Ent.zero with kind := 3, st := st } nilV nilV nilV nilV nilV nilV nilV nilV nilV nilV w4) := by
             exact HE3.out.setSt HSt.out hw
           clear hw HE3)
        | (refine list_storeEl strT rfl _ _ rfl P 13 rfl [(.string nm)] rfl rfl (all_one rfl) (HE4.out.m.pa.thereMid 13 1 (by rw [entCells_length]; decide)) ?_
           intro w5 hw
           have HE5 : Hid (En w B b P { Ent.zero with kind := 3, st := st, name := nm } nilV nilV nilV nilV nilV nilV nilV nilV nilV nilV w5) := by
             exact HE4.out.setName (Nat.le_trans HNm.out (by decide)) hw
           clear hw HE4)
        | fail)
    go_wp2_with fail
    refine (int_ok B b w5 HE5.out.m.st.1).mono ?_
    rintro e w6 ⟨fr, hx, rfl, hs⟩
    have HE6 := Lib.hid (HE5.out.call hs)
    have HFr := Lib.hid hx
    clear hs hx HE5
    go_wp2_with fail
    refine (next_ok B b 2 w6 HE6.out.m.st.1 (by omega) (by omega)).mono ?_
    rintro e w7 ⟨cl, j0, jm, rfl, hs⟩
    have HE7 := Lib.hid (HE6.out.call hs)
    clear hs j0 jm HE6
    go_wp2_with fail
    refine (place_ok B b w7 HE7.out.m.st.1).mono ?_
    rintro e w8 ⟨f, p, q, r, f0, f1, p0, p1, q0, q1, r0, r1, rfl, hs⟩
    have HE8 := Lib.hid (HE7.out.call hs)
    have HPl : Hid (okPla ⟨f, p, q, r⟩) := by unfold Hid; simp only [okPla, okI, I64]; omega
    clear hs HE7 f0 f1 p0 p1 q0 q1 r0 r1
    generalize (cl == 1) = cb
    go_wp2_with (first
      | (refine list_storeAgg rfl _ _ rfl P 14 rfl [.int .i64 fr, .bool cb, .int .i64 f, .int .i64 p, .int .i64 q, .int .i64 r, nilV] rfl (by rw [sz_per]; rfl) (all_one rfl) (HE8.out.m.pa.thereMid 14 _ (by rw [entCells_length]; simp)) ?_
         intro w9 hw
         have HE9 : Hid (En w B b P { Ent.zero with kind := 3, st := st, name := nm, from_ := fr, closed := cb, pl := ⟨f, p, q, r⟩ } nilV nilV nilV nilV nilV nilV nilV nilV nilV nilV w9) := HE8.out.setPer (p := ⟨f, p, q, r⟩) HFr.out HPl.out hw
         clear hw HE8)
      | fail)
    refine (next_ok B b 3 w9 HE9.out.m.st.1 (by omega) (by omega)).mono ?_
    rintro e W0 ⟨n, n0, n1, rfl, hs⟩
    obtain ⟨n, rfl⟩ := Int.eq_ofNat_of_zero_le n0
    have HC0 := Lib.hid (HE9.out.call hs)
    have HS := Lib.hid (Lp.start (E := rdE) (T := 81) HC0.out.m)
    clear hs HE9
    go_wp2_with fail
    go_loopw [4] (fun kv wr => ∃ (k : Nat) (v : Value) (l : List (Int × Int)), kv = .int .i64 k ∧ l.length + k ≤ 2 ∧ Hid (Lp rdE 81 w B b P (entCells { Ent.zero with kind := 3, st := st, name := nm, from_ := fr, closed := cb, pl := ⟨f, p, q, r⟩ } nilV v nilV nilV nilV nilV nilV nilV nilV nilV) W0 v l wr)) (fun kv _ => (intOf kv).toNat)
    case atStart => exact ⟨n, _, [], rfl, by simp; omega, HS⟩
    case round =>
      clear HS
      obtain ⟨k, v, l, rfl, hk, H0⟩ := hrel
      obtain ⟨va0, vc0, rfl⟩ := H0.out.row.slice
      have HL := Lib.hid hk
      by_cases hk0 : 0 < k
      · have k0 : (0 : Int) < (k : Int) := by omega
        clear hk
        go_upto_region 14 with fail
        refine wp_region_seqL (by kernel_rfl) (fun w' => PAt w' P (entCells { Ent.zero with kind := 3, st := st, name := nm, from_ := fr, closed := cb, pl := ⟨f, p, q, r⟩ } nilV (.slice va0 l.length vc0) nilV nilV nilV nilV nilV nilV nilV nilV)) 12 [(0, 0), (1, 0), (2, 1), (3, 0), (5, 0), (4, 2), (6, 2), (7, 0), (8, 2), (9, 2), (10, 0), (11, 0), (12, 2)] (by kernel_rfl) (H0.out.m.pa.drew) ?_
        refine sl_q (d := some 52) rfl rfl rfl (.pointer (some ⟨P, 14, none⟩)) (fun w => by go_simp) ?_
        simp only [Act.put, List.setIfInBounds_toArray, List.set_cons_zero, List.set_cons_succ]
        refine sl_q (d := some 53) rfl rfl rfl (.pointer (some ⟨P, 20, none⟩)) (fun w => by go_simp) ?_
        simp only [Act.put, List.setIfInBounds_toArray, List.set_cons_zero, List.set_cons_succ]
        refine sl_s (d := some 54) rfl rfl rfl (.slice va0 l.length vc0) (fun w hw => by have hw0 := hw.1.at 20 rfl; simp [execOp, Act.eval, hw0, go_sem]) ?_
        simp only [Act.put, List.setIfInBounds_toArray, List.set_cons_zero, List.set_cons_succ]
        refine sl_q (d := some 55) rfl rfl rfl (.pointer (some ⟨b, 0, none⟩)) (fun w => rfl) ?_
        simp only [Act.put, List.setIfInBounds_toArray, List.set_cons_zero, List.set_cons_succ]
        refine sl_q (d := some 57) rfl rfl rfl (.pointer (some ⟨b, 0, none⟩)) (fun w => rfl) ?_
        simp only [Act.put, List.setIfInBounds_toArray, List.set_cons_zero, List.set_cons_succ]
        refine sl_call (d := some 56) rfl rfl rfl ⟨_, Try.func16, by kernel_rfl, by kernel_rfl⟩ _ _ _ rfl rfl [.pointer (some ⟨b, 0, none⟩), .int .i64 12] rfl (next_ok B b 12 (wr.drew) ((H0.out.drew rdE_ok).m.st.1) (by omega) (by omega)) ?_
        rintro e w1 ⟨y1, p1, q1, rfl, hs⟩
        have H1 := Lib.hid ((H0.out.drew rdE_ok).call rdE_ok hs)
        clear hs
        have HY1 : Hid (0 ≤ y1 ∧ y1 ≤ 11) := ⟨p1, by omega⟩
        clear p1 q1
        refine ⟨_, rfl, fun _ => H1.out.m.pa, ?_⟩
        simp only [Act.put, List.setIfInBounds_toArray, List.set_cons_zero, List.set_cons_succ]
        refine sl_call (d := some 58) rfl rfl rfl ⟨_, Try.func20, by kernel_rfl, by kernel_rfl⟩ _ _ _ rfl rfl [.pointer (some ⟨b, 0, none⟩)] rfl (int_ok B b (w1) (H1.out.m.st.1)) ?_
        rintro e w2 ⟨y2, hx, rfl, hs⟩
        have H2 := Lib.hid (H1.out.call rdE_ok hs)
        have HY2 := Lib.hid hx
        clear hs hx
        refine ⟨_, rfl, fun _ => H2.out.m.pa, ?_⟩
        simp only [Act.put, List.setIfInBounds_toArray, List.set_cons_zero, List.set_cons_succ]
        refine sl_q (d := some 59) rfl rfl rfl (.agg #[.int .i64 y1, .int .i64 y2]) (fun w => by simp [execOp, Act.eval, Instr.build, go_sem]) ?_
        simp only [Act.put, List.setIfInBounds_toArray, List.set_cons_zero, List.set_cons_succ]
        have hre : rdE.rep (avR W0.heap.size (.slice va0 l.length vc0)) (w2) [.int .i64 y1, .int .i64 y2] (y1, y2) := ⟨rfl, by have := HY1.out; unfold I64; omega, HY2.out⟩
        obtain ⟨va, wa, hrun, hr, hb⟩ := RowE.append rdE_ok rdT H2.out.row hre (by have := HL.out; omega) H2.out.kp.size 29
        have HA := Lib.hid (Lp.next H2.out hr hb)
        have HRun := Lib.hid hrun
        clear hrun hr hb
        refine sl_run (d := some 60) rfl rfl rfl (.slice (some ⟨(w2).heap.size, 0, none⟩) 1 1) ((w2).alloc (.cells ([.int .i64 y1, .int .i64 y2]).toArray 81)) (lit_run rdT _ rfl _ [.int .i64 y1, .int .i64 y2] rfl (rdE_ok.len hre) (rdE_ok.one hre)) (fun _ => (H2.out.alloc rdE_ok _).m.pa) ?_
        clear hre
        simp only [Act.put, List.setIfInBounds_toArray, List.set_cons_zero, List.set_cons_succ]
        refine sl_run (d := some 61) rfl rfl rfl va wa (run_append _ _ _ rfl _ _ rfl rfl HRun.out) (fun _ => HA.out.m.pa) ?_
        simp only [Act.put, List.setIfInBounds_toArray, List.set_cons_zero, List.set_cons_succ]
        refine sl_q (d := some 62) rfl rfl rfl (.pointer (some ⟨P, 14, none⟩)) (fun w => by go_simp) ?_
        simp only [Act.put, List.setIfInBounds_toArray, List.set_cons_zero, List.set_cons_succ]
        refine sl_q (d := some 63) rfl rfl rfl (.pointer (some ⟨P, 20, none⟩)) (fun w => by go_simp) ?_
        simp only [Act.put, List.setIfInBounds_toArray, List.set_cons_zero, List.set_cons_succ]
        obtain ⟨va1, va2, va3⟩ := HA.out.row.slice
        subst va3
        have q0 := HA.out.m.pa.1.at 20 rfl
        have q1 := HA.out.m.pa.1.2.2 20 (by simp [entCells])
        have HZ := Lib.hid (HA.out.set rdE_ok 20 (.slice va1 (l ++ [(y1, y2)]).length va2) (by simp [entCells]))
        clear HA
        refine sl_skip (d := none) rfl rfl rfl (wa.setCell ⟨P, 20, none⟩ (.slice va1 (l ++ [(y1, y2)]).length va2)) (by simp [execOp, Act.eval, q0, q1, go_sem]) (fun h => by cases h) ?_
        clear q0 q1
        simp only [Act.put, List.setIfInBounds_toArray, List.set_cons_zero, List.set_cons_succ]
        refine sl_end ?_
        have HZ1 : Hid (Lp rdE 81 w B b P (entCells { Ent.zero with kind := 3, st := st, name := nm, from_ := fr, closed := cb, pl := ⟨f, p, q, r⟩ } nilV (.slice va1 (l ++ [(y1, y2)]).length va2) nilV nilV nilV nilV nilV nilV nilV nilV) W0 (.slice va1 (l ++ [(y1, y2)]).length va2) (l ++ [(y1, y2)]) (wa.setCell ⟨P, 20, none⟩ (.slice va1 (l ++ [(y1, y2)]).length va2))) := HZ
        generalize wa.setCell ⟨P, 20, none⟩ (.slice va1 (l ++ [(y1, y2)]).length va2) = wz at HZ1 ⊢
        clear HZ HRun H0 H1 H2
        have hk2 : k ≤ 2 := by have := HL.out; omega
        go_wp2_with fail
        go_roundw
        case rel => exact ⟨k - 1, _, _, by go_num, by have := HL.out; simp; omega, HZ1⟩
        case measure => simp [intOf]; omega
      · obtain rfl : k = 0 := by omega
        have HE10 : Hid (En w B b P { Ent.zero with kind := 3, st := st, name := nm, from_ := fr, closed := cb, pl := ⟨f, p, q, r⟩, bias := l } nilV (.slice va0 l.length vc0) nilV nilV nilV nilV nilV nilV nilV nilV wr) := HC0.out.setBias H0.out.kp H0.out.m (Cy.rd (b := b) (P := P) (w := w) rdE_ok (H0.out.row.rd rdE_ok (by decide) (by omega)) H0.out.pb (by have := H0.out.pb; have := H0.out.m.lo; omega) HC0.out.r.lt)
        clear hk H0 HC0
        go_wp2_with (first
          | (refine list_loadAgg HE10.out.load rfl _ rfl rfl ?_)
          | (refine list_entStore HE10.out rfl _ _ rfl rfl rfl ?_; intro wz hwz; have HW := Lib.hid hwz; clear hwz)
          | fail)
        exact HE10.out.ret HW.out rfl rfl rfl (Or.inr (Or.inr (Or.inl rfl))) ⟨⟨Nat.zero_le _, Nat.zero_le _⟩, HNm.out, by have := HL.out; simpa using this, Or.inl rfl⟩
  · skip
    have hbK := run_buildK 4
    go_upto_region 2 with (refine list_storeAgg rfl _ _ rfl w1.heap.size 0 rfl (kc 4) rfl sz_ent (kc_one 4) (HA.out.pa.thereMid 0 38 (by rw [kc_length]; decide)) ?_; intro wM hwM)
    have HE := Lib.hid (En.new (k := 4) (by unfold I64; omega) H1.out hbw.out hwM)
    clear hwM HA H1
    generalize w1.heap.size = P at HE ⊢
    have hk0 : wM.cell? ⟨P, 0, none⟩ = some (.int .i64 4) := HE.out.m.pa.1.at 0 rfl
    go_wp2_with fail
    refine (made_ok B b wM HE.out.m.st.1).mono ?_
    rintro e w2 ⟨c, cs, rfl, hrep, hsm, hs⟩
    have hrep2 := cycE_ok.weak (av' := fun k => nb b P k ∧ w.heap.size < k) hrep fun k hk _ => by
      have h1 : wM.heap.size ≤ k := hk
      have := HE.out.m.lt; have := HE.out.m.st.lt; have := HE.out.r.lt
      exact ⟨⟨by omega, by omega⟩, by omega⟩
    obtain ⟨u0, u1, u2, u3, u4, u5, u6, u7, rfl, hc⟩ := hrep2
    have HE2 := Lib.hid (HE.out.call hs)
    have HSm := Lib.hid hsm
    have HOne := Lib.hid (cycE_ok.one hrep)
    have HC : Hid (cycR (fun k => nb b P k ∧ w.heap.size < k) w2 c u0 u1 u2 u3 u4 u5 u6 u7) := hc
    clear hs hsm hc hrep HE hk0
    go_wp2_with (first
      | (refine list_storeAgg rfl _ _ rfl P 21 rfl (cycCells c u0 u1 u2 u3 u4 u5 u6 u7) rfl (by rw [sz_cyc]; rfl) HOne.out (HE2.out.m.pa.thereMid 21 _ (by simp [entCells, cycCells])) ?_
         intro w3 hw
         have HE3 : Hid (En w B b P { Ent.zero with kind := 4, cyc := c } nilV nilV u0 u1 u2 u3 u4 u5 u6 u7 w3) := by
           exact HE2.out.setCyc HC.out hw
         clear hw HE2)
      | (refine list_loadAgg HE3.out.load rfl _ rfl rfl ?_)
      | (refine list_entStore HE3.out rfl _ _ rfl rfl rfl ?_; intro wz hwz; have HW := Lib.hid hwz; clear hwz)
      | fail)
    exact HE3.out.ret HW.out rfl rfl rfl (Or.inr (Or.inr (Or.inr rfl))) ⟨⟨Nat.zero_le _, Nat.zero_le _⟩, Nat.zero_le _, Nat.zero_le _, Or.inr HSm.out⟩
end Go.Proofs.Ytpknalpdcfjffaa
/- append(b, l...) for bytes, however many. No walk. -/
namespace Go.Proofs.Ytpknalpdcfjffaa
open Go Go.RowKit

theorem append_bl {w : World} {base B : Nat} {v : Value} {l m : List UInt8} {a : Option Addr} {c : Nat} (h : OwnB w base v l) (hx : BytesL w B (.slice a m.length c) m) (hn : l.length ≤ 1000000000) (hm : m.length ≤ 150000000000000) (hb : base ≤ w.heap.size) (ty : TypeId) :
    ∃ (v' : Value) (w' : World), (Builtin.append_ #[22, 22] ty #[v, .slice a m.length c]).run Try.prog w = .ok v' w' ∧ OwnB w' base v' (l ++ m) ∧ Below base w w' := by
  obtain ⟨i0, hi, hz0, hz1, hz2⟩ := info_parts binfo
  obtain ⟨a', c', e, h1, h2, h3⟩ := hx
  obtain ⟨rfl, rfl⟩ : a = a' ∧ c = c' := by simpa using e
  have e1 : bcs (l ++ m) = bcs l ++ bcs m := by simp [bcs]
  cases a with
  | some A =>
    have hnews : ∀ j u, (bcs m)[j]? = some u → w.cell? (A.add j) = some u := fun j u hj => by
      have hj' : j < m.length := by have := (List.getElem?_eq_some_iff.1 hj).1; simpa [bcs] using this
      obtain ⟨ab, ao, ea, _, hc⟩ := h3 j hj'
      obtain rfl := Option.some.inj ea
      have hu : u = .int .u8 (m[j].toNat : Nat) := by
        have : (bcs m)[j]? = some (.int .u8 (m[j].toNat : Nat)) := by simp [bcs, hj']
        rw [this] at hj; exact (Option.some.inj hj).symm
      rw [hu, Go.WideShapes.add_plain]
      exact hc
    obtain ⟨v', w', r1, r2, r3, _⟩ := run_append_own_wide (P := Try.prog) w base 22 ty 5 i0 (.int .u8 0) 1 1 Try.underlying22 hi hz0 hz1 hz2 rfl (by decide)
      v l.length (bcs l) h A m.length c (bcs m) (by simp [bcs]) hnews (bcs_one m) (by unfold maxLen; omega) (by omega) hb
    refine ⟨v', w', r1, ?_, (Below.refl base w).grown r3 hb (fun k hk => (World.ownsRow.lt h k hk).1)⟩
    unfold OwnB
    rw [List.length_append, e1]
    exact r2
  | none =>
    have hm0 : m = [] := by
      cases m with
      | nil => rfl
      | cons x r =>
        obtain ⟨_, _, ea, _⟩ := h3 0 (by simp)
        cases ea
    subst hm0
    rw [List.append_nil]
    have h' := h
    obtain ⟨q1, q2⟩ := h
    rcases q2 with ⟨rfl, h0⟩ | ⟨g, cap, cur, rfl, hbg, hg, hnc, hcm, hcs, htake⟩
    · refine ⟨.slice none 0 0, w, ?_, h', Below.refl _ _⟩
      simp [Builtin.append_, run_underlying Try.underlying22, sizeOf, typeInfo, hi, Builtin.lenOf, Builtin.firstCells, loadCells, loadCellsFrom]
    · have hr := run_append_room_src (P := Try.prog) w 22 22 ty 5 i0 Try.underlying22 hi g 0 l.length cap (.slice none 0 c) 0 [] (Src.ofNil w Try.underlying22 c) (by omega) (fun j hj => by simp at hj) (fun j hj => by simp at hj)
      exact ⟨_, w, hr, h', Below.refl _ _⟩
end Go.Proofs.Ytpknalpdcfjffaa
/- New of synopticfield: a reader of the first choices of a list that came in. -/
namespace Go.Proofs.Ytpknalpdcfjffaa
open Go Go.RowKit

/-- A list of bytes that came in, below block B. -/
def U8At (w : World) (B : Nat) (v : Value) : Prop :=
  ∃ (a : Option Addr) (len cap : Nat), v = .slice a len cap ∧ len ≤ cap ∧ cap ≤ 9223372036854775807 ∧
    ∀ i, i < len → ∃ ab ao : Nat, a = some ⟨ab, ao, none⟩ ∧ ab < B ∧ ∃ z : Int, 0 ≤ z ∧ z ≤ 255 ∧ w.cell? ⟨ab, ao + i, none⟩ = some (.int .u8 z)
theorem U8At.below {w w' : World} {B : Nat} {v : Value} (h : U8At w B v) (hb : Below w.heap.size w w') : U8At w' B v := by
  obtain ⟨a, len, cap, e, h1, h2, h3⟩ := h
  refine ⟨a, len, cap, e, h1, h2, fun i hi => ?_⟩
  obtain ⟨ab, ao, ha, hB, z, z0, z1, hc⟩ := h3 i hi
  refine ⟨ab, ao, ha, hB, z, z0, z1, ?_⟩
  rw [hb.cell (World.block_lt_of_cell? _ _ hc)]; exact hc
/-- A new reader. -/
def NewCodes (B : Nat) (w : World) (e : Ending) (w' : World) : Prop := e = .returned (.pointer (some ⟨w.heap.size, 0, none⟩)) ∧ CodesIs w' B w.heap.size ∧ Below w.heap.size w w' ∧ w'.heap.size = w.heap.size + 1
set_option maxHeartbeats 1000000 in
theorem cnew_ok (v : Value) (m : Nat) (B : Nat) (w : World) (hB : B ≤ w.heap.size) (hm : m ≤ 1000) (h : U8At w B v) : Calls Try.prog 7 #[v, .int .i64 m] w (NewCodes B w) := by
  obtain ⟨a, len, cap, rfl, hlc, hc, hel⟩ := h
  have Hel := Lib.hid hel
  have fin : ∀ (k : Nat), k ≤ len → k ≤ 1000 → NewCodes B w (.returned (.pointer (some ⟨w.heap.size, 0, none⟩))) (w.alloc (.cells #[.slice a k cap, .int .i64 0] 75)) := by
    intro k hk hk2
    have hb : Below w.heap.size w (w.alloc (.cells #[.slice a k cap, .int .i64 0] 75)) := (Below.refl _ _).alloc (Nat.le_refl _) _
    refine ⟨rfl, ⟨a, k, cap, 0, hB, by simp, by simp, by simp, by omega, hk2, fun i _ hi => ?_⟩, hb, by simp⟩
    obtain ⟨ab, ao, ha, hlt, z, z0, z1, hcell⟩ := Hel.out i (by omega)
    refine ⟨ab, ao, ha, hlt, z, z0, z1, ?_⟩
    rw [hb.cell (World.block_lt_of_cell? _ _ hcell), hcell]
  have Hfin := Lib.hid fin
  clear fin hel
  by_cases hlt : m < len
  · have hlt' : (m : Int) < (len : Int) := by omega
    go_enter Try.func7, Try.ntmps7
    go_wp2_with fail
    go_ret
    exact Hfin.out m (by omega) hm
  · go_enter Try.func7, Try.ntmps7
    go_wp2_with fail
    go_ret
    exact Hfin.out len (Nat.le_refl _) (by omega)
end Go.Proofs.Ytpknalpdcfjffaa
/- StoreReturns answers true. -/
namespace Go.Proofs.Ytpknalpdcfjffaa
open Go Go.RowKit

theorem list_loadAggG {T : TypeId} {ops : Array Oper} {rest : List Oper} {op : Oper} {a : Act} {w : World} {Q : Exit → Act → World → Prop} {ad : Addr} {v : Value} (hrun : (loadVar T ad).run Try.prog w = .ok v w) (hw : Region.wanted op (yielded ops a.tmps) = true) (x : Operand) (ho : op.op = .load T x) (hx : a.eval x = .pointer (some ad))
    (k : wpList Try.prog ops Q rest (a.put op.dst v) w) : wpList Try.prog ops Q (op :: rest) a w := by
  unfold wpList
  rw [if_pos hw]
  refine Or.inl ?_
  unfold Oper.wp execOp
  simp only [ho, hx, Instr.loadAt, Instr.sureAddr, Sem.run_bind, Sem.run_pure, Result.andThen_ok, hrun]
  exact k
theorem rsameB_self (x : Ent) : rsameB x x = true := by simp [rsameB]
theorem sameB_self (x : Ent) : sameB x x = true := by simp [sameB]
/-- A Log's variable, just made and stored. -/
theorem log_new (W : World) (cs : List Value) (hl : cs.length = 38) {W' : World} (hW : W' = (W.alloc (.cells (kc 0).toArray 54)).setCells W.heap.size 0 cs) : PAt W' W.heap.size cs ∧ Below W.heap.size W W' := by
  rw [hW]
  exact ⟨(PAt.new W (kc 0) (by rw [kc_length]; decide) 54 (by decide) rfl).setCells cs (by rw [hl, kc_length]), ((Below.refl _ _).alloc (Nat.le_refl _) _).trans ((apartR_setCells _ _ _ _).below (Nat.le_refl _))⟩
theorem log_there (W : World) (n : Nat) (hn : n ≤ 38) : (W.alloc (.cells (kc 0).toArray 54)).there W.heap.size 0 n := (PAt.new W (kc 0) (by rw [kc_length]; decide) 54 (by decide) rfl).1.there (by rw [kc_length]; exact hn)
def TrueIs (w : World) (e : Ending) (w' : World) : Prop := e = .returned (.bool true) ∧ Below w.heap.size w w'
set_option maxHeartbeats 16000000 in
set_option maxRecDepth 100000 in
theorem sret_any (v r : Value) (m : List UInt8) (w : World) (hc : U8At w w.heap.size v) (hm : BytesL w w.heap.size r m) (hlen : m.length ≤ 140737488351232) : Calls Try.prog 4 #[v, r] w (TrueIs w) := by
  have HC := Lib.hid hc
  have HM := Lib.hid hm
  have HLn := Lib.hid hlen
  clear hc hm hlen
  go_enter Try.func4, Try.ntmps4
  go_wp2_with fail
  refine (awake_any w).mono ?_
  rintro e w1 ⟨rfl, hb1⟩
  have HB1 := Lib.hid hb1
  have HC1 := Lib.hid (HC.out.below hb1)
  have HM1 := Lib.hid (HM.out.below hb1)
  clear hb1 HC HM
  go_wp2_with fail
  refine (cnew_ok v 200 w.heap.size w1 HB1.out.size (by decide) HC1.out).mono ?_
  rintro e w2 ⟨rfl, hcd, hb2, _⟩
  have HB2 := Lib.hid (below_then HB1.out hb2)
  have HM2 := Lib.hid (HM1.out.below (hb2.mono HB1.out.size))
  have HCd := Lib.hid hcd
  have HLo : Hid (w.heap.size ≤ w1.heap.size) := HB1.out.size
  clear hcd hb2 HB1 HC1 HM1
  go_wp2_with fail
  refine (entry_ok w.heap.size w1.heap.size w2 HCd.out).mono ?_
  rintro e w3 ⟨x, cs, rfl, hrep, hcan, hsm, hst⟩
  have hb3 : Below w.heap.size w2 w3 := (hst.2.mono HB2.out.size).below HLo.out
  have HB3 := Lib.hid (HB2.out.trans hb3)
  have HM3 := Lib.hid (HM2.out.below hb3)
  have HRx := Lib.hid (entE_ok.weak (av' := fun _ => True) hrep fun _ _ _ => trivial)
  have hok := canon_ok hrep hcan
  obtain ⟨b, hb, hbl⟩ := ent_short hcan hsm
  have HOk := Lib.hid hok
  have HBe := Lib.hid hb
  have HBl := Lib.hid hbl
  have HcsL : cs.length = 38 := entE_ok.len hrep
  clear hrep hcan hsm hst hb3 hok hb hbl HCd HB2 HM2
  go_wp2_with (first
    | (refine list_storeAgg rfl _ _ rfl w3.heap.size 0 rfl cs rfl (by rw [sz_ent, HcsL]) (entE_ok.one HRx.out) (log_there w3 _ (by rw [HcsL]; exact Nat.le_refl 38)) ?_
       intro w4 hw
       have h4 := log_new w3 cs HcsL hw
       have HP4 := Lib.hid h4.1
       have HB4 := Lib.hid (below_then HB3.out h4.2)
       have HM4 := Lib.hid (HM3.out.below (h4.2.mono HB3.out.size))
       have HR4 := Lib.hid (entE_ok.keep HRx.out (Keeps.of_below h4.2))
       clear hw h4 HB3 HM3 HRx)
    | (refine list_loadAgg (ent_load0 w4 w3.heap.size cs HcsL HP4.out.1.range) rfl _ rfl rfl ?_)
    | fail)
  refine (encode_any x cs (fun _ => True) w4 HR4.out (fun b' hb' => by rw [HBe.out] at hb'; obtain rfl := Option.some.inj hb'; have := HBl.out; omega)).mono ?_
  rintro e w5 ⟨v1, rfl, ho, hb5⟩
  rw [HBe.out, encRes_some _ _ (by have := HBl.out; omega)] at ho ⊢
  obtain ⟨N, hN⟩ : ∃ N, N = b.length + 9 := ⟨_, rfl⟩
  have hEl : (encB x.kind b).length = N := by rw [encB_length, hN]
  obtain ⟨E, hE⟩ : ∃ E, E = encB x.kind b := ⟨_, rfl⟩
  rw [← hE] at ho hEl ⊢
  obtain ⟨a1, c1, rfl⟩ := ho.slice
  rw [hEl] at ho ⊢
  have HEl := Lib.hid hEl
  have HN := Lib.hid hN
  have HDec : Hid (decRes (E ++ m) = (x, N, 0)) := by
    rw [hE, hN]
    exact dec_enc x.kind x b m HOk.out.1 HBe.out (by have := HBl.out; omega) HOk.out.2
  have HB5 := Lib.hid (below_then HB4.out hb5)
  have HM5 := Lib.hid (HM4.out.below (hb5.mono HB4.out.size))
  have HP5 := Lib.hid (HP4.out.below hb5)
  have HR5 := Lib.hid (entE_ok.keep HR4.out (Keeps.of_below hb5))
  have hx1 : BytesL w5 w5.heap.size (.slice a1 E.length c1) E := by rw [hEl]; exact ho.bl
  obtain ⟨v2, w6, hrun, ho2, hb6⟩ := append_bl (OwnB.nil w5 w5.heap.size) hx1 (by simp) (by rw [hEl, hN]; have := HBl.out; omega) (Nat.le_refl _) 22
  rw [hEl] at hrun
  rw [List.nil_append] at ho2
  obtain ⟨ra, rc, rfl⟩ := HM5.out.slice
  obtain ⟨v3, w7, hrun3, ho3, hb7⟩ := append_bl ho2 (HM5.out.below (hb6.mono HB5.out.size)) (by rw [hEl, hN]; have := HBl.out; omega) (by have := HLn.out; omega) hb6.size 22
  have HRun := Lib.hid hrun
  have HRun3 := Lib.hid hrun3
  have hb57 : Below w5.heap.size w5 w7 := hb6.trans hb7
  have HB7 := Lib.hid (below_then HB5.out hb57)
  have HP7 := Lib.hid (HP5.out.below hb57)
  have HR7 := Lib.hid (entE_ok.keep HR5.out (Keeps.of_below hb57))
  have HO3 := Lib.hid ho3.bl
  have HE := Lib.hid hE
  clear ho hb5 hx1 hrun ho2 hb6 hrun3 ho3 hb7 hb57 hEl hN hE HB4 HM4 HP4 HR4 HM5 HP5 HR5 HB5
  go_wp2_with (first
    | (at_builtin; refine wpList_append_run rfl _ _ _ rfl _ _ _ _ rfl rfl HRun.out ?_; clear HRun)
    | (at_builtin; refine wpList_append_run rfl _ _ _ rfl _ _ _ _ rfl rfl HRun3.out ?_; clear HRun3)
    | fail)
  refine (decode_any v3 (E ++ m) w7 HO3.out).mono ?_
  rintro e w8 ⟨ds, rfl, hrep, hb8⟩
  rw [HDec.out] at hrep ⊢
  have HdsL : ds.length = 38 := entE_ok.len hrep
  have HD8 := Lib.hid (entE_ok.weak (av' := fun _ => True) hrep fun _ _ _ => trivial)
  have HB8 := Lib.hid (below_then HB7.out hb8)
  have HP8 := Lib.hid (HP7.out.below hb8)
  have HR8 := Lib.hid (entE_ok.keep HR7.out (Keeps.of_below hb8))
  clear hrep hb8 HB7 HP7 HR7 HO3 HDec
  have HBk : Hid (∀ b', entB x = some b' → b'.length ≤ 9000000) := fun b' hb' => by rw [HBe.out] at hb'; obtain rfl := Option.some.inj hb'; have := HBl.out; omega
  go_wp2_with (first
    | (refine list_storeAgg rfl _ _ rfl w8.heap.size 0 rfl ds rfl (by rw [sz_ent, HdsL]) (entE_ok.one HD8.out) (log_there w8 _ (by rw [HdsL]; exact Nat.le_refl 38)) ?_
       intro w9 hw
       have h4 := log_new w8 ds HdsL hw
       have HQ9 := Lib.hid h4.1
       have HB9 := Lib.hid (below_then HB8.out h4.2)
       have HP9 := Lib.hid (HP8.out.below h4.2)
       have HR9 := Lib.hid (entE_ok.keep HR8.out (Keeps.of_below h4.2))
       have HD9 := Lib.hid (entE_ok.keep HD8.out (Keeps.of_below h4.2))
       clear hw h4 HB8 HP8 HR8 HD8)
    | (refine list_loadAggG (ent_load0 w9 w3.heap.size cs HcsL HP9.out.1.range) rfl _ rfl rfl ?_)
    | (refine list_loadAggG (ent_load0 w9 w8.heap.size ds HdsL HQ9.out.1.range) rfl _ rfl rfl ?_)
    | fail)
  refine (rsame_any x x cs ds (fun _ => True) w9 HR9.out HD9.out (fun b' hb' => by have := HBk.out b' hb'; omega) (fun b' hb' => by have := HBk.out b' hb'; omega)).mono ?_
  rintro e w10 ⟨rfl, hb10⟩
  rw [rsameB_self]
  have HQ10 := Lib.hid (HQ9.out.below hb10)
  have HP10 := Lib.hid (HP9.out.below hb10)
  have HR10 := Lib.hid (entE_ok.keep HR9.out (Keeps.of_below hb10))
  have HD10 := Lib.hid (entE_ok.keep HD9.out (Keeps.of_below hb10))
  have HB10 := Lib.hid (below_then HB9.out hb10)
  clear hb10 HQ9 HP9 HR9 HD9 HB9
  go_wp2_with (first
    | (refine list_loadAggG (ent_load0 w10 w3.heap.size cs HcsL HP10.out.1.range) rfl _ rfl rfl ?_)
    | (refine list_loadAggG (ent_load0 w10 w8.heap.size ds HdsL HQ10.out.1.range) rfl _ rfl rfl ?_)
    | fail)
  refine (same_any x x cs ds (fun _ => True) w10 HR10.out HD10.out HBk.out HBk.out).mono ?_
  rintro e w11 ⟨rfl, hb11⟩
  rw [sameB_self]
  have HF := Lib.hid (below_then HB10.out hb11)
  clear hb11 HQ10 HP10 HR10 HD10 HB10
  go_wp2_with fail
  go_ret
  exact ⟨rfl, HF.out⟩
end Go.Proofs.Ytpknalpdcfjffaa
/- What the rows of these statements give, how an argument opens, and the last step of a row. No conditions. -/
namespace Go.Proofs.Ytpknalpdcfjffaa
open Go Go.ChangeShapes Go.WideShapes Go.ChangeAt Go.RowKit

theorem own : ownKnob Try.prog.godebug = none := by kernel_rfl
theorem laid_out : laidOutB Try.prog = true := by kernel_rfl

section
variable {H : Type} {enc : TypeId × Value → H} {P : Program}
theorem trodAll_low (hl : laidOutB P = true) {W W' : World} (hb : Below W.heap.size W W') : ∀ (ts : List TypeId) (vs : List Value) (ds : List (DataW H)) (ps : List MemPlace),
    (ts.all fun t => P.readableRec t && decide (t < P.types.size)) = true → DataW.TrodAll enc P W 0 (fun _ => true) true ts vs ds ps → (∀ p ∈ ps, p.block < W.heap.size) →
    DataW.TrodAll enc P W' 0 (fun b => decide (b < W.heap.size)) true ts vs ds ps
  | [], [], [], _, _, h, _ => h
  | [], [], _ :: _, _, _, h, _ => h.elim
  | [], _ :: _, _, _, _, h, _ => h.elim
  | _ :: _, [], _, _, _, h, _ => h.elim
  | _ :: _, _ :: _, [], _, _, h, _ => h.elim
  | t :: ts, v :: vs, d :: ds, ps, hT, h, hlt => by
    obtain ⟨p, q, hp, hq, e⟩ := h
    simp only [List.all_cons, Bool.and_eq_true, decide_eq_true_eq] at hT
    refine ⟨p, q, Below.trod hl hT.1.1 hT.1.2 hp hb (fun x hx => hlt x (by rw [e]; simp [hx])), trodAll_low hl hb ts vs ds q hT.2 hq (fun x hx => hlt x (by rw [e]; simp [hx])), e⟩

theorem law_post (hl : laidOutB P = true) {f : Func} {s : ChangeSpec} {apart fresh handsOn : Bool} {tb : TypeId} {W W' : World} {args : Array Value} {ds gs : List (DataW H)} {before : List MemPlace}
    (hT : (f.params.toList.all fun t => P.readableRec t && decide (t < P.types.size)) = true) (hr : f.resultTypes = #[tb]) (htb : P.underlying tb = some .bool)
    (hW : DataW.Whole enc P f.params.toList s.vars apart W args.toList ds gs before) (hv : s.vars = []) (hf : s.fn H (ds ++ gs) = { results := [.lit (.bool true)], args := ds }) (hb : Below W.heap.size W W') :
    s.post enc P f apart fresh handsOn false W args (.bool true) W' := by
  have hW' := hW
  obtain ⟨p, q, hA, hV, rfl, _, _⟩ := hW
  have hlt : ∀ x ∈ p ++ q, x.block < W.heap.size := fun x hx => hW'.lt x hx
  rw [hv] at hV
  have hq : gs = [] ∧ q = [] := trodVars_none hV
  obtain ⟨rfl, rfl⟩ := hq
  have hA' := trodAll_low hl hb _ _ _ _ hT hA (fun x hx => hlt x (by simp [hx]))
  refine ⟨ds, [], p ++ [], [], p, [], hW', ?_, ?_, ?_, World.keptBut_mono (fun x hx => ⟨hx, by simp at hx; simp [hx]⟩) (hb.frame (· ∈ p ++ [])), fun h => by cases h⟩
  · rw [hf, hr]
    exact trodAll_cons_mk (shut_bool htb _) trodAll_mk0
  · rw [hf]; exact hA'
  · rw [hf, hv]; exact (rfl : ([] : List MemPlace) = [])
end

set_option maxRecDepth 100000 in
/-- A list of bytes that came in. -/
theorem open_codes {H : Type} {enc : TypeId × Value → H} {W : World} {base : Nat} {v : Value} {d : DataW H} {p : List MemPlace} (hv : Value.okWide Try.prog W .any base 22 v) (h : DataW.Trod enc Try.prog W 0 (fun _ => true) true 22 v d p) :
    U8At W W.heap.size v := by
  obtain ⟨a0, len, cap, rfl⟩ := okWide_slice Try.underlying22 hv
  obtain ⟨fuel, hf⟩ := h
  rcases open_ints Try.underlying22 Try.underlying5 (by kernel_rfl) hf with ⟨hcs, _⟩ | ⟨a, len', cap', zs, hcs, _, hl, hm, hz, _, hcell, hwz⟩
  · have hcs : a0 = none ∧ len = 0 ∧ cap = 0 := by simpa [Value.cells] using hcs
    obtain ⟨rfl, rfl, rfl⟩ := hcs
    exact ⟨none, 0, 0, rfl, by omega, by omega, fun i hi => by omega⟩
  · have hcs : a0 = some a ∧ len = len' ∧ cap = cap' := by simpa [Value.cells] using hcs
    obtain ⟨rfl, rfl, rfl⟩ := hcs
    simp only [if_true] at hz
    have hm' : cap ≤ 9223372036854775807 := by unfold maxLen at hm; omega
    refine ⟨some a, len, cap, rfl, hl, hm', fun i hi => ?_⟩
    obtain ⟨b, off, rfl, hc⟩ := ints_at hcell (by omega)
    have hci := hc i (by omega)
    refine ⟨b, off, rfl, World.block_lt_of_cell? (a := ⟨b, off + i, none⟩) _ hci, _, ?_, ?_, hci⟩
    all_goals
      have hw := hwz (zs.getD i 0) (by rw [List.getD_eq_getElem?_getD, List.getElem?_eq_getElem (by omega)]; simp)
      simp only [Lit.wf, Bool.and_eq_true, decide_eq_true_eq] at hw
      have h1 : IntKind.u8.min = 0 := rfl
      have h2 : IntKind.u8.max = 255 := rfl
      omega
set_option maxRecDepth 100000 in
/-- A list of bytes that came in, and how long it may be. -/
theorem open_bytes {H : Type} {enc : TypeId × Value → H} {W : World} {base : Nat} {v : Value} {d : DataW H} {p : List MemPlace} (hv : Value.okWide Try.prog W .any base 22 v) (h : DataW.Trod enc Try.prog W 0 (fun _ => true) true 22 v d p) :
    ∃ m : List UInt8, BytesL W W.heap.size v m ∧ ∀ (ts : List TypeId) (ds : List (DataW H)) (j : Nat), (DataW.weightsEach Try.prog ts ds).all (· ≤ reachBytes) = true → ts[j]? = some 22 → ds[j]? = some d → m.length ≤ 140737488351232 := by
  obtain ⟨a0, len, cap, rfl⟩ := okWide_slice Try.underlying22 hv
  obtain ⟨fuel, hf⟩ := h
  rcases open_ints Try.underlying22 Try.underlying5 (by kernel_rfl) hf with ⟨hcs, _⟩ | ⟨a, len', cap', zs, hcs, _, hl, hm, hz, hx, hcell, hwz⟩
  · have hcs : a0 = none ∧ len = 0 ∧ cap = 0 := by simpa [Value.cells] using hcs
    obtain ⟨rfl, rfl, rfl⟩ := hcs
    exact ⟨[], ⟨none, 0, rfl, by simp, by omega, fun i hi => by simp at hi⟩, fun _ _ _ _ _ _ => by simp⟩
  · have hcs : a0 = some a ∧ len = len' ∧ cap = cap' := by simpa [Value.cells] using hcs
    obtain ⟨rfl, rfl, rfl⟩ := hcs
    simp only [if_true] at hz
    have hm' : cap ≤ 9223372036854775807 := by unfold maxLen at hm; omega
    obtain ⟨m, hmm⟩ : ∃ m : List UInt8, m = (zs.take len).map fun z => UInt8.ofNat z.toNat := ⟨_, rfl⟩
    have hml : m.length = len := by rw [hmm, List.length_map, List.length_take]; omega
    refine ⟨m, ⟨some a, cap, by rw [hml], by omega, hm', fun i hi => ?_⟩, fun ts ds j hs ht hd => ?_⟩
    · rw [hml] at hi
      obtain ⟨b, off, rfl, hc⟩ := ints_at hcell (by omega)
      have hci := hc i (by omega)
      have hw := hwz (zs.getD i 0) (by rw [List.getD_eq_getElem?_getD, List.getElem?_eq_getElem (by omega)]; simp)
      simp only [Lit.wf, Bool.and_eq_true, decide_eq_true_eq] at hw
      have h1 : IntKind.u8.min = 0 := rfl
      have h2 : IntKind.u8.max = 255 := rfl
      refine ⟨b, off, rfl, World.block_lt_of_cell? (a := ⟨b, off + i, none⟩) _ hci, ?_⟩
      rw [hci]
      have e1 : m[i]? = some (UInt8.ofNat (zs.getD i 0).toNat) := by
        rw [hmm, List.getElem?_map, List.getElem?_take, if_pos hi, List.getElem?_eq_getElem (by omega), List.getD_eq_getElem?_getD, List.getElem?_eq_getElem (by omega)]
        rfl
      have e2 : m[i] = UInt8.ofNat (zs.getD i 0).toNat := by
        rw [List.getElem?_eq_getElem (by omega)] at e1
        exact Option.some.inj e1
      have e3 : ((UInt8.ofNat (zs.getD i 0).toNat).toNat : Int) = zs.getD i 0 := by
        rw [UInt8.toNat_ofNat']
        omega
      rw [e2, e3]
    · have hd' : ds[j]? = some (.slice (Go.ChangeShapes.lits .u8 (zs.take len)) (Go.ChangeShapes.lits .u8 (zs.drop len))) := by
        rw [hd]
        have := congrArg Prod.fst hx
        simpa using this
      have := sized_slice hs ht hd' Try.underlying22
      rw [show Try.prog.bytesOf 5 = 1 by kernel_rfl] at this
      simp only [Go.ChangeShapes.lits, List.length_map, List.length_take, List.length_drop, reachBytes] at this
      omega
end Go.Proofs.Ytpknalpdcfjffaa
/- StoreReturns answers true at every input. No conditions. -/

namespace Go.Proofs.Ytpknalpdcfjffaa.returns
open Go Go.ChangeShapes Go.WideShapes Go.ChangeAt Go.RowKit

set_option maxRecDepth 100000 in
theorem lifted (os : Os) (started : os.Started) (H : Type) (enc : TypeId × Value → H) :
    ReturnsInHanded {} Try.checked os 4 .any (Rows.storeReturnsSpec.pre6 enc Try.prog Try.f4 Rows.storeReturnsRow.domain false) (Rows.storeReturnsSpec.post enc Try.prog Try.f4 false true false false) := by
  refine returnsInHanded_of_change_sized (C := Try.checked) own started (by kernel_rfl) Try.func4
    (ChangeSpec.witness6 (enc := enc) (C := Try.checked) false ⟨#[], #[.slice none 0 0, .slice none 0 0], []⟩ 8 (by kernel_rfl) (by kernel_rfl) (by kernel_rfl) (by kernel_rfl)) ?_
  intro W base args ds gs before hval hW _ hsz _
  have hW' := hW
  obtain ⟨p, q, hA0, hV, rfl, _, _⟩ := hW
  have hA : DataW.TrodAll enc Try.prog W 0 (fun _ => true) true Try.f4.params.toList args.toList ds p := hA0
  rw [Try.params4] at hA hval hsz
  obtain ⟨v0, vs0, d0, ds0, p0, q0, hargs, rfl, rfl, h0, r0⟩ := trodAll_cons hA
  obtain ⟨v1, vs1, d1, ds1, p1, q1, hargs1, rfl, rfl, h1, r1⟩ := trodAll_cons r0
  obtain ⟨rfl, rfl, rfl⟩ := trodAll_nil r1
  obtain rfl : args = #[v0, v1] := by cases args; simp_all
  obtain ⟨rfl, rfl⟩ := trodVars_none hV
  have hc := open_codes (hval 0 22 v0 rfl rfl) h0
  obtain ⟨m, hm, hl⟩ := open_bytes (hval 1 22 v1 rfl rfl) h1
  refine (sret_any v0 v1 m W hc hm (hl _ _ 1 hsz rfl rfl)).mono fun e W' ⟨he, hb⟩ => ?_
  subst he
  exact ⟨_, rfl, law_post laid_out (by kernel_rfl) (by kernel_rfl) Try.underlying4 hW' rfl rfl hb⟩

theorem said : Rows.StoreReturnsSaid :=
  OpenClaim.holds_of_wide 4 Try.f4 rfl rfl rfl rfl rfl rfl rfl ⟨rfl, rfl, rfl, rfl, rfl⟩ rfl rfl rfl rfl rfl (by kernel_rfl) Try.func4 (by kernel_rfl)
    (of_decide_eq_true (by kernel_rfl)) (by unfold Func.isWrapper; first | (rw [if_pos (by decide +kernel)]; kernel_rfl) | (rw [if_neg (by decide +kernel)]; exact ⟨rfl, rfl⟩))
    (fun os started H enc _ => lifted os started H enc)
end Go.Proofs.Ytpknalpdcfjffaa.returns

namespace Go.Proofs.Ytpknalpdcfjffaa
theorem returns_said : Rows.StoreReturnsSaid := returns.said
#print axioms returns_said
end Go.Proofs.Ytpknalpdcfjffaa
