/- Part 10 of the proof: laws on memory and what functions of the program return. No conditions but those that each theorem names. -/
import Derived.Test.YtpknalpdcfjffaaGreatR09
import Derived.Deep.DeepCutAuto
set_option linter.unusedVariables false
set_option linter.unusedSimpArgs false
/- The reference's putReport. Printed by gen_ref.py. -/
namespace Go.Proofs.YtpknalpdcfjffaaGreat
open Go Go.RowKit

set_option maxHeartbeats 16000000 in
set_option maxRecDepth 100000 in
theorem rputReport_any (base : Nat) (v : Value) (l : List UInt8) (r : Rep) (cs : List Value) (av : Nat → Prop) (w : World) (h : OwnB w base v l) (hr : repE.rep av w cs r) (hl : l.length + (repB r).length ≤ 12000000) (hb : base ≤ w.heap.size) :
    Calls Tryz.prog 39 #[v, .agg cs.toArray] w fun e w' => ∃ v', e = .returned v' ∧ OwnB w' base v' (l ++ repB r) ∧ Below base w w' ∧ NB w w' := by
  obtain ⟨rv, rfl, r1, r2, r3, r4, r5⟩ := hr
  have HI_r_kind := Lib.hid r1
  have HI_r_time := Lib.hid r3
  have HSz := Lib.hid r2
  have HRd := Lib.hid r5.readsR
  have HN : Hid (r.rds.length ≤ 1000000) := r5.le
  have HPl := Lib.hid r4
  have HLn : Hid (l.length + 8 ≤ 12000000 ∧ l.length + 8 + (strB r.name).length ≤ 12000000 ∧ l.length + 16 + (strB r.name).length ≤ 12000000 ∧ l.length + 48 + (strB r.name).length ≤ 12000000) := by
    unfold Hid; simp [repB, ints_length, placeB] at hl; omega
  have H0 := Lib.hid (PutS.start (cs := repCells r rv) h hb (by simp [repCells]) 32 (by decide))
  clear h hl r1 r2 r3 r4 r5
  go_enter Tryz.func39, Tryz.ntmps39
  go_wp2_with fail
  obtain ⟨X, hX⟩ : ∃ X, X = w.heap.size := ⟨_, rfl⟩
  rw [← hX] at H0 ⊢
  generalize w.alloc (.cells (repCells r rv).toArray 32) = w0 at H0 ⊢
  refine wp_region_seqL (by kernel_rfl) (fun w' => PAt w' X (repCells r rv)) 7 [(0, 0), (1, 0), (2, 1), (5, 0), (6, 1), (3, 2), (4, 2), (7, 2), (8, 0)] (by kernel_rfl) (H0.out.drew.pa) ?_
  refine sl_q (d := some 5) rfl rfl rfl (v) (fun w => rfl) ?_
  simp only [Act.put, List.setIfInBounds_toArray, List.set_cons_zero, List.set_cons_succ]
  refine sl_q (d := some 6) rfl rfl rfl (.pointer (some ⟨X, 0, none⟩)) (fun w => by go_simp) ?_
  simp only [Act.put, List.setIfInBounds_toArray, List.set_cons_zero, List.set_cons_succ]
  refine sl_s (d := some 7) rfl rfl rfl (.int .i64 r.kind) (fun w hw => by have hw0 := hw.1.at 0 rfl; simp [execOp, Act.eval, hw0, go_sem]) ?_
  simp only [Act.put, List.setIfInBounds_toArray, List.set_cons_zero, List.set_cons_succ]
  refine sl_q (d := some 10) rfl rfl rfl (.pointer (some ⟨X, 1, none⟩)) (fun w => by go_simp) ?_
  simp only [Act.put, List.setIfInBounds_toArray, List.set_cons_zero, List.set_cons_succ]
  refine sl_s (d := some 11) rfl rfl rfl (.string r.name) (fun w hw => by have hw0 := hw.1.at 1 rfl; simp [execOp, Act.eval, hw0, go_sem]) ?_
  simp only [Act.put, List.setIfInBounds_toArray, List.set_cons_zero, List.set_cons_succ]
  refine sl_run (d := some 8) rfl rfl rfl (.slice (some ⟨(w0.drew).heap.size, 0, none⟩) 1 1) ((w0.drew).alloc (.cells #[.int .i64 r.kind] 3)) (by simp [execOp, Act.eval, Instr.buildSlice, go_sem]) (fun _ => (H0.out.drew.alloc _).pa) ?_
  simp only [Act.put, List.setIfInBounds_toArray, List.set_cons_zero, List.set_cons_succ]
  refine sl_call (d := some 9) rfl rfl rfl ⟨_, Tryz.func38, by kernel_rfl, by kernel_rfl⟩ _ _ _ rfl rfl [v, .slice (some ⟨(w0.drew).heap.size, 0, none⟩) 1 1] rfl (rputInts_any base (v) (l) (.slice (some ⟨(w0.drew).heap.size, 0, none⟩) 1 1) _ ((w0.drew).alloc (.cells #[.int .i64 r.kind] 3)) ((H0.out.drew.alloc _).own) (readsI_lit (w0.drew) [r.kind] (by simp [HI_r_kind.out]) (by simp) rfl rfl rfl) (by have := HLn.out; omega) (by simp) ((H0.out.drew.alloc _).sz)) ?_
  rintro e w1 ⟨v1, rfl, hO, hB, hN⟩
  have H1 := Lib.hid ((H0.out.drew.alloc _).call hO hB hN)
  clear hO hB hN
  refine ⟨_, rfl, fun _ => H1.out.pa, ?_⟩
  simp only [Act.put, List.setIfInBounds_toArray, List.set_cons_zero, List.set_cons_succ]
  refine sl_call (d := some 12) rfl rfl rfl ⟨_, Tryz.func40, by kernel_rfl, by kernel_rfl⟩ _ _ _ rfl rfl [v1, .string r.name] rfl (rputString_any base (v1) ((l ++ ints [r.kind])) r.name (w1) (H1.out.own) (by have := HLn.out; simp [ints_length]; omega) HSz.out (H1.out.sz)) ?_
  rintro e w2 ⟨v2, rfl, hO, hB, hN⟩
  have H2 := Lib.hid (H1.out.call hO hB hN)
  clear hO hB hN
  refine ⟨_, rfl, fun _ => H2.out.pa, ?_⟩
  simp only [Act.put, List.setIfInBounds_toArray, List.set_cons_zero, List.set_cons_succ]
  refine sl_q (d := some 0) rfl rfl rfl (v2) (fun w => rfl) ?_
  simp only [Act.put, List.setIfInBounds_toArray, List.set_cons_zero, List.set_cons_succ]
  refine sl_end ?_
  try go_wp2_with fail
  refine wp_region_seqL (by kernel_rfl) (fun w' => PAt w' X (repCells r rv)) 10 [(0, 0), (1, 0), (2, 1), (5, 0), (6, 1), (8, 0), (9, 1), (3, 2), (4, 2), (7, 2), (10, 2), (11, 0)] (by kernel_rfl) (H2.out.drew.pa) ?_
  refine sl_q (d := some 13) rfl rfl rfl (v2) (fun w => rfl) ?_
  simp only [Act.put, List.setIfInBounds_toArray, List.set_cons_zero, List.set_cons_succ]
  refine sl_q (d := some 14) rfl rfl rfl (.pointer (some ⟨X, 2, none⟩)) (fun w => by go_simp) ?_
  simp only [Act.put, List.setIfInBounds_toArray, List.set_cons_zero, List.set_cons_succ]
  refine sl_s (d := some 15) rfl rfl rfl (.int .i64 r.time) (fun w hw => by have hw0 := hw.1.at 2 rfl; simp [execOp, Act.eval, hw0, go_sem]) ?_
  simp only [Act.put, List.setIfInBounds_toArray, List.set_cons_zero, List.set_cons_succ]
  refine sl_q (d := some 18) rfl rfl rfl (.pointer (some ⟨X, 3, none⟩)) (fun w => by go_simp) ?_
  simp only [Act.put, List.setIfInBounds_toArray, List.set_cons_zero, List.set_cons_succ]
  refine sl_load (d := some 19) rfl rfl rfl _ _ rfl ⟨X, 3, none⟩ rfl (.agg #[.int .i64 r.pl.f, .int .i64 r.pl.a, .int .i64 r.pl.b, .int .i64 r.pl.c]) (fun w hw => load_place (fun j u hj => by have := hw.1.range (3 + j) u (by match j, hj with | 0, h => exact h | 1, h => exact h | 2, h => exact h | 3, h => exact h); simpa [Addr.add, Nat.add_assoc, Nat.add_comm] using this)) ?_
  simp only [Act.put, List.setIfInBounds_toArray, List.set_cons_zero, List.set_cons_succ]
  refine sl_q (d := some 21) rfl rfl rfl (.pointer (some ⟨X, 7, none⟩)) (fun w => by go_simp) ?_
  simp only [Act.put, List.setIfInBounds_toArray, List.set_cons_zero, List.set_cons_succ]
  refine sl_s (d := some 22) rfl rfl rfl (rv) (fun w hw => by have hw0 := hw.1.at 7 rfl; simp [execOp, Act.eval, hw0, go_sem]) ?_
  simp only [Act.put, List.setIfInBounds_toArray, List.set_cons_zero, List.set_cons_succ]
  refine sl_run (d := some 16) rfl rfl rfl (.slice (some ⟨(w2.drew).heap.size, 0, none⟩) 1 1) ((w2.drew).alloc (.cells #[.int .i64 r.time] 3)) (by simp [execOp, Act.eval, Instr.buildSlice, go_sem]) (fun _ => (H2.out.drew.alloc _).pa) ?_
  simp only [Act.put, List.setIfInBounds_toArray, List.set_cons_zero, List.set_cons_succ]
  refine sl_call (d := some 17) rfl rfl rfl ⟨_, Tryz.func38, by kernel_rfl, by kernel_rfl⟩ _ _ _ rfl rfl [v2, .slice (some ⟨(w2.drew).heap.size, 0, none⟩) 1 1] rfl (rputInts_any base (v2) ((((l ++ ints [r.kind])) ++ strB r.name)) (.slice (some ⟨(w2.drew).heap.size, 0, none⟩) 1 1) _ ((w2.drew).alloc (.cells #[.int .i64 r.time] 3)) ((H2.out.drew.alloc _).own) (readsI_lit (w2.drew) [r.time] (by simp [HI_r_time.out]) (by simp) rfl rfl rfl) (by have := HLn.out; simp [ints_length]; omega) (by simp) ((H2.out.drew.alloc _).sz)) ?_
  rintro e w3 ⟨v3, rfl, hO, hB, hN⟩
  have H3 := Lib.hid ((H2.out.drew.alloc _).call hO hB hN)
  clear hO hB hN
  refine ⟨_, rfl, fun _ => H3.out.pa, ?_⟩
  simp only [Act.put, List.setIfInBounds_toArray, List.set_cons_zero, List.set_cons_succ]
  refine sl_call (d := some 20) rfl rfl rfl ⟨_, Tryz.func43, by kernel_rfl, by kernel_rfl⟩ _ _ _ rfl rfl [v3, .agg #[.int .i64 r.pl.f, .int .i64 r.pl.a, .int .i64 r.pl.b, .int .i64 r.pl.c]] rfl (rputPlace_any base (v3) ((((((l ++ ints [r.kind])) ++ strB r.name)) ++ ints [r.time])) r.pl (w3) (H3.out.own) HPl.out (by have := HLn.out; simp [ints_length]; omega) (H3.out.sz)) ?_
  rintro e w4 ⟨v4, rfl, hO, hB, hN⟩
  have H4 := Lib.hid (H3.out.call hO hB hN)
  clear hO hB hN
  refine ⟨_, rfl, fun _ => H4.out.pa, ?_⟩
  simp only [Act.put, List.setIfInBounds_toArray, List.set_cons_zero, List.set_cons_succ]
  refine sl_call (d := some 23) rfl rfl rfl ⟨_, Tryz.func42, by kernel_rfl, by kernel_rfl⟩ _ _ _ rfl rfl [v4, rv] rfl (rputReadings_any base (v4) ((((((((l ++ ints [r.kind])) ++ strB r.name)) ++ ints [r.time])) ++ placeB r.pl)) rv r.rds (w4) (H4.out.own) (HRd.out.nb H4.out.nb) (by have := HLn.out; simp [ints_length, placeB]; omega) HN.out (H4.out.sz)) ?_
  rintro e w5 ⟨v5, rfl, hO, hB, hN⟩
  have H5 := Lib.hid (H4.out.call hO hB hN)
  clear hO hB hN
  refine ⟨_, rfl, fun _ => H5.out.pa, ?_⟩
  simp only [Act.put, List.setIfInBounds_toArray, List.set_cons_zero, List.set_cons_succ]
  refine sl_q (d := some 4) rfl rfl rfl (v5) (fun w => rfl) ?_
  simp only [Act.put, List.setIfInBounds_toArray, List.set_cons_zero, List.set_cons_succ]
  refine sl_end ?_
  have HF := Lib.hid H5.out.done
  clear H0 H1 H2 H3 H4 H5
  go_wp2_with fail
  go_ret
  have := HF.out
  simpa [repB, List.append_assoc] using this
end Go.Proofs.YtpknalpdcfjffaaGreat
/- The reference's putCycle. Printed by gen_ref.py. -/
namespace Go.Proofs.YtpknalpdcfjffaaGreat
open Go Go.RowKit

theorem PAt.sub {w : World} {p : Nat} {cs : List Value} (h : PAt w p cs) (o n : Nat) : w.rangeAt p o ((cs.drop o).take n) := fun j u hj => by
  have h1 : cs[o + j]? = some u := by
    rw [List.getElem?_take] at hj
    split at hj
    · rw [List.getElem?_drop] at hj; exact hj
    · cases hj
  have := h.1.range (o + j) u h1
  simpa [Addr.add] using this
theorem load_ana {w : World} {b : Nat} {es : List Value} (h : w.rangeAt b 4 es) (hl : es.length = 8) : (loadVar 45 ⟨b, 4, none⟩).run Tryz.prog w = .ok (.agg es.toArray) w :=
  run_loadVar_mid w b 4 _ es _ h Tryz.underlying45 rfl (by rw [hl]; kernel_rfl)
theorem load_hist {w : World} {b : Nat} {es : List Value} (h : w.rangeAt b 15 es) (hl : es.length = 2) : (loadVar 51 ⟨b, 15, none⟩).run Tryz.prog w = .ok (.agg es.toArray) w :=
  run_loadVar_mid w b 15 _ es _ h Tryz.underlying51 rfl (by rw [hl]; kernel_rfl)
set_option maxHeartbeats 16000000 in
set_option maxRecDepth 100000 in
theorem rputCycle_any (base : Nat) (v : Value) (l : List UInt8) (x : Cyc) (u0 u1 u2 u3 u4 u5 u6 u7 : Value) (av : Nat → Prop) (w : World) (h : OwnB w base v l) (hr : cycR av w x u0 u1 u2 u3 u4 u5 u6 u7) (hl : l.length + (cycB x).length ≤ 12000000) (hb : base ≤ w.heap.size) :
    Calls Tryz.prog 44 #[v, .agg (cycCells x u0 u1 u2 u3 u4 u5 u6 u7).toArray] w fun e w' => ∃ v', e = .returned v' ∧ OwnB w' base v' (l ++ cycB x) ∧ Below base w w' ∧ NB w w' := by
  obtain ⟨i1, i2, i3, d0, ⟨d1, d2, d3, i4, i5, i6, i7, i8⟩, i9, d4, d5, d6, d7⟩ := hr
  have nl := d0.le
  have HLn : Hid (l.length + 28 + (x.reps.flatMap repB).length + (anaB x.ana).length + 16 + 8 * x.depth.length + 8 * x.flow.length + (histB x.cycles x.listed).length ≤ 12000000) := by
    unfold Hid; simp only [cycB, listB, sliceB, List.length_append, be_length, ints_length, List.length_cons, List.length_nil] at hl; omega
  have HI1 := Lib.hid i1
  have HI2 := Lib.hid i2
  have HI3 := Lib.hid i3
  have HI_x_freq := Lib.hid i9
  have HD0 := Lib.hid d0
  have HAna : Hid (anaE.rep av w (anaCells x.ana u1 u2 u3) x.ana) := ⟨u1, u2, u3, rfl, d1, d2, d3, i4, i5, i6, i7, i8⟩
  have HDe := Lib.hid d4.readsI
  have HFl := Lib.hid d5.readsI
  have HD6 := Lib.hid d6
  have HD7 := Lib.hid d7
  obtain ⟨a0, c0, rfl⟩ := d0.slice
  obtain ⟨a1, c1, rfl⟩ := d1.slice
  obtain ⟨a2, c2, rfl⟩ := d2.slice
  obtain ⟨a3, c3, rfl⟩ := d3.slice
  obtain ⟨a4, c4, rfl⟩ := d4.slice
  obtain ⟨a5, c5, rfl⟩ := d5.slice
  obtain ⟨a6, c6, rfl⟩ := d6.slice
  obtain ⟨a7, c7, rfl⟩ := d7.slice
  have H0 := Lib.hid (PutS.start (cs := cycCells x (.slice a0 x.reps.length c0) (.slice a1 x.ana.bg.length c1) (.slice a2 x.ana.inc.length c2) (.slice a3 x.ana.field.length c3) (.slice a4 x.depth.length c4) (.slice a5 x.flow.length c5) (.slice a6 x.cycles.length c6) (.slice a7 x.listed.length c7)) h hb (by simp [cycCells]) 53 (by decide))
  clear h hl i1 i2 i3 i4 i5 i6 i7 i8 i9 d0 d1 d2 d3 d4 d5 d6 d7
  obtain ⟨N, hN⟩ : ∃ N, N = x.reps.length := ⟨_, rfl⟩
  obtain ⟨n1, hn1⟩ : ∃ N, N = x.ana.bg.length := ⟨_, rfl⟩
  obtain ⟨n2, hn2⟩ : ∃ N, N = x.ana.inc.length := ⟨_, rfl⟩
  obtain ⟨n3, hn3⟩ : ∃ N, N = x.ana.field.length := ⟨_, rfl⟩
  obtain ⟨n4, hn4⟩ : ∃ N, N = x.depth.length := ⟨_, rfl⟩
  obtain ⟨n5, hn5⟩ : ∃ N, N = x.flow.length := ⟨_, rfl⟩
  obtain ⟨n6, hn6⟩ : ∃ N, N = x.cycles.length := ⟨_, rfl⟩
  obtain ⟨n7, hn7⟩ : ∃ N, N = x.listed.length := ⟨_, rfl⟩
  rw [← hN] at HD0 nl
  rw [← hn1, ← hn2, ← hn3] at HAna
  rw [← hn4] at HDe
  rw [← hn5] at HFl
  rw [← hn6] at HD6
  rw [← hn7] at HD7
  rw [← hN, ← hn1, ← hn2, ← hn3, ← hn4, ← hn5, ← hn6, ← hn7] at H0 ⊢
  have HN := Lib.hid hN
  have HE : Hid (n4 = x.depth.length ∧ n5 = x.flow.length) := ⟨hn4, hn5⟩
  clear hN hn1 hn2 hn3 hn4 hn5 hn6 hn7
  have m1 : (N : Int) ≤ 1000000 := by omega
  go_enter Tryz.func44, Tryz.ntmps44
  go_upto_region 1 with fail
  generalize hw0 : w.alloc (.cells ((cycCells x (.slice a0 N c0) (.slice a1 n1 c1) (.slice a2 n2 c2) (.slice a3 n3 c3) (.slice a4 n4 c4) (.slice a5 n5 c5) (.slice a6 n6 c6) (.slice a7 n7 c7))).toArray 53) = w0 at H0 ⊢
  clear hw0
  have k0 : w0.cell? ⟨w.heap.size, 0, none⟩ = some (.int .i64 x.number) := H0.out.pa.1.at 0 rfl
  have k1 : w0.cell? ⟨w.heap.size, 1, none⟩ = some (.int .i64 x.time) := H0.out.pa.1.at 1 rfl
  have k2 : w0.cell? ⟨w.heap.size, 2, none⟩ = some (.int .i64 x.cutoff) := H0.out.pa.1.at 2 rfl
  go_wp2_with fail
  clear k0 k1 k2
  have HR1 : Hid (ReadsI (w0.alloc (.cells #[.int .i64 x.number, .int .i64 x.time, .int .i64 x.cutoff] 3)) (.slice (some ⟨w0.heap.size, 0, none⟩) 3 3) [x.number, x.time, x.cutoff]) :=
    readsI_lit w0 [x.number, x.time, x.cutoff] (by simp [HI1.out, HI2.out, HI3.out]) (by simp) rfl rfl (cs := [.int .i64 x.number, .int .i64 x.time, .int .i64 x.cutoff]) rfl
  refine (rputInts_any base _ _ _ [x.number, x.time, x.cutoff] _ (H0.out.alloc _).own HR1.out (by have := HLn.out; (try simp only [listB, sliceB, List.length_append, be_length, ints_length, List.length_cons, List.length_nil]); omega) (by simp) (H0.out.alloc _).sz).mono ?_
  rintro e w1 ⟨v1, rfl, hO, hB, hN⟩
  have H1 := Lib.hid ((H0.out.alloc _).call hO hB hN)
  clear hO hB hN H0 HR1
  have k3 : w1.cell? ⟨w.heap.size, 3, none⟩ = some (.slice a0 N c0) := H1.out.pa.1.at 3 rfl
  go_wp2_with fail
  refine (rput_any 4 N base (by omega) (by omega) _ _ w1 H1.out.own (by have := HLn.out; (try simp only [listB, sliceB, List.length_append, be_length, ints_length, List.length_cons, List.length_nil]); omega) H1.out.sz).mono ?_
  rintro e w2 ⟨v2, rfl, hO, hB, hN⟩
  have H2 := Lib.hid (H1.out.call hO hB hN)
  clear hO hB hN H1 k3
  go_wp2_with fail
  go_loopw [0, 5] (fun bv kv wr => ∃ (i : Nat), kv = .int .i64 i ∧ i ≤ N ∧ Hid (PutS base w.heap.size (cycCells x (.slice a0 N c0) (.slice a1 n1 c1) (.slice a2 n2 c2) (.slice a3 n3 c3) (.slice a4 n4 c4) (.slice a5 n5 c5) (.slice a6 n6 c6) (.slice a7 n7 c7)) w bv (l ++ ints [x.number, x.time, x.cutoff] ++ be 4 N ++ (x.reps.take i).flatMap repB) wr)) (fun _ kv _ => (2000000 - intOf kv).toNat)
  case atStart => exact ⟨0, rfl, by omega, by simpa using H2⟩
  case round =>
    clear H2
    obtain ⟨i, rfl, hi, hs1⟩ := hrel
    have k3 : wr.cell? ⟨w.heap.size, 3, none⟩ = some (.slice a0 N c0) := hs1.out.pa.1.at 3 rfl
    by_cases hin : i < N
    · have i0 : (i : Int) < (N : Int) := by omega
      have hil : i < x.reps.length := by have := HN.out; omega
      obtain ⟨ab, ao, es, rfl, hal⟩ := HD0.out.atAll repE_ok i hil
      have hCl := hal wr hs1.out.nb
      clear hal
      have hTk := flat_take repB x.reps i hil
      have hLe := flat_le repB x.reps (i + 1)
      generalize x.reps[i] = r at hCl hTk
      have HTk := Lib.hid hTk
      have HL1 : Hid ((l ++ ints [x.number, x.time, x.cutoff] ++ be 4 N ++ (x.reps.take i).flatMap repB).length + (repB r).length ≤ 12000000) := by
        have h1 := HLn.out
        rw [hTk] at hLe
        unfold Hid
        simp only [List.length_append, be_length, ints_length, List.length_cons, List.length_nil] at hLe ⊢
        omega
      have HRe := Lib.hid hCl.1
      have HEl := repE_ok.len hCl.1
      have HRg : Hid (wr.rangeAt ab (ao + i * 8) es) := hCl.2
      clear hCl hTk hLe hil
      go_wp2_with (first
        | (refine list_load repT rfl _ rfl ab (ao + i * 8) rfl es HEl HRg.out ?_)
        | fail)
      refine (rputReport_any base _ _ r es av wr hs1.out.own HRe.out HL1.out hs1.out.sz).mono ?_
      rintro e w3 ⟨v3, rfl, hO, hB, hN⟩
      have H3 := Lib.hid (hs1.out.call hO hB hN)
      clear hO hB hN k3 hs1 HRg HRe HEl
      go_wp2_with fail
      go_roundw
      case rel =>
        refine ⟨i + 1, by go_num, by omega, ?_⟩
        have := H3.out
        refine Lib.hid ?_
        rw [HTk.out]
        simpa only [List.append_assoc] using this
      case measure => simp [intOf]; omega
    · obtain rfl : N = i := by omega
      have H4 : Hid (PutS base w.heap.size (cycCells x (.slice a0 N c0) (.slice a1 n1 c1) (.slice a2 n2 c2) (.slice a3 n3 c3) (.slice a4 n4 c4) (.slice a5 n5 c5) (.slice a6 n6 c6) (.slice a7 n7 c7)) w u0 (l ++ ints [x.number, x.time, x.cutoff] ++ listB repB x.reps) wr) := by
        have := hs1.out
        rw [HN.out, List.take_length, ← HN.out] at this
        refine Lib.hid ?_
        rw [listB, ← HN.out, ← List.append_assoc]
        exact this
      clear hs1 hi hin
      go_wp2_with (first
        | (refine list_loadAgg (load_ana (es := anaCells x.ana (.slice a1 n1 c1) (.slice a2 n2 c2) (.slice a3 n3 c3)) (H4.out.pa.sub 4 8) rfl) rfl _ rfl rfl ?_)
        | fail)
      refine (rputAnalysis_any base _ _ x.ana _ av wr H4.out.own (anaE_ok.keep HAna.out (Keeps.of_nb H4.out.nb)) (by have := HLn.out; (try simp only [listB, sliceB, List.length_append, be_length, ints_length, List.length_cons, List.length_nil]); omega) H4.out.sz).mono ?_
      rintro e w5 ⟨v5, rfl, hO, hB, hN⟩
      have H5 := Lib.hid (H4.out.call hO hB hN)
      clear hO hB hN k3 H4
      go_upto_region 8 with fail
      refine wp_region_seqL (by kernel_rfl) (fun w' => PAt w' w.heap.size (cycCells x (.slice a0 N c0) (.slice a1 n1 c1) (.slice a2 n2 c2) (.slice a3 n3 c3) (.slice a4 n4 c4) (.slice a5 n5 c5) (.slice a6 n6 c6) (.slice a7 n7 c7))) 13 [(0, 0), (1, 0), (2, 0), (3, 1), (6, 0), (7, 0), (8, 1), (10, 0), (11, 0), (12, 1), (4, 2), (5, 2), (9, 2), (13, 2), (14, 0)] (by kernel_rfl) (H5.out.drew.pa) ?_
      refine sl_q (d := some 39) rfl rfl rfl (v5) (fun w => rfl) ?_
      simp only [Act.put, List.setIfInBounds_toArray, List.set_cons_zero, List.set_cons_succ]
      refine sl_q (d := some 40) rfl rfl rfl (.pointer (some ⟨w.heap.size, 12, none⟩)) (fun w => by go_simp) ?_
      simp only [Act.put, List.setIfInBounds_toArray, List.set_cons_zero, List.set_cons_succ]
      refine sl_q (d := some 41) rfl rfl rfl (.pointer (some ⟨w.heap.size, 12, none⟩)) (fun w => by go_simp) ?_
      simp only [Act.put, List.setIfInBounds_toArray, List.set_cons_zero, List.set_cons_succ]
      refine sl_s (d := some 42) rfl rfl rfl (.int .i64 x.freq) (fun w hw => by have hw0 := hw.1.at 12 rfl; simp [execOp, Act.eval, hw0, go_sem]) ?_
      simp only [Act.put, List.setIfInBounds_toArray, List.set_cons_zero, List.set_cons_succ]
      refine sl_q (d := some 45) rfl rfl rfl (.pointer (some ⟨w.heap.size, 12, none⟩)) (fun w => by go_simp) ?_
      simp only [Act.put, List.setIfInBounds_toArray, List.set_cons_zero, List.set_cons_succ]
      refine sl_q (d := some 46) rfl rfl rfl (.pointer (some ⟨w.heap.size, 13, none⟩)) (fun w => by go_simp) ?_
      simp only [Act.put, List.setIfInBounds_toArray, List.set_cons_zero, List.set_cons_succ]
      refine sl_s (d := some 47) rfl rfl rfl (.slice a4 n4 c4) (fun w hw => by have hw0 := hw.1.at 13 rfl; simp [execOp, Act.eval, hw0, go_sem]) ?_
      simp only [Act.put, List.setIfInBounds_toArray, List.set_cons_zero, List.set_cons_succ]
      refine sl_q (d := some 49) rfl rfl rfl (.pointer (some ⟨w.heap.size, 12, none⟩)) (fun w => by go_simp) ?_
      simp only [Act.put, List.setIfInBounds_toArray, List.set_cons_zero, List.set_cons_succ]
      refine sl_q (d := some 50) rfl rfl rfl (.pointer (some ⟨w.heap.size, 14, none⟩)) (fun w => by go_simp) ?_
      simp only [Act.put, List.setIfInBounds_toArray, List.set_cons_zero, List.set_cons_succ]
      refine sl_s (d := some 51) rfl rfl rfl (.slice a5 n5 c5) (fun w hw => by have hw0 := hw.1.at 14 rfl; simp [execOp, Act.eval, hw0, go_sem]) ?_
      simp only [Act.put, List.setIfInBounds_toArray, List.set_cons_zero, List.set_cons_succ]
      refine sl_run (d := some 43) rfl rfl rfl (.slice (some ⟨(w5.drew).heap.size, 0, none⟩) 1 1) ((w5.drew).alloc (.cells #[.int .i64 x.freq] 3)) (by simp [execOp, Act.eval, Instr.buildSlice, go_sem]) (fun _ => (H5.out.drew.alloc _).pa) ?_
      simp only [Act.put, List.setIfInBounds_toArray, List.set_cons_zero, List.set_cons_succ]
      refine sl_call (d := some 44) rfl rfl rfl ⟨_, Tryz.func38, by kernel_rfl, by kernel_rfl⟩ _ _ _ rfl rfl [v5, .slice (some ⟨(w5.drew).heap.size, 0, none⟩) 1 1] rfl (rputInts_any base (v5) ((l ++ ints [x.number, x.time, x.cutoff] ++ listB repB x.reps ++ anaB x.ana)) (.slice (some ⟨(w5.drew).heap.size, 0, none⟩) 1 1) _ ((w5.drew).alloc (.cells #[.int .i64 x.freq] 3)) ((H5.out.drew.alloc _).own) (readsI_lit (w5.drew) [x.freq] (by simp [HI_x_freq.out]) (by simp) rfl rfl rfl) (by have := HLn.out; (try simp only [listB, sliceB, List.length_append, be_length, ints_length, List.length_cons, List.length_nil]); omega) (by simp) ((H5.out.drew.alloc _).sz)) ?_
      rintro e w6 ⟨v6, rfl, hO, hB, hN⟩
      have H6 := Lib.hid ((H5.out.drew.alloc _).call hO hB hN)
      clear hO hB hN
      refine ⟨_, rfl, fun _ => H6.out.pa, ?_⟩
      simp only [Act.put, List.setIfInBounds_toArray, List.set_cons_zero, List.set_cons_succ]
      refine sl_call (d := some 48) rfl rfl rfl ⟨_, Tryz.func58, by kernel_rfl, by kernel_rfl⟩ _ _ _ rfl rfl [v6, .slice a4 n4 c4] rfl (rputSlice_any base (v6) ((((l ++ ints [x.number, x.time, x.cutoff] ++ listB repB x.reps ++ anaB x.ana)) ++ ints [x.freq])) (.slice a4 n4 c4) x.depth (w6) (H6.out.own) (HDe.out.nb H6.out.nb) (by have := HLn.out; (try simp only [listB, sliceB, List.length_append, be_length, ints_length, List.length_cons, List.length_nil]); omega) (by have := HLn.out; omega) (H6.out.sz)) ?_
      rintro e w7 ⟨v7, rfl, hO, hB, hN⟩
      have H7 := Lib.hid (H6.out.call hO hB hN)
      clear hO hB hN
      refine ⟨_, rfl, fun _ => H7.out.pa, ?_⟩
      simp only [Act.put, List.setIfInBounds_toArray, List.set_cons_zero, List.set_cons_succ]
      refine sl_call (d := some 52) rfl rfl rfl ⟨_, Tryz.func58, by kernel_rfl, by kernel_rfl⟩ _ _ _ rfl rfl [v7, .slice a5 n5 c5] rfl (rputSlice_any base (v7) ((((((l ++ ints [x.number, x.time, x.cutoff] ++ listB repB x.reps ++ anaB x.ana)) ++ ints [x.freq])) ++ sliceB x.depth)) (.slice a5 n5 c5) x.flow (w7) (H7.out.own) (HFl.out.nb H7.out.nb) (by have := HLn.out; (try simp only [listB, sliceB, List.length_append, be_length, ints_length, List.length_cons, List.length_nil]); omega) (by have := HLn.out; omega) (H7.out.sz)) ?_
      rintro e w8 ⟨v8, rfl, hO, hB, hN⟩
      have H8 := Lib.hid (H7.out.call hO hB hN)
      clear hO hB hN
      refine ⟨_, rfl, fun _ => H8.out.pa, ?_⟩
      simp only [Act.put, List.setIfInBounds_toArray, List.set_cons_zero, List.set_cons_succ]
      refine sl_q (d := some 0) rfl rfl rfl (v8) (fun w => rfl) ?_
      simp only [Act.put, List.setIfInBounds_toArray, List.set_cons_zero, List.set_cons_succ]
      refine sl_end ?_
      clear H5 H6 H7
      go_wp2_with (first
        | (refine list_loadAgg (load_hist (es := [.slice a6 n6 c6, .slice a7 n7 c7]) (H8.out.pa.sub 15 2) rfl) rfl _ rfl rfl ?_)
        | fail)
      refine (rputHistory_any base _ _ x.cycles x.listed _ _ av w8 H8.out.own (HD6.out.keep (sliE_ok cntE_ok) (Keeps.of_nb H8.out.nb)) (HD7.out.keep strE_ok (Keeps.of_nb H8.out.nb)) (by have := HLn.out; (try simp only [listB, sliceB, List.length_append, be_length, ints_length, List.length_cons, List.length_nil]); omega) H8.out.sz).mono ?_
      rintro e w9 ⟨v9, rfl, hO, hB, hN⟩
      have HF := Lib.hid (H8.out.call hO hB hN).done
      clear hO hB hN H8
      go_wp2_with fail
      go_ret
      have hf := HF.out
      simp only [List.append_assoc] at hf
      simp only [cycB, List.append_assoc]
      exact hf
end Go.Proofs.YtpknalpdcfjffaaGreat
/- The reference's body. Printed by gen_ref.py. -/
namespace Go.Proofs.YtpknalpdcfjffaaGreat
open Go Go.RowKit

def bodyB (x : Ent) : List UInt8 := match entB x with
  | some b => k8 x.kind :: b
  | none => []
def BodyIs (x : Ent) (w : World) (e : Ending) (w' : World) : Prop := ∃ v', e = .returned (.tuple #[v', .bool (entB x).isSome]) ∧ OwnB w' w.heap.size v' (bodyB x) ∧ Below w.heap.size w w' ∧ NB w w'
theorem BodyIs.yes {x : Ent} {b : List UInt8} {w w' : World} {v : Value} {X : Nat} {cs : List Value} (hb : entB x = some b) (h : PutS w.heap.size X cs w v (k8 x.kind :: b) w') : BodyIs x w (.returned (.tuple #[v, .bool true])) w' := ⟨v, by rw [hb]; rfl, by unfold bodyB; rw [hb]; exact h.own, h.below, h.nb⟩
theorem BodyIs.no {x : Ent} {w w' : World} {v : Value} {l : List UInt8} {X : Nat} {cs : List Value} (hb : entB x = none) (h : PutS w.heap.size X cs w v l w') : BodyIs x w (.returned (.tuple #[.slice none 0 0, .bool false])) w' := ⟨.slice none 0 0, by rw [hb]; rfl, by unfold bodyB; rw [hb]; exact World.ownsRow_nil _ _ _ _, h.below, h.nb⟩
theorem load_rep8 {w : World} {b : Nat} {es : List Value} (h : w.rangeAt b 2 es) (hl : es.length = 8) : (loadVar 32 ⟨b, 2, none⟩).run Tryz.prog w = .ok (.agg es.toArray) w :=
  run_loadVar_mid w b 2 _ es _ h Tryz.underlying32 rfl (by rw [hl]; kernel_rfl)
theorem load_cyc17 {w : World} {b : Nat} {es : List Value} (h : w.rangeAt b 21 es) (hl : es.length = 17) : (loadVar 53 ⟨b, 21, none⟩).run Tryz.prog w = .ok (.agg es.toArray) w :=
  run_loadVar_mid w b 21 _ es _ h Tryz.underlying53 rfl (by rw [hl]; kernel_rfl)
theorem entCells_len (x : Ent) (vR vB v0 v1 v2 v3 v4 v5 v6 v7 : Value) : (entCells x vR vB v0 v1 v2 v3 v4 v5 v6 v7).length = 38 := rfl
theorem ownB_one {w : World} {base : Nat} (hb : base ≤ w.heap.size) (k : Int) : OwnB (w.alloc (.cells #[.int .u8 (k % 256)] 5)) base (.slice (some ⟨w.heap.size, 0, none⟩) 1 1) [k8 k] := by
  have e : k % 256 = ((k8 k).toNat : Int) := wrap_k8 k
  rw [e]
  exact ⟨rfl, Or.inr ⟨w.heap.size, 1, _, rfl, hb, heap_alloc_new w _, Nat.le_refl 1, by decide, rfl, rfl⟩⟩
set_option maxHeartbeats 16000000 in
set_option maxRecDepth 100000 in
theorem rbody_any (x : Ent) (cs : List Value) (av : Nat → Prop) (w : World) (hr : entE.rep av w cs x) (hl : ∀ b, entB x = some b → b.length ≤ 11000000) : Calls Tryz.prog 27 #[.agg cs.toArray] w (BodyIs x w) := by
  obtain ⟨uR, uB, u0, u1, u2, u3, u4, u5, u6, u7, rfl, hp⟩ := hr
  have HP := Lib.hid hp
  have HLe := Lib.hid hl
  have H00 := Lib.hid (PutS.start (cs := (entCells x uR uB u0 u1 u2 u3 u4 u5 u6 u7)) (base := w.heap.size) (bv := .slice none 0 0) (l := []) (World.ownsRow_nil _ _ _ _) (Nat.le_refl _) (by rw [entCells_len]; decide) 55 (by decide))
  clear hp hl
  go_enter Tryz.func27, Tryz.ntmps27
  go_upto_region 1 with fail
  generalize hw0 : w.alloc (.cells ((entCells x uR uB u0 u1 u2 u3 u4 u5 u6 u7)).toArray 55) = w0 at H00 ⊢
  clear hw0
  have k0 : w0.cell? ⟨w.heap.size, 0, none⟩ = some (.int .i64 x.kind) := H00.out.pa.1.at 0 rfl
  go_upto_region 2 with fail
  have H0 : Hid (PutS w.heap.size w.heap.size (entCells x uR uB u0 u1 u2 u3 u4 u5 u6 u7) w (.slice (some ⟨w0.heap.size, 0, none⟩) 1 1) [k8 x.kind] (w0.alloc (.cells #[.int .u8 (x.kind % 256)] 5))) := ⟨ownB_one H00.out.sz x.kind, (H00.out.alloc _).pa, (H00.out.alloc _).below, (H00.out.alloc _).nb, (H00.out.alloc _).sz⟩
  generalize w0.heap.size = Y at H0 ⊢
  generalize w0.alloc (.cells #[.int .u8 (x.kind % 256)] 5) = wA at H0 ⊢
  have c0 : wA.cell? ⟨w.heap.size, 0, none⟩ = some (.int .i64 x.kind) := H0.out.pa.1.at 0 rfl
  clear H00 k0
  by_cases h1 : x.kind = 1
  · have HE : Hid (entB x = some (ints [x.now])) := by unfold Hid entB; rw [if_pos h1]
    have hz : entB x = some (ints [x.now]) := HE.out
    have HLn : Hid (1 + 8 ≤ 12000000) := by unfold Hid; omega
    have c1 : wA.cell? ⟨w.heap.size, 1, none⟩ = some (.int .i64 x.now) := H0.out.pa.1.at 1 rfl
    rw [h1] at c0
    clear h1 hz
    go_wp2_with fail
    have HR1 : Hid (ReadsI (wA.alloc (.cells #[.int .i64 x.now] 3)) (.slice (some ⟨wA.heap.size, 0, none⟩) 1 1) [x.now]) :=
      readsI_lit wA [x.now] (by simp [HP.out.now]) (by simp) rfl rfl (cs := [.int .i64 x.now]) rfl
    refine (rputInts_any w.heap.size _ _ _ [x.now] _ (H0.out.alloc _).own HR1.out (by simp) (by simp) (H0.out.alloc _).sz).mono ?_
    rintro e w2 ⟨v2, rfl, hO, hB, hN⟩
    have HF := Lib.hid (BodyIs.yes HE.out ((H0.out.alloc _).call hO hB hN))
    clear hO hB hN c0 c1 H0 HR1
    go_wp2_with fail
    go_ret2
    exact HF.out
  by_cases h2 : x.kind = 2
  · have HE : Hid (entB x = some (repB x.rep ++ ints [x.corr, x.arr])) := by unfold Hid entB; rw [if_neg h1, if_pos h2]
    have HLn : Hid (1 + (repB x.rep).length + 16 ≤ 12000000) := by
      have := HLe.out _ HE.out
      simp only [List.length_append, ints_length, List.length_cons, List.length_nil] at this
      unfold Hid; omega
    have HI_x_corr : Hid (I64 x.corr) := HP.out.corr
    have HI_x_arr : Hid (I64 x.arr) := HP.out.arr
    have HRep : Hid (repE.rep av w (repCells x.rep uR) x.rep) := ⟨uR, rfl, HP.out.rep⟩
    rw [h2] at c0
    clear h1 h2
    go_upto_region 6 with fail
    clear c0
    refine wp_region_tree (by kernel_rfl) (fun w' => PAt w' w.heap.size (entCells x uR uB u0 u1 u2 u3 u4 u5 u6 u7)) 12 (.q 0 0 (.q 1 0 (.q 2 0 (.q 3 1 (.q 5 0 (.q 6 0 (.q 7 1 (.q 8 0 (.q 9 0 (.q 10 1 (.fork (.e 4 (.e 11 (.e 12 (.q 13 0 (.q 14 0 (.nil)))))) (.e 11 (.e 4 (.e 12 (.q 13 0 (.q 14 0 (.nil))))))))))))))))) (by kernel_rfl) (H0.out.drew.pa) ?_
    refine tr_q (d := some 20) rfl rfl rfl ((.slice (some ⟨Y, 0, none⟩) 1 1)) (fun w => rfl) ?_
    simp only [Act.put, List.setIfInBounds_toArray, List.set_cons_zero, List.set_cons_succ]
    refine tr_q (d := some 21) rfl rfl rfl (.pointer (some ⟨w.heap.size, 2, none⟩)) (fun w => by go_simp) ?_
    simp only [Act.put, List.setIfInBounds_toArray, List.set_cons_zero, List.set_cons_succ]
    refine tr_q (d := some 22) rfl rfl rfl (.pointer (some ⟨w.heap.size, 2, none⟩)) (fun w => by go_simp) ?_
    simp only [Act.put, List.setIfInBounds_toArray, List.set_cons_zero, List.set_cons_succ]
    refine tr_load (d := some 23) rfl rfl rfl _ _ rfl ⟨w.heap.size, 2, none⟩ rfl (.agg (repCells x.rep uR).toArray) (fun w hw => load_rep8 (hw.sub 2 8) rfl) ?_
    simp only [Act.put, List.setIfInBounds_toArray, List.set_cons_zero, List.set_cons_succ]
    refine tr_q (d := some 25) rfl rfl rfl (.pointer (some ⟨w.heap.size, 2, none⟩)) (fun w => by go_simp) ?_
    simp only [Act.put, List.setIfInBounds_toArray, List.set_cons_zero, List.set_cons_succ]
    refine tr_q (d := some 26) rfl rfl rfl (.pointer (some ⟨w.heap.size, 10, none⟩)) (fun w => by go_simp) ?_
    simp only [Act.put, List.setIfInBounds_toArray, List.set_cons_zero, List.set_cons_succ]
    refine tr_s (d := some 27) rfl rfl rfl (.int .i64 x.corr) (fun w hw => by have hw0 := hw.1.at 10 rfl; simp [execOp, Act.eval, hw0, go_sem]) ?_
    simp only [Act.put, List.setIfInBounds_toArray, List.set_cons_zero, List.set_cons_succ]
    refine tr_q (d := some 28) rfl rfl rfl (.pointer (some ⟨w.heap.size, 2, none⟩)) (fun w => by go_simp) ?_
    simp only [Act.put, List.setIfInBounds_toArray, List.set_cons_zero, List.set_cons_succ]
    refine tr_q (d := some 29) rfl rfl rfl (.pointer (some ⟨w.heap.size, 11, none⟩)) (fun w => by go_simp) ?_
    simp only [Act.put, List.setIfInBounds_toArray, List.set_cons_zero, List.set_cons_succ]
    refine tr_s (d := some 30) rfl rfl rfl (.int .i64 x.arr) (fun w hw => by have hw0 := hw.1.at 11 rfl; simp [execOp, Act.eval, hw0, go_sem]) ?_
    simp only [Act.put, List.setIfInBounds_toArray, List.set_cons_zero, List.set_cons_succ]
    refine tr_fork ?_ ?_
    · refine tr_call (d := some 24) rfl rfl rfl ⟨_, Tryz.func39, by kernel_rfl, by kernel_rfl⟩ _ _ _ rfl rfl [(.slice (some ⟨Y, 0, none⟩) 1 1), .agg (repCells x.rep uR).toArray] rfl (rputReport_any w.heap.size ((.slice (some ⟨Y, 0, none⟩) 1 1)) ([k8 x.kind]) x.rep (repCells x.rep uR) av (wA.drew) (H0.out.drew.own) (repE_ok.keep HRep.out (Keeps.of_nb H0.out.drew.nb)) (by have := HLn.out; (try simp only [List.length_append, be_length, ints_length, List.length_cons, List.length_nil, List.length_singleton]); omega) (H0.out.drew.sz)) ?_
      rintro e w1 ⟨v1, rfl, hO, hB, hN⟩
      have H1 := Lib.hid (H0.out.drew.call hO hB hN)
      clear hO hB hN
      refine ⟨_, rfl, fun _ => H1.out.pa, ?_⟩
      simp only [Act.put, List.setIfInBounds_toArray, List.set_cons_zero, List.set_cons_succ]
      have HL11 : Hid (ReadsI ((w1).alloc (.cells #[.int .i64 x.corr, .int .i64 x.arr] 3)) (.slice (some ⟨(w1).heap.size, 0, none⟩) 2 2) [x.corr, x.arr]) := readsI_lit (w1) [x.corr, x.arr] (by simp [HI_x_corr.out, HI_x_arr.out]) (by simp) rfl rfl (cs := [.int .i64 x.corr, .int .i64 x.arr]) rfl
      refine tr_run (d := some 31) rfl rfl rfl (.slice (some ⟨(w1).heap.size, 0, none⟩) 2 2) ((w1).alloc (.cells #[.int .i64 x.corr, .int .i64 x.arr] 3)) (by simp [execOp, Act.eval, Instr.buildSlice, go_sem]) (fun _ => (H1.out.alloc _).pa) ?_
      simp only [Act.put, List.setIfInBounds_toArray, List.set_cons_zero, List.set_cons_succ]
      refine tr_call (d := some 32) rfl rfl rfl ⟨_, Tryz.func38, by kernel_rfl, by kernel_rfl⟩ _ _ _ rfl rfl [v1, .slice (some ⟨(w1).heap.size, 0, none⟩) 2 2] rfl (rputInts_any w.heap.size (v1) (([k8 x.kind] ++ repB x.rep)) (.slice (some ⟨(w1).heap.size, 0, none⟩) 2 2) _ ((w1).alloc (.cells #[.int .i64 x.corr, .int .i64 x.arr] 3)) ((H1.out.alloc _).own) (HL11.out) (by have := HLn.out; (try simp only [List.length_append, be_length, ints_length, List.length_cons, List.length_nil, List.length_singleton]); omega) (by simp) ((H1.out.alloc _).sz)) ?_
      rintro e w2 ⟨v2, rfl, hO, hB, hN⟩
      have HL31_2 := Lib.hid (HL11.out.nb hN)
      have H2 := Lib.hid ((H1.out.alloc _).call hO hB hN)
      clear hO hB hN
      refine ⟨_, rfl, fun _ => H2.out.pa, ?_⟩
      simp only [Act.put, List.setIfInBounds_toArray, List.set_cons_zero, List.set_cons_succ]
      refine tr_q (d := some 2) rfl rfl rfl (v2) (fun w => rfl) ?_
      simp only [Act.put, List.setIfInBounds_toArray, List.set_cons_zero, List.set_cons_succ]
      refine tr_q (d := some 3) rfl rfl rfl (.bool true) (fun w => rfl) ?_
      simp only [Act.put, List.setIfInBounds_toArray, List.set_cons_zero, List.set_cons_succ]
      refine tr_end ?_
      have HF := Lib.hid (BodyIs.yes HE.out (b := repB x.rep ++ ints [x.corr, x.arr]) (by simpa only [List.append_assoc, List.cons_append, List.nil_append, List.singleton_append] using H2.out))
      clear H0 H1 H2
      go_wp2_with fail
      go_ret2
      exact HF.out
    · have HL11 : Hid (ReadsI ((wA.drew).alloc (.cells #[.int .i64 x.corr, .int .i64 x.arr] 3)) (.slice (some ⟨(wA.drew).heap.size, 0, none⟩) 2 2) [x.corr, x.arr]) := readsI_lit (wA.drew) [x.corr, x.arr] (by simp [HI_x_corr.out, HI_x_arr.out]) (by simp) rfl rfl (cs := [.int .i64 x.corr, .int .i64 x.arr]) rfl
      refine tr_run (d := some 31) rfl rfl rfl (.slice (some ⟨(wA.drew).heap.size, 0, none⟩) 2 2) ((wA.drew).alloc (.cells #[.int .i64 x.corr, .int .i64 x.arr] 3)) (by simp [execOp, Act.eval, Instr.buildSlice, go_sem]) (fun _ => (H0.out.drew.alloc _).pa) ?_
      simp only [Act.put, List.setIfInBounds_toArray, List.set_cons_zero, List.set_cons_succ]
      refine tr_call (d := some 24) rfl rfl rfl ⟨_, Tryz.func39, by kernel_rfl, by kernel_rfl⟩ _ _ _ rfl rfl [(.slice (some ⟨Y, 0, none⟩) 1 1), .agg (repCells x.rep uR).toArray] rfl (rputReport_any w.heap.size ((.slice (some ⟨Y, 0, none⟩) 1 1)) ([k8 x.kind]) x.rep (repCells x.rep uR) av ((wA.drew).alloc (.cells #[.int .i64 x.corr, .int .i64 x.arr] 3)) ((H0.out.drew.alloc _).own) (repE_ok.keep HRep.out (Keeps.of_nb (H0.out.drew.alloc _).nb)) (by have := HLn.out; (try simp only [List.length_append, be_length, ints_length, List.length_cons, List.length_nil, List.length_singleton]); omega) ((H0.out.drew.alloc _).sz)) ?_
      rintro e w1 ⟨v1, rfl, hO, hB, hN⟩
      have HL31_1 := Lib.hid (HL11.out.nb hN)
      have H1 := Lib.hid ((H0.out.drew.alloc _).call hO hB hN)
      clear hO hB hN
      refine ⟨_, rfl, fun _ => H1.out.pa, ?_⟩
      simp only [Act.put, List.setIfInBounds_toArray, List.set_cons_zero, List.set_cons_succ]
      refine tr_call (d := some 32) rfl rfl rfl ⟨_, Tryz.func38, by kernel_rfl, by kernel_rfl⟩ _ _ _ rfl rfl [v1, .slice (some ⟨(wA.drew).heap.size, 0, none⟩) 2 2] rfl (rputInts_any w.heap.size (v1) (([k8 x.kind] ++ repB x.rep)) (.slice (some ⟨(wA.drew).heap.size, 0, none⟩) 2 2) _ (w1) (H1.out.own) (HL31_1.out) (by have := HLn.out; (try simp only [List.length_append, be_length, ints_length, List.length_cons, List.length_nil, List.length_singleton]); omega) (by simp) (H1.out.sz)) ?_
      rintro e w2 ⟨v2, rfl, hO, hB, hN⟩
      have HL31_2 := Lib.hid (HL31_1.out.nb hN)
      have H2 := Lib.hid (H1.out.call hO hB hN)
      clear hO hB hN
      refine ⟨_, rfl, fun _ => H2.out.pa, ?_⟩
      simp only [Act.put, List.setIfInBounds_toArray, List.set_cons_zero, List.set_cons_succ]
      refine tr_q (d := some 2) rfl rfl rfl (v2) (fun w => rfl) ?_
      simp only [Act.put, List.setIfInBounds_toArray, List.set_cons_zero, List.set_cons_succ]
      refine tr_q (d := some 3) rfl rfl rfl (.bool true) (fun w => rfl) ?_
      simp only [Act.put, List.setIfInBounds_toArray, List.set_cons_zero, List.set_cons_succ]
      refine tr_end ?_
      have HF := Lib.hid (BodyIs.yes HE.out (b := repB x.rep ++ ints [x.corr, x.arr]) (by simpa only [List.append_assoc, List.cons_append, List.nil_append, List.singleton_append] using H2.out))
      clear H0 H1 H2
      go_wp2_with fail
      go_ret2
      exact HF.out
  by_cases h3 : x.kind = 3
  · have HE : Hid (entB x = some (ints [x.st] ++ strB x.name ++ ints [x.from_] ++ boolB x.closed ++ placeB x.pl ++ readingsB x.bias)) := by unfold Hid entB; rw [if_neg h1, if_neg h2, if_pos h3]
    have HLn : Hid (1 + 8 + (strB x.name).length + 8 + (boolB x.closed).length + (placeB x.pl).length + (readingsB x.bias).length ≤ 12000000) := by
      have := HLe.out _ HE.out
      simp only [List.length_append, ints_length, List.length_cons, List.length_nil] at this
      unfold Hid; omega
    have HI_x_st : Hid (I64 x.st) := HP.out.st
    have HI_x_from_ : Hid (I64 x.from_) := HP.out.per.1
    have HNm : Hid (x.name.size ≤ 10000000) := HP.out.name
    have HPl : Hid (okPla x.pl) := HP.out.per.2.1
    have HBi : Hid (ReadsR w uB x.bias) := HP.out.per.2.2.readsR
    have HBn : Hid (x.bias.length ≤ 1000000) := HP.out.per.2.2.le
    rw [h3] at c0
    clear h1 h2 h3
    go_upto_region 8 with fail
    clear c0
    refine wp_region_seqL (by kernel_rfl) (fun w' => PAt w' w.heap.size (entCells x uR uB u0 u1 u2 u3 u4 u5 u6 u7)) 7 [(0, 0), (1, 0), (2, 1), (5, 0), (6, 1), (3, 2), (4, 2), (7, 2), (8, 0)] (by kernel_rfl) (H0.out.drew.pa) ?_
    refine sl_q (d := some 35) rfl rfl rfl ((.slice (some ⟨Y, 0, none⟩) 1 1)) (fun w => rfl) ?_
    simp only [Act.put, List.setIfInBounds_toArray, List.set_cons_zero, List.set_cons_succ]
    refine sl_q (d := some 36) rfl rfl rfl (.pointer (some ⟨w.heap.size, 12, none⟩)) (fun w => by go_simp) ?_
    simp only [Act.put, List.setIfInBounds_toArray, List.set_cons_zero, List.set_cons_succ]
    refine sl_s (d := some 37) rfl rfl rfl (.int .i64 x.st) (fun w hw => by have hw0 := hw.1.at 12 rfl; simp [execOp, Act.eval, hw0, go_sem]) ?_
    simp only [Act.put, List.setIfInBounds_toArray, List.set_cons_zero, List.set_cons_succ]
    refine sl_q (d := some 40) rfl rfl rfl (.pointer (some ⟨w.heap.size, 13, none⟩)) (fun w => by go_simp) ?_
    simp only [Act.put, List.setIfInBounds_toArray, List.set_cons_zero, List.set_cons_succ]
    refine sl_s (d := some 41) rfl rfl rfl (.string x.name) (fun w hw => by have hw0 := hw.1.at 13 rfl; simp [execOp, Act.eval, hw0, go_sem]) ?_
    simp only [Act.put, List.setIfInBounds_toArray, List.set_cons_zero, List.set_cons_succ]
    refine sl_run (d := some 38) rfl rfl rfl (.slice (some ⟨(wA.drew).heap.size, 0, none⟩) 1 1) ((wA.drew).alloc (.cells #[.int .i64 x.st] 3)) (by simp [execOp, Act.eval, Instr.buildSlice, go_sem]) (fun _ => (H0.out.drew.alloc _).pa) ?_
    simp only [Act.put, List.setIfInBounds_toArray, List.set_cons_zero, List.set_cons_succ]
    refine sl_call (d := some 39) rfl rfl rfl ⟨_, Tryz.func38, by kernel_rfl, by kernel_rfl⟩ _ _ _ rfl rfl [(.slice (some ⟨Y, 0, none⟩) 1 1), .slice (some ⟨(wA.drew).heap.size, 0, none⟩) 1 1] rfl (rputInts_any w.heap.size ((.slice (some ⟨Y, 0, none⟩) 1 1)) ([k8 x.kind]) (.slice (some ⟨(wA.drew).heap.size, 0, none⟩) 1 1) _ ((wA.drew).alloc (.cells #[.int .i64 x.st] 3)) ((H0.out.drew.alloc _).own) (readsI_lit (wA.drew) [x.st] (by simp [HI_x_st.out]) (by simp) rfl rfl rfl) (by have := HLn.out; (try simp only [List.length_append, be_length, ints_length, List.length_cons, List.length_nil, List.length_singleton]); omega) (by simp) ((H0.out.drew.alloc _).sz)) ?_
    rintro e w1 ⟨v1, rfl, hO, hB, hN⟩
    have H1 := Lib.hid ((H0.out.drew.alloc _).call hO hB hN)
    clear hO hB hN
    refine ⟨_, rfl, fun _ => H1.out.pa, ?_⟩
    simp only [Act.put, List.setIfInBounds_toArray, List.set_cons_zero, List.set_cons_succ]
    refine sl_call (d := some 42) rfl rfl rfl ⟨_, Tryz.func40, by kernel_rfl, by kernel_rfl⟩ _ _ _ rfl rfl [v1, .string x.name] rfl (rputString_any w.heap.size (v1) (([k8 x.kind] ++ ints [x.st])) x.name (w1) (H1.out.own) (by have := HLn.out; (try simp only [List.length_append, be_length, ints_length, List.length_cons, List.length_nil, List.length_singleton]); omega) HNm.out (H1.out.sz)) ?_
    rintro e w2 ⟨v2, rfl, hO, hB, hN⟩
    have H2 := Lib.hid (H1.out.call hO hB hN)
    clear hO hB hN
    refine ⟨_, rfl, fun _ => H2.out.pa, ?_⟩
    simp only [Act.put, List.setIfInBounds_toArray, List.set_cons_zero, List.set_cons_succ]
    refine sl_q (d := some 4) rfl rfl rfl (v2) (fun w => rfl) ?_
    simp only [Act.put, List.setIfInBounds_toArray, List.set_cons_zero, List.set_cons_succ]
    refine sl_end ?_
    go_wp2_with fail
    refine wp_region_seqL (by kernel_rfl) (fun w' => PAt w' w.heap.size (entCells x uR uB u0 u1 u2 u3 u4 u5 u6 u7)) 9 [(0, 0), (1, 0), (2, 0), (3, 1), (6, 0), (7, 0), (8, 1), (4, 2), (5, 2), (9, 2), (10, 0)] (by kernel_rfl) (H2.out.drew.pa) ?_
    refine sl_q (d := some 43) rfl rfl rfl (v2) (fun w => rfl) ?_
    simp only [Act.put, List.setIfInBounds_toArray, List.set_cons_zero, List.set_cons_succ]
    refine sl_q (d := some 44) rfl rfl rfl (.pointer (some ⟨w.heap.size, 14, none⟩)) (fun w => by go_simp) ?_
    simp only [Act.put, List.setIfInBounds_toArray, List.set_cons_zero, List.set_cons_succ]
    refine sl_q (d := some 45) rfl rfl rfl (.pointer (some ⟨w.heap.size, 14, none⟩)) (fun w => by go_simp) ?_
    simp only [Act.put, List.setIfInBounds_toArray, List.set_cons_zero, List.set_cons_succ]
    refine sl_s (d := some 46) rfl rfl rfl (.int .i64 x.from_) (fun w hw => by have hw0 := hw.1.at 14 rfl; simp [execOp, Act.eval, hw0, go_sem]) ?_
    simp only [Act.put, List.setIfInBounds_toArray, List.set_cons_zero, List.set_cons_succ]
    refine sl_q (d := some 49) rfl rfl rfl (.pointer (some ⟨w.heap.size, 14, none⟩)) (fun w => by go_simp) ?_
    simp only [Act.put, List.setIfInBounds_toArray, List.set_cons_zero, List.set_cons_succ]
    refine sl_q (d := some 50) rfl rfl rfl (.pointer (some ⟨w.heap.size, 15, none⟩)) (fun w => by go_simp) ?_
    simp only [Act.put, List.setIfInBounds_toArray, List.set_cons_zero, List.set_cons_succ]
    refine sl_s (d := some 51) rfl rfl rfl (.bool x.closed) (fun w hw => by have hw0 := hw.1.at 15 rfl; simp [execOp, Act.eval, hw0, go_sem]) ?_
    simp only [Act.put, List.setIfInBounds_toArray, List.set_cons_zero, List.set_cons_succ]
    refine sl_run (d := some 47) rfl rfl rfl (.slice (some ⟨(w2.drew).heap.size, 0, none⟩) 1 1) ((w2.drew).alloc (.cells #[.int .i64 x.from_] 3)) (by simp [execOp, Act.eval, Instr.buildSlice, go_sem]) (fun _ => (H2.out.drew.alloc _).pa) ?_
    simp only [Act.put, List.setIfInBounds_toArray, List.set_cons_zero, List.set_cons_succ]
    refine sl_call (d := some 48) rfl rfl rfl ⟨_, Tryz.func38, by kernel_rfl, by kernel_rfl⟩ _ _ _ rfl rfl [v2, .slice (some ⟨(w2.drew).heap.size, 0, none⟩) 1 1] rfl (rputInts_any w.heap.size (v2) (((([k8 x.kind] ++ ints [x.st])) ++ strB x.name)) (.slice (some ⟨(w2.drew).heap.size, 0, none⟩) 1 1) _ ((w2.drew).alloc (.cells #[.int .i64 x.from_] 3)) ((H2.out.drew.alloc _).own) (readsI_lit (w2.drew) [x.from_] (by simp [HI_x_from_.out]) (by simp) rfl rfl rfl) (by have := HLn.out; (try simp only [List.length_append, be_length, ints_length, List.length_cons, List.length_nil, List.length_singleton]); omega) (by simp) ((H2.out.drew.alloc _).sz)) ?_
    rintro e w3 ⟨v3, rfl, hO, hB, hN⟩
    have H3 := Lib.hid ((H2.out.drew.alloc _).call hO hB hN)
    clear hO hB hN
    refine ⟨_, rfl, fun _ => H3.out.pa, ?_⟩
    simp only [Act.put, List.setIfInBounds_toArray, List.set_cons_zero, List.set_cons_succ]
    refine sl_call (d := some 52) rfl rfl rfl ⟨_, Tryz.func41, by kernel_rfl, by kernel_rfl⟩ _ _ _ rfl rfl [v3, .bool x.closed] rfl (rputBool_any w.heap.size (v3) (((((([k8 x.kind] ++ ints [x.st])) ++ strB x.name)) ++ ints [x.from_])) x.closed (w3) (H3.out.own) (by have := HLn.out; (try simp only [List.length_append, be_length, ints_length, List.length_cons, List.length_nil, List.length_singleton]); omega) (H3.out.sz)) ?_
    rintro e w4 ⟨v4, rfl, hO, hB, hN⟩
    have H4 := Lib.hid (H3.out.call hO hB hN)
    clear hO hB hN
    refine ⟨_, rfl, fun _ => H4.out.pa, ?_⟩
    simp only [Act.put, List.setIfInBounds_toArray, List.set_cons_zero, List.set_cons_succ]
    refine sl_q (d := some 4) rfl rfl rfl (v4) (fun w => rfl) ?_
    simp only [Act.put, List.setIfInBounds_toArray, List.set_cons_zero, List.set_cons_succ]
    refine sl_end ?_
    go_wp2_with fail
    refine wp_region_seqL (by kernel_rfl) (fun w' => PAt w' w.heap.size (entCells x uR uB u0 u1 u2 u3 u4 u5 u6 u7)) 8 [(0, 0), (1, 0), (2, 0), (3, 1), (5, 0), (6, 0), (7, 1), (4, 2), (8, 2), (9, 0), (10, 0)] (by kernel_rfl) (H4.out.drew.pa) ?_
    refine sl_q (d := some 53) rfl rfl rfl (v4) (fun w => rfl) ?_
    simp only [Act.put, List.setIfInBounds_toArray, List.set_cons_zero, List.set_cons_succ]
    refine sl_q (d := some 54) rfl rfl rfl (.pointer (some ⟨w.heap.size, 14, none⟩)) (fun w => by go_simp) ?_
    simp only [Act.put, List.setIfInBounds_toArray, List.set_cons_zero, List.set_cons_succ]
    refine sl_q (d := some 55) rfl rfl rfl (.pointer (some ⟨w.heap.size, 16, none⟩)) (fun w => by go_simp) ?_
    simp only [Act.put, List.setIfInBounds_toArray, List.set_cons_zero, List.set_cons_succ]
    refine sl_load (d := some 56) rfl rfl rfl _ _ rfl ⟨w.heap.size, 16, none⟩ rfl (.agg #[.int .i64 x.pl.f, .int .i64 x.pl.a, .int .i64 x.pl.b, .int .i64 x.pl.c]) (fun w hw => load_place (hw.sub 16 4)) ?_
    simp only [Act.put, List.setIfInBounds_toArray, List.set_cons_zero, List.set_cons_succ]
    refine sl_q (d := some 58) rfl rfl rfl (.pointer (some ⟨w.heap.size, 14, none⟩)) (fun w => by go_simp) ?_
    simp only [Act.put, List.setIfInBounds_toArray, List.set_cons_zero, List.set_cons_succ]
    refine sl_q (d := some 59) rfl rfl rfl (.pointer (some ⟨w.heap.size, 20, none⟩)) (fun w => by go_simp) ?_
    simp only [Act.put, List.setIfInBounds_toArray, List.set_cons_zero, List.set_cons_succ]
    refine sl_s (d := some 60) rfl rfl rfl (uB) (fun w hw => by have hw0 := hw.1.at 20 rfl; simp [execOp, Act.eval, hw0, go_sem]) ?_
    simp only [Act.put, List.setIfInBounds_toArray, List.set_cons_zero, List.set_cons_succ]
    refine sl_call (d := some 57) rfl rfl rfl ⟨_, Tryz.func43, by kernel_rfl, by kernel_rfl⟩ _ _ _ rfl rfl [v4, .agg #[.int .i64 x.pl.f, .int .i64 x.pl.a, .int .i64 x.pl.b, .int .i64 x.pl.c]] rfl (rputPlace_any w.heap.size (v4) (((((((([k8 x.kind] ++ ints [x.st])) ++ strB x.name)) ++ ints [x.from_])) ++ boolB x.closed)) x.pl (w4.drew) (H4.out.drew.own) HPl.out (by have := HLn.out; (try simp only [List.length_append, be_length, ints_length, List.length_cons, List.length_nil, List.length_singleton]); omega) (H4.out.drew.sz)) ?_
    rintro e w5 ⟨v5, rfl, hO, hB, hN⟩
    have H5 := Lib.hid (H4.out.drew.call hO hB hN)
    clear hO hB hN
    refine ⟨_, rfl, fun _ => H5.out.pa, ?_⟩
    simp only [Act.put, List.setIfInBounds_toArray, List.set_cons_zero, List.set_cons_succ]
    refine sl_call (d := some 61) rfl rfl rfl ⟨_, Tryz.func42, by kernel_rfl, by kernel_rfl⟩ _ _ _ rfl rfl [v5, uB] rfl (rputReadings_any w.heap.size (v5) (((((((((([k8 x.kind] ++ ints [x.st])) ++ strB x.name)) ++ ints [x.from_])) ++ boolB x.closed)) ++ placeB x.pl)) uB x.bias (w5) (H5.out.own) (HBi.out.nb H5.out.nb) (by have := HLn.out; (try simp only [List.length_append, be_length, ints_length, List.length_cons, List.length_nil, List.length_singleton]); omega) HBn.out (H5.out.sz)) ?_
    rintro e w6 ⟨v6, rfl, hO, hB, hN⟩
    have H6 := Lib.hid (H5.out.call hO hB hN)
    clear hO hB hN
    refine ⟨_, rfl, fun _ => H6.out.pa, ?_⟩
    simp only [Act.put, List.setIfInBounds_toArray, List.set_cons_zero, List.set_cons_succ]
    refine sl_q (d := some 2) rfl rfl rfl (v6) (fun w => rfl) ?_
    simp only [Act.put, List.setIfInBounds_toArray, List.set_cons_zero, List.set_cons_succ]
    refine sl_q (d := some 3) rfl rfl rfl (.bool true) (fun w => rfl) ?_
    simp only [Act.put, List.setIfInBounds_toArray, List.set_cons_zero, List.set_cons_succ]
    refine sl_end ?_
    have HF := Lib.hid (BodyIs.yes HE.out (b := ints [x.st] ++ strB x.name ++ ints [x.from_] ++ boolB x.closed ++ placeB x.pl ++ readingsB x.bias) (by simpa only [List.append_assoc, List.cons_append, List.nil_append, List.singleton_append] using H6.out))
    clear H0 H1 H2 H3 H4 H5 H6
    go_wp2_with fail
    go_ret2
    exact HF.out
  by_cases h4 : x.kind = 4
  · have HE : Hid (entB x = some (cycB x.cyc)) := by unfold Hid entB; rw [if_neg h1, if_neg h2, if_neg h3, if_pos h4]
    have HLn : Hid (1 + (cycB x.cyc).length ≤ 12000000) := by
      have := HLe.out _ HE.out
      unfold Hid; omega
    have HC : Hid (cycR av w x.cyc u0 u1 u2 u3 u4 u5 u6 u7) := by
      obtain ⟨q0, q1, q2, q3, q4, q5, q6, q7, e, hq⟩ := HP.out.cyc
      simp only [cycCells, List.cons.injEq, and_true, true_and] at e
      obtain ⟨rfl, rfl, rfl, rfl, rfl, rfl, rfl, rfl⟩ := e
      exact hq
    rw [h4] at c0
    clear h1 h2 h3 h4
    go_wp2_with (first
      | (refine list_loadAgg (load_cyc17 (es := cycCells x.cyc u0 u1 u2 u3 u4 u5 u6 u7) (H0.out.pa.sub 21 17) rfl) rfl _ rfl rfl ?_)
      | fail)
    refine (rputCycle_any w.heap.size _ _ x.cyc u0 u1 u2 u3 u4 u5 u6 u7 av wA H0.out.own (HC.out.keep (Keeps.of_nb H0.out.nb)) (by have := HLn.out; simpa using this) H0.out.sz).mono ?_
    rintro e w2 ⟨v2, rfl, hO, hB, hN⟩
    have HF := Lib.hid (BodyIs.yes HE.out (H0.out.call hO hB hN))
    clear hO hB hN c0 H0
    go_wp2_with fail
    go_ret2
    exact HF.out
  · have HE : Hid (entB x = none) := by unfold Hid entB; rw [if_neg h1, if_neg h2, if_neg h3, if_neg h4]
    have HF := Lib.hid (BodyIs.no HE.out H0.out)
    clear H0
    go_wp2_with fail
    go_ret2
    exact HF.out
end Go.Proofs.YtpknalpdcfjffaaGreat
/- The reference's Same. -/
namespace Go.Proofs.YtpknalpdcfjffaaGreat
open Go Go.RowKit

theorem OwnB.conv {w : World} {base : Nat} {v : Value} {l : List UInt8} (h : OwnB w base v l) : (convert 22 9 v).run Tryz.prog w = .ok (.string ⟨l.toArray⟩) w := by
  have h' := h
  obtain ⟨h1, h2⟩ := h
  rcases h2 with ⟨e, h0⟩ | ⟨g, cap, cur, e, hg, hh, hc, hm, hsz, htk⟩
  · obtain rfl := List.eq_nil_of_length_eq_zero h0
    subst e
    exact run_bytes_none w 0
  · subst e
    refine run_convert_bytes_back (P := Tryz.prog) w 22 9 5 ⟨g, 0, none⟩ cap l Tryz.underlying22 Tryz.underlying5 Tryz.underlying9 (fun j hj => ?_)
    have := World.ownsRow.cells h' (g := g) rfl j (.int .u8 (l[j].toNat : Nat)) (by simp [bcs, hj])
    simpa [Addr.add] using this
def rsameB (x y : Ent) : Bool := decide (x.kind = y.kind) && (bodyB x == bodyB y)
def RSameIs (x y : Ent) (w : World) (e : Ending) (w' : World) : Prop := e = .returned (.bool (rsameB x y)) ∧ Below w.heap.size w w'
theorem ent_load0 (w : World) (b : Nat) (es : List Value) (hl : es.length = 38) (hr : w.rangeAt b 0 es) : (loadVar 55 ⟨b, 0, none⟩).run Tryz.prog w = .ok (.agg es.toArray) w := run_loadVar_mid w b 0 _ es _ hr Tryz.underlying55 rfl (by rw [hl]; kernel_rfl)
set_option maxHeartbeats 16000000 in
set_option maxRecDepth 100000 in
theorem rsame_any (x y : Ent) (cs ds : List Value) (av : Nat → Prop) (w : World) (h6 : entE.rep av w cs x) (h7 : entE.rep av w ds y) (hbx : ∀ b, entB x = some b → b.length ≤ 11000000) (hby : ∀ b, entB y = some b → b.length ≤ 11000000) : Calls Tryz.prog 14 #[.agg cs.toArray, .agg ds.toArray] w (RSameIs x y w) := by
  have hlx := entE_ok.len h6
  have hly := entE_ok.len h7
  have hcx : cs[0]? = some (.int .i64 x.kind) := by
    obtain ⟨vR, vB, v0, v1, v2, v3, v4, v5, v6, v7, rfl, _⟩ := h6
    rfl
  have hcy : ds[0]? = some (.int .i64 y.kind) := by
    obtain ⟨vR, vB, v0, v1, v2, v3, v4, v5, v6, v7, rfl, _⟩ := h7
    rfl
  obtain ⟨X, hX⟩ : ∃ X, X = w.heap.size := ⟨_, rfl⟩
  obtain ⟨wA, hwA⟩ : ∃ wA, wA = (w.alloc (.cells cs.toArray 55)).alloc (.cells ds.toArray 55) := ⟨_, rfl⟩
  have hB0 : Below X w wA := by rw [hwA, hX]; exact ((Below.refl _ _).alloc (Nat.le_refl _) _).alloc (by simp) _
  have HPx : Hid (PAt wA X cs) := by rw [hwA]; exact (PAt.new w cs (by rw [hlx]; decide) _ (by decide) hX.symm).below ((Below.refl _ _).alloc (Nat.le_refl _) _)
  have HPy : Hid (PAt wA (X + 1) ds) := by rw [hwA]; exact PAt.new _ ds (by rw [hly]; decide) _ (by decide) (by simp [hX])
  have HBx : Hid (Below w.heap.size w wA) := by rw [← hX]; exact hB0
  have H6 := Lib.hid (entE_ok.keep h6 (Keeps.of_below HBx.out))
  have H7 := Lib.hid (entE_ok.keep h7 (Keeps.of_below HBx.out))
  have HBX := Lib.hid hbx
  have HBY := Lib.hid hby
  have HX := Lib.hid hX
  have HWA := Lib.hid hwA
  have HCx := Lib.hid hcx
  have HCy := Lib.hid hcy
  clear h6 h7 hbx hby hcx hcy hX hwA hB0
  go_enter Tryz.func14, Tryz.ntmps14
  go_upto_region 1 with fail
  rw [← HX.out, ← HWA.out]
  clear HWA
  go_wp2_with (first
    | (refine list_loadAgg (ent_load0 wA X cs hlx HPx.out.1.range) rfl _ rfl rfl ?_)
    | fail)
  refine (rbody_any x cs av wA H6.out HBX.out).mono ?_
  rintro e w1 ⟨v1, rfl, ho1, hb1, hn1⟩
  have HPx1 := Lib.hid (HPx.out.below hb1)
  have HPy1 := Lib.hid (HPy.out.below hb1)
  have HO1 := Lib.hid ho1
  have H71 := Lib.hid (entE_ok.keep H7.out (Keeps.of_below hb1))
  have HB1 := Lib.hid (HBx.out.trans (hb1.mono HBx.out.size))
  clear ho1 hb1 hn1 HPx HPy H6 H7 HBx
  go_wp2_with (first
    | (refine list_loadAgg (ent_load0 w1 (X + 1) ds hly HPy1.out.1.range) rfl _ rfl rfl ?_)
    | fail)
  refine (rbody_any y ds av w1 H71.out HBY.out).mono ?_
  rintro e w2 ⟨v2, rfl, ho2, hb2, hn2⟩
  have HPx2 := Lib.hid (HPx1.out.below hb2)
  have HPy2 := Lib.hid (HPy1.out.below hb2)
  have HO2 := Lib.hid ho2
  have HO12 := Lib.hid (ownsRow_below HO1.out hb2)
  have HB2 := Lib.hid (HB1.out.trans (hb2.mono HB1.out.size))
  clear ho2 hb2 hn2 HPx1 HPy1 HO1 H71 HB1
  have c0 : w2.cell? ⟨X, 0, none⟩ = some (.int .i64 x.kind) := HPx2.out.1.at 0 HCx.out
  have c1 : w2.cell? ⟨X + 1, 0, none⟩ = some (.int .i64 y.kind) := HPy2.out.1.at 0 HCy.out
  clear HPx2 HPy2
  by_cases hk : x.kind = y.kind
  · rw [← hk] at c1
    have hcv1 := OwnB.conv (show OwnB w2 _ v1 _ from HO12.out)
    have hcv2 := OwnB.conv (show OwnB w2 _ v2 _ from HO2.out)
    have HF : Hid (RSameIs x y w (.returned (.bool (bodyB x == bodyB y))) w2) := ⟨by unfold rsameB; rw [decide_eq_true hk, Bool.true_and], HB2.out⟩
    clear hk
    go_wp2_with fail
    go_ret
    exact HF.out
  · have HF : Hid (RSameIs x y w (.returned (.bool false)) w2) := ⟨by unfold rsameB; rw [decide_eq_false hk, Bool.false_and], HB2.out⟩
    have hkb : (x.kind == y.kind) = false := by simpa using hk
    clear hk
    go_wp2_with fail
    go_ret
    exact HF.out
end Go.Proofs.YtpknalpdcfjffaaGreat
/- The law's plain part: what was encoded is decoded, whatever follows; the makers' entries are in order and short. No walk. -/
namespace Go.Proofs.YtpknalpdcfjffaaGreat
open Go Go.RowKit

/-- The bytes of an entry, whole. -/
def encB (k : Int) (b : List UInt8) : List UInt8 := be 4 (b.length + 1) ++ (k8 k :: b) ++ be 4 (chk (be 4 (b.length + 1) ++ (k8 k :: b)))
theorem encB_length (k : Int) (b : List UInt8) : (encB k b).length = b.length + 9 := by
  simp only [encB, List.length_append, be_length, List.length_cons]; omega
theorem encRes_some (k : Int) (b : List UInt8) (h : b.length + 9 ≤ 1048576) : encRes k (some b) = (encB k b, 0) := by
  simp only [encRes]
  rw [if_neg (by omega)]; rfl
theorem dec_enc (k : Int) (x : Ent) (b rest : List UInt8) (hx : okEnt k x) (hb : entB x = some b) (hl : b.length + 9 ≤ 1048576) (hk : 1 ≤ k ∧ k ≤ 4) : decRes (encB k b ++ rest) = (x, b.length + 9, 0) := by
  have hL := encB_length k b
  have e4 : (encB k b ++ rest).take 4 = be 4 (b.length + 1) := by
    rw [encB, List.append_assoc, List.append_assoc, List.take_left' (be_length 4 _)]
  have hn : num (be 4 (b.length + 1)) = b.length + 1 := num_be 4 _ (by rw [pow4]; omega)
  have hBl : (be 4 (b.length + 1) ++ (k8 k :: b)).length = b.length + 5 := by simp only [List.length_append, be_length, List.length_cons]; omega
  have eB : (encB k b ++ rest).take (b.length + 5) = be 4 (b.length + 1) ++ (k8 k :: b) := by
    rw [encB, List.append_assoc, List.take_left' hBl]
  have e9 : (encB k b ++ rest).take (b.length + 9) = encB k b := List.take_left' hL
  have eD : (encB k b).drop (b.length + 5) = be 4 (chk (be 4 (b.length + 1) ++ (k8 k :: b))) := by
    rw [encB, List.drop_left' hBl]
  have hc := chk_lt (be 4 (b.length + 1) ++ (k8 k :: b))
  have hcn : num (be 4 (chk (be 4 (b.length + 1) ++ (k8 k :: b)))) = chk (be 4 (b.length + 1) ++ (k8 k :: b)) := num_be 4 _ (by rw [pow4]; omega)
  have eK : (encB k b ++ rest).getD 4 0 = k8 k := by
    have h1 : (encB k b ++ rest)[4]? = some (k8 k) := by
      rw [encB, List.append_assoc, List.append_assoc, List.getElem?_append_right (by rw [be_length]; exact Nat.le_refl 4), be_length]
      rfl
    rw [List.getD_eq_getElem?_getD, h1]; rfl
  have hkk : ((k8 k).toNat : Int) = k := by
    have := wrap_k8 k
    rw [← this]
    simp [IntKind.wrap, IntKind.signed, IntKind.bits]; omega
  have e5 : (be 4 (b.length + 1) ++ (k8 k :: b)).drop 5 = b := by
    have h4 := be_length 4 (b.length + 1)
    rw [List.drop_append, h4, List.drop_eq_nil_of_le (by omega)]
    rfl
  obtain ⟨b', hb', hp, _⟩ := ent_read k x hx []
  rw [hb] at hb'
  obtain rfl := Option.some.inj hb'
  rw [List.append_nil] at hp
  unfold decRes
  simp only [e4, hn]
  rw [if_neg (by rw [List.length_append, hL]; omega), if_neg (by omega), if_neg (by rw [List.length_append, hL]; omega)]
  rw [show b.length + 1 + 4 = b.length + 5 from rfl, show b.length + 1 + 8 = b.length + 9 from rfl, eB, e9, eD, hcn, if_neg (by simp), if_neg (by omega), eK]
  rw [hkk, if_neg (by omega), e5, hp]
theorem RdS.all {α : Type} {E : El α} {av : Nat → Prop} {w : World} {v : Value} {l : List α} {p : α → Prop} (h : RdS E av w v l) (hp : ∀ es a, E.rep av w es a → p a) : ∀ a ∈ l, p a := by
  intro a ha
  obtain ⟨i, hi, rfl⟩ := List.mem_iff_getElem.1 ha
  obtain ⟨_, _, _, _, _, _, h4⟩ := h
  obtain ⟨_, _, _, _, _, _, _, _, _, hc⟩ := h4 (by omega)
  obtain ⟨es, e1, _⟩ := hc i hi
  exact hp _ _ e1
theorem RdS.okL {α : Type} {E : El α} {av : Nat → Prop} {w : World} {v : Value} {l : List α} {p : α → Prop} (h : RdS E av w v l) (hp : ∀ es a, E.rep av w es a → p a) : okL p l := ⟨by have := h.le; omega, h.all hp⟩
theorem rd_ok {av : Nat → Prop} {w : World} (es : List Value) (a : Int × Int) (h : rdE.rep av w es a) : okRd a := ⟨h.2.1, h.2.2⟩
theorem rep_ok {av : Nat → Prop} {w : World} (es : List Value) (r : Rep) (h : repE.rep av w es r) : okRep r := by
  obtain ⟨v, _, h1, h2, h3, h4, h5⟩ := h
  exact ⟨h1, by unfold okT; omega, h3, h4, h5.okL rd_ok⟩
theorem cyc_ok {av : Nat → Prop} {w : World} (es : List Value) (x : Cyc) (h : cycE.rep av w es x) : okCyc x := by
  obtain ⟨_, _, _, _, _, _, _, _, _, h1, h2, h3, h4, ⟨a1, a2, a3, a4, a5, a6, a7, a8⟩, h5, h6, h7, h8, h9⟩ := h
  have hI : ∀ (es : List Value) (a : Int), intE.rep av w es a → okI a := fun es a h => h.2
  have hC : ∀ (es : List Value) (c : Cnt), cntE.rep av w es c → okCnt c := fun es c h => ⟨by have := h.2.1; unfold okT; omega, h.2.2.1, h.2.2.2⟩
  exact ⟨h1, h2, h3, h4.okL rep_ok, ⟨a1.okL hI, a2.okL hI, a3.okL hI, a4, by unfold okN; exact a5, a6, a7, a8⟩, h5, h6.okL hI, h7.okL hI, h8.okL (fun es l h => by obtain ⟨v, _, h⟩ := h; exact h.okL hC), h9.okL (fun es s h => by have := h.2; unfold okT; omega)⟩
theorem canon_ok {av : Nat → Prop} {w : World} {cs : List Value} {x : Ent} (h : entE.rep av w cs x) (hc : canon x) : okEnt x.kind x ∧ 1 ≤ x.kind ∧ x.kind ≤ 4 := by
  obtain ⟨_, _, _, _, _, _, _, _, _, _, _, h⟩ := h
  rcases hc with hc | hc | hc | hc
  · have hk : x.kind = 1 := by rw [hc]
    rw [hk]
    exact ⟨⟨h.now, hc⟩, by omega, by omega⟩
  · have hk : x.kind = 2 := by rw [hc]
    rw [hk]
    exact ⟨⟨rep_ok _ _ ⟨_, rfl, h.rep⟩, h.corr, h.arr, hc⟩, by omega, by omega⟩
  · have hk : x.kind = 3 := by rw [hc]
    rw [hk]
    exact ⟨⟨h.st, by have := h.name; unfold okT; omega, h.per.1, h.per.2.1, h.per.2.2.okL rd_ok, hc⟩, by omega, by omega⟩
  · have hk : x.kind = 4 := by rw [hc]
    rw [hk]
    exact ⟨⟨cyc_ok _ _ h.cyc, hc⟩, by omega, by omega⟩
end Go.Proofs.YtpknalpdcfjffaaGreat
/- The makers' entries are short. No walk. -/
namespace Go.Proofs.YtpknalpdcfjffaaGreat
open Go Go.RowKit

theorem flat_bound {α : Type} {f : α → List UInt8} {m : Nat} : ∀ (l : List α), (∀ a ∈ l, (f a).length ≤ m) → (l.flatMap f).length ≤ m * l.length
  | [], _ => by simp
  | a :: l, h => by
    have h1 := h a (by simp)
    have h2 := flat_bound l fun b hb => h b (by simp [hb])
    rw [List.flatMap_cons, List.length_append, List.length_cons, Nat.mul_add]
    omega
theorem strB_length (s : ByteArray) : (strB s).length = 4 + s.size := by
  have hsl : s.data.toList.length = s.size := by rw [Array.length_toList]; rfl
  simp only [strB, List.length_append, be_length, hsl]
theorem readingsB_length (l : List (Int × Int)) : (readingsB l).length = 4 + 16 * l.length := by simp only [readingsB, List.length_append, be_length, rdsB_length]
theorem placeB_length (p : Pla) : (placeB p).length = 32 := by simp [placeB, ints_length]
theorem sliceB_length (l : List Int) : (sliceB l).length = 4 + 8 * l.length := by simp only [sliceB, List.length_append, be_length, ints_length]
theorem boolB_length (b : Bool) : (boolB b).length = 1 := by cases b <;> rfl
theorem repB_length {r : Rep} (h : smRep r) : (repB r).length ≤ 100 := by
  have h1 := h.1
  have h2 := h.2
  simp only [repB, List.length_append, ints_length, strB_length, placeB_length, readingsB_length, List.length_cons, List.length_nil]
  omega
theorem cycB_length {x : Cyc} (h : smCyc x) : (cycB x).length ≤ 13000 := by
  obtain ⟨⟨h1, h2⟩, ⟨h3, h4, h5⟩, h6, h7, ⟨h8, h9⟩, h10, h11⟩ := h
  have b1 := flat_bound (f := repB) (m := 100) x.reps fun r hr => repB_length (h2 r hr)
  have hcnt : ∀ l ∈ x.cycles, (listB cntB l).length ≤ 60 := fun l hl => by
    obtain ⟨q1, q2⟩ := h9 l hl
    have := flat_bound (f := cntB) (m := 25) l fun c hc => by
      have := q2 c hc
      simp only [cntB, List.length_append, strB_length, ints_length, List.length_cons, List.length_nil]; omega
    simp only [listB, List.length_append, be_length]; omega
  have b2 := flat_bound (f := listB cntB) (m := 60) x.cycles hcnt
  have b3 := flat_bound (f := strB) (m := 9) x.listed fun s hs => by rw [strB_length]; have := h11 s hs; omega
  simp only [cycB, anaB, histB, listB, List.length_append, ints_length, be_length, sliceB_length, List.length_cons, List.length_nil]
  omega
theorem ent_short {x : Ent} (hc : canon x) (hs : smEnt x) : ∃ b, entB x = some b ∧ b.length ≤ 20000 := by
  obtain ⟨h1, h2, h3, h4⟩ := hs
  rcases hc with hc | hc | hc | hc
  · have hk : x.kind = 1 := by rw [hc]
    refine ⟨_, by unfold entB; rw [if_pos hk], by simp [ints_length]⟩
  · have hk : x.kind = 2 := by rw [hc]
    refine ⟨_, by unfold entB; rw [if_neg (by omega), if_pos hk], ?_⟩
    have := repB_length h1
    simp only [List.length_append, ints_length, List.length_cons, List.length_nil]; omega
  · have hk : x.kind = 3 := by rw [hc]
    refine ⟨_, by unfold entB; rw [if_neg (by omega), if_neg (by omega), if_pos hk], ?_⟩
    simp only [List.length_append, ints_length, List.length_cons, List.length_nil, strB_length, boolB_length, placeB_length, readingsB_length]; omega
  · have hk : x.kind = 4 := by rw [hc]
    refine ⟨_, by unfold entB; rw [if_neg (by omega), if_neg (by omega), if_neg (by omega), if_pos hk], ?_⟩
    rcases h4 with h4 | h4
    · rw [h4]; decide
    · have := cycB_length h4; omega
end Go.Proofs.YtpknalpdcfjffaaGreat
/- store.Decode. Printed by gen_dec.py. -/
namespace Go.Proofs.YtpknalpdcfjffaaGreat
open Go Go.RowKit

theorem pat_store {ops : Array Oper} {rest : List Oper} {op : Oper} {a : Act} {w : World} {Q : Exit → Act → World → Prop} {t : TypeId} (hgd : op.guard = none) (x y : Operand) (ho : op.op = .store t x y)
    (b : Nat) (hx : a.eval x = .pointer (some ⟨b, 0, none⟩)) (cs cs' : List Value) (hy : a.eval y = .agg cs'.toArray) (h : PAt w b cs) (hl : cs'.length = cs.length) (ht : RowT t cs.length) (h1 : ∀ v ∈ cs', v.oneCell' = true)
    (k : ∀ w', PAt w' b cs' → ApartR b w w' → wpList Tryz.prog ops Q rest (a.put op.dst undef) w') : wpList Tryz.prog ops Q (op :: rest) a w := by
  have ht' : w.there b 0 cs'.toArray.size := by rw [List.size_toArray]; exact h.1.there (by omega)
  exact wpList_store_mid hgd _ x y ho b 0 cs'.toArray hx hy ht' (by rw [ht.1, List.size_toArray, hl]) (all_oneCell_toArray h1) (k _ (h.setCells cs' hl) (apartR_setCells _ _ _ _))
set_option maxHeartbeats 16000000 in
set_option maxRecDepth 100000 in
theorem decode_any (v : Value) (l : List UInt8) (w : World) (h : BytesL w w.heap.size v l) : Calls Tryz.prog 17 #[v] w (DecIs l w) := by
  obtain ⟨a, c, rfl⟩ := h.slice
  obtain ⟨hlc, hcm⟩ : l.length ≤ c ∧ c ≤ 9223372036854775807 := by
    obtain ⟨a', c', e, q1, q2, _⟩ := h
    obtain ⟨_, rfl⟩ : a = a' ∧ c = c' := by simpa using e
    exact ⟨q1, q2⟩
  have HR : Hid (PAt (w.alloc (.cells #[.int .i64 0, .int .i64 0, .int .i64 0, .string ⟨#[]⟩, .int .i64 0, .int .i64 0, .int .i64 0, .int .i64 0, .int .i64 0, .slice none 0 0, .int .i64 0, .int .i64 0, .int .i64 0, .string ⟨#[]⟩, .int .i64 0, .bool false, .int .i64 0, .int .i64 0, .int .i64 0, .int .i64 0, .slice none 0 0, .int .i64 0, .int .i64 0, .int .i64 0, .slice none 0 0, .slice none 0 0, .slice none 0 0, .slice none 0 0, .int .i64 0, .int .u64 0, .int .i64 0, .int .i64 0, .int .i64 0, .int .i64 0, .slice none 0 0, .slice none 0 0, .slice none 0 0, .slice none 0 0] 55)) w.heap.size (kc 0)) := PAt.new w (kc 0) (by rw [kc_length]; decide) _ (by decide) rfl
  have HB : Hid (Below w.heap.size w (w.alloc (.cells #[.int .i64 0, .int .i64 0, .int .i64 0, .string ⟨#[]⟩, .int .i64 0, .int .i64 0, .int .i64 0, .int .i64 0, .int .i64 0, .slice none 0 0, .int .i64 0, .int .i64 0, .int .i64 0, .string ⟨#[]⟩, .int .i64 0, .bool false, .int .i64 0, .int .i64 0, .int .i64 0, .int .i64 0, .slice none 0 0, .int .i64 0, .int .i64 0, .int .i64 0, .slice none 0 0, .slice none 0 0, .slice none 0 0, .slice none 0 0, .int .i64 0, .int .u64 0, .int .i64 0, .int .i64 0, .int .i64 0, .int .i64 0, .slice none 0 0, .slice none 0 0, .slice none 0 0, .slice none 0 0] 55))) := (Below.refl _ _).alloc (Nat.le_refl _) _
  have HS : Hid ((w.alloc (.cells #[.int .i64 0, .int .i64 0, .int .i64 0, .string ⟨#[]⟩, .int .i64 0, .int .i64 0, .int .i64 0, .int .i64 0, .int .i64 0, .slice none 0 0, .int .i64 0, .int .i64 0, .int .i64 0, .string ⟨#[]⟩, .int .i64 0, .bool false, .int .i64 0, .int .i64 0, .int .i64 0, .int .i64 0, .slice none 0 0, .int .i64 0, .int .i64 0, .int .i64 0, .slice none 0 0, .slice none 0 0, .slice none 0 0, .slice none 0 0, .int .i64 0, .int .u64 0, .int .i64 0, .int .i64 0, .int .i64 0, .int .i64 0, .slice none 0 0, .slice none 0 0, .slice none 0 0, .slice none 0 0] 55)).heap.size = w.heap.size + 1) := by unfold Hid; simp
  have HL := Lib.hid (h.below HB.out)
  have l0 : (l.length : Int) ≤ (c : Int) := by omega
  have l1 : (c : Int) ≤ 9223372036854775807 := by omega
  clear h hlc hcm
  go_enter Tryz.func17, Tryz.ntmps17
  have hb0 := run_build0
  go_upto_region 1 with fail
  generalize w.alloc (.cells #[.int .i64 0, .int .i64 0, .int .i64 0, .string ⟨#[]⟩, .int .i64 0, .int .i64 0, .int .i64 0, .int .i64 0, .int .i64 0, .slice none 0 0, .int .i64 0, .int .i64 0, .int .i64 0, .string ⟨#[]⟩, .int .i64 0, .bool false, .int .i64 0, .int .i64 0, .int .i64 0, .int .i64 0, .slice none 0 0, .int .i64 0, .int .i64 0, .int .i64 0, .slice none 0 0, .slice none 0 0, .slice none 0 0, .slice none 0 0, .int .i64 0, .int .u64 0, .int .i64 0, .int .i64 0, .int .i64 0, .int .i64 0, .slice none 0 0, .slice none 0 0, .slice none 0 0, .slice none 0 0] 55) = wA at HR HB HS HL ⊢
  by_cases h4 : l.length < 4
  · have i4 : (l.length : Int) < 4 := by omega
    as_aux_lemma =>
      have HD : Hid (decRes l = (.zero, 0, 11)) := by unfold Hid decRes; rw [if_pos h4]
      go_wp2_with (refine row_store rfl _ _ rfl w.heap.size rfl (kc 0) (kc 0) rfl HR.out.1 rfl rowT_ent (kc_one 0) ?_; intro w9 e9 h9)
      exact ret_row3 rfl _ _ _ _ e9 rowT_ent rfl rfl rfl rfl (DecIs.err 11 HD.out (HB.out.trans (h9.below (Nat.le_refl _))))
  have i4 : (4 : Int) ≤ (l.length : Int) := by omega
  have i5 : (4 : Int) ≤ (c : Int) := by omega
  have HL4 := Lib.hid (HL.out.take 4 (by omega))
  have HK4 : Hid ((l.take 4).length ≤ 8) := by unfold Hid; rw [List.length_take]; omega
  have hn4 := num_lt (l.take 4)
  rw [show (l.take 4).length = 4 by rw [List.length_take]; omega, pow4] at hn4
  have H4 := Lib.hid h4
  clear h4
  go_wp2_with fail
  refine (get_any w.heap.size _ (l.take 4) wA HL4.out HK4.out).mono ?_
  rintro e w2 ⟨rfl, rfl⟩
  obtain ⟨N, hN⟩ : ∃ N, N = num (l.take 4) := ⟨_, rfl⟩
  rw [← hN] at hn4 ⊢
  have HN := Lib.hid hN
  have n0 : (N : Int) < 4294967296 := by omega
  clear hN HL4 HK4 hn4
  as_aux_lemma =>
    by_cases hlim : 1048576 < N + 8
    · have i6 : (1048576 : Int) < (N : Int) + 8 := by omega
      as_aux_lemma =>
        have HD : Hid (decRes l = (.zero, 0, 2)) := by unfold Hid decRes; rw [if_neg H4.out, ← HN.out, if_pos hlim]
        go_wp2_with (refine row_store rfl _ _ rfl w.heap.size rfl (kc 0) (kc 0) rfl HR.out.1 rfl rowT_ent (kc_one 0) ?_; intro w9 e9 h9)
        exact ret_row3 rfl _ _ _ _ e9 rowT_ent rfl rfl rfl rfl (DecIs.err 2 HD.out (HB.out.trans (h9.below (Nat.le_refl _))))
    have i6 : decide ((1048576 : Int) < (N : Int) + 8) = false := decide_eq_false (by omega)
    by_cases hsh : l.length < N + 8
    · have i7 : (l.length : Int) < (N : Int) + 8 := by omega
      as_aux_lemma =>
        have HD : Hid (decRes l = (.zero, 0, 11)) := by unfold Hid decRes; rw [if_neg H4.out, ← HN.out, if_neg hlim, if_pos hsh]
        go_wp2_with (refine row_store rfl _ _ rfl w.heap.size rfl (kc 0) (kc 0) rfl HR.out.1 rfl rowT_ent (kc_one 0) ?_; intro w9 e9 h9)
        exact ret_row3 rfl _ _ _ _ e9 rowT_ent rfl rfl rfl rfl (DecIs.err 11 HD.out (HB.out.trans (h9.below (Nat.le_refl _))))
    have i7 : decide ((l.length : Int) < (N : Int) + 8) = false := decide_eq_false (by omega)
    have I7 : Hid ((N : Int) + 8 ≤ (l.length : Int)) := by unfold Hid; omega
    have HLim := Lib.hid hlim
    have HSh := Lib.hid hsh
    have n2 : (N : Int) ≤ 1048568 := by omega
    clear hlim hsh n0
    go_wp2_with fail
    as_aux_lemma =>
      obtain ⟨M, hM⟩ : ∃ M, M = N + 4 := ⟨_, rfl⟩
      obtain ⟨Z, hZ⟩ : ∃ Z, Z = N + 8 := ⟨_, rfl⟩
      have I7' := I7.out
      rw [show (N : Int) + 8 - 4 = (M : Int) by omega, show (N : Int) + 8 = (Z : Int) by omega]
      have m0 : (M : Int) ≤ (Z : Int) := by omega
      have m1 : (Z : Int) ≤ (c : Int) := by omega
      have m2 : (M : Int) ≤ (c : Int) := by omega
      have m3 : (M : Int) < (c : Int) := by omega
      have m4 : (0 : Int) ≤ (M : Int) := by omega
      have m5 : (0 : Int) ≤ (Z : Int) := by omega
      have m6 : ¬ c = M := by omega
      have HMc : Hid (M ≤ l.length ∧ Z ≤ l.length ∧ M ≤ 1048572 ∧ Z = M + 4 ∧ (l.take Z).length = Z ∧ M < c) := ⟨by omega, by omega, by omega, by omega, by rw [List.length_take]; omega, by omega⟩
      have HM := Lib.hid hM
      have HZ := Lib.hid hZ
      have HBe := Lib.hid (HL.out.take M HMc.out.1)
      have HBs0 := Lib.hid (HL.out.take Z HMc.out.2.1)
      have HBs : Hid (BytesL wA w.heap.size (.slice (Option.map (fun x => x.add M) a) (Z - M) (c - M)) ((l.take Z).drop M)) := by
        have := HBs0.out.drop (a2 := Option.map (fun x => x.add M) a) M (by rw [HMc.out.2.2.2.2.1]; omega) (fun _ ab ao e => by rw [e]; simp [Addr.add_mid])
        rw [HMc.out.2.2.2.2.1] at this
        exact this
      have HKs : Hid (((l.take Z).drop M).length ≤ 8) := by unfold Hid; rw [List.length_drop, HMc.out.2.2.2.2.1]; omega
      obtain ⟨C, hC⟩ : ∃ C, C = chk (l.take M) := ⟨_, rfl⟩
      obtain ⟨D, hD⟩ : ∃ D, D = num ((l.take Z).drop M) := ⟨_, rfl⟩
      have HCd := Lib.hid hC
      have HDd := Lib.hid hD
      have hwC := wrap_u64_nat C (by rw [hC]; have := chk_lt (l.take M); omega)
      clear hM hZ I7' hC hD n2 i6 i7 I7
      refine wp_region_seqL (by kernel_rfl) (fun _ => True) 9 [(0, 0), (1, 0), (2, 0), (5, 0), (6, 0), (7, 0), (8, 0), (3, 2), (4, 0), (9, 2), (10, 0), (11, 0)] (by kernel_rfl) (trivial) ?_
      refine sl_q (d := some 31) rfl rfl rfl (.slice a l.length c) (fun w => rfl) ?_
      simp only [Act.put, List.setIfInBounds_toArray, List.set_cons_zero, List.set_cons_succ]
      refine sl_q (d := some 32) rfl rfl rfl (.int .i64 (M : Nat)) (fun w => rfl) ?_
      simp only [Act.put, List.setIfInBounds_toArray, List.set_cons_zero, List.set_cons_succ]
      refine sl_q (d := some 33) rfl rfl rfl (.slice a M c) (fun w => by simp [execOp, Act.eval, go_sem, m2, m4]) ?_
      simp only [Act.put, List.setIfInBounds_toArray, List.set_cons_zero, List.set_cons_succ]
      refine sl_q (d := some 36) rfl rfl rfl (.slice a l.length c) (fun w => rfl) ?_
      simp only [Act.put, List.setIfInBounds_toArray, List.set_cons_zero, List.set_cons_succ]
      refine sl_q (d := some 37) rfl rfl rfl (.int .i64 (M : Nat)) (fun w => rfl) ?_
      simp only [Act.put, List.setIfInBounds_toArray, List.set_cons_zero, List.set_cons_succ]
      refine sl_q (d := some 38) rfl rfl rfl (.int .i64 (Z : Nat)) (fun w => rfl) ?_
      simp only [Act.put, List.setIfInBounds_toArray, List.set_cons_zero, List.set_cons_succ]
      refine sl_q (d := some 39) rfl rfl rfl (.slice (Option.map (fun x => x.add M) a) (Z - M) (c - M)) (fun w => by simp [execOp, Act.eval, go_sem, m0, m1, m2, m4, m6]) ?_
      simp only [Act.put, List.setIfInBounds_toArray, List.set_cons_zero, List.set_cons_succ]
      refine sl_call (d := some 34) rfl rfl rfl ⟨_, Tryz.func30, by kernel_rfl, by kernel_rfl⟩ _ _ _ rfl rfl [.slice a M c] rfl (checksum_any _ (l.take M) wA.drew (HBe.out.r.below (Below.refl _ _).drew) (by rw [List.length_take]; have := HMc.out; omega)) ?_
      rintro e w5 ⟨rfl, rfl⟩
      refine ⟨_, rfl, (fun _ => trivial), ?_⟩
      rw [← HCd.out]
      simp only [Act.put, List.setIfInBounds_toArray, List.set_cons_zero, List.set_cons_succ]
      refine sl_q (d := some 35) rfl rfl rfl (.int .u64 (C : Nat)) (fun w => by simp [execOp, Act.eval, go_sem, hwC]) ?_
      simp only [Act.put, List.setIfInBounds_toArray, List.set_cons_zero, List.set_cons_succ]
      refine sl_call (d := some 40) rfl rfl rfl ⟨_, Tryz.func31, by kernel_rfl, by kernel_rfl⟩ _ _ _ rfl rfl [.slice (Option.map (fun x => x.add M) a) (Z - M) (c - M)] rfl (get_any w.heap.size _ ((l.take Z).drop M) wA.drew (HBs.out.below (Below.refl _ _).drew) HKs.out) ?_
      rintro e w5 ⟨rfl, rfl⟩
      refine ⟨_, rfl, (fun h => by cases h), ?_⟩
      rw [← HDd.out]
      simp only [Act.put, List.setIfInBounds_toArray, List.set_cons_zero, List.set_cons_succ]
      refine sl_q (d := some 41) rfl rfl rfl (.bool ((C : Int) != (D : Int))) (fun w => by simp [execOp, Act.eval, go_sem]) ?_
      simp only [Act.put, List.setIfInBounds_toArray, List.set_cons_zero, List.set_cons_succ]
      refine sl_q (d := some 30) rfl rfl rfl (.bool ((C : Int) != (D : Int))) (fun w => rfl) ?_
      simp only [Act.put, List.setIfInBounds_toArray, List.set_cons_zero, List.set_cons_succ]
      refine sl_end ?_
      have HRd := Lib.hid HR.out.drew
      have HBd := Lib.hid HB.out.drew
      have HLd := Lib.hid (HL.out.below (Below.refl _ _).drew)
      have HSd : Hid (wA.drew.heap.size = w.heap.size + 1) := HS.out
      generalize wA.drew = wB at HRd HBd HLd HSd ⊢
      clear HR HB HL HS HBe HBs0 HBs HKs hwC m0 m1 m5 m6
      as_aux_lemma =>
        by_cases hCD : C = D
        rotate_left
        · have hne : ((C : Int) != (D : Int)) = true := by simpa using (by omega : ¬ (C : Int) = (D : Int))
          rw [hne]
          as_aux_lemma =>
            have HD : Hid (decRes l = (.zero, 0, 10)) := by unfold Hid decRes; rw [if_neg H4.out, ← HN.out, if_neg HLim.out, if_neg HSh.out, ← HM.out, ← HZ.out, ← HCd.out, ← HDd.out, if_pos hCD]
            go_wp2_with (refine row_store rfl _ _ rfl w.heap.size rfl (kc 0) (kc 0) rfl HRd.out.1 rfl rowT_ent (kc_one 0) ?_; intro w9 e9 h9)
            exact ret_row3 rfl _ _ _ _ e9 rowT_ent rfl rfl rfl rfl (DecIs.err 10 HD.out (HBd.out.trans (h9.below (Nat.le_refl _))))
        have hne : ((C : Int) != (D : Int)) = false := by simpa using (by omega : (C : Int) = (D : Int))
        rw [hne]
        clear hne
        have HCD := Lib.hid hCD
        by_cases hN0 : N = 0
        · have hM4 : ((M : Int) == 4) = true := by have := HM.out; simp; omega
          as_aux_lemma =>
            have HD : Hid (decRes l = (.zero, 0, 4)) := by unfold Hid decRes; rw [if_neg H4.out, ← HN.out, if_neg HLim.out, if_neg HSh.out, ← HM.out, ← HZ.out, ← HCd.out, ← HDd.out, if_neg (fun h => h HCD.out), if_pos hN0]
            go_wp2_with (refine row_store rfl _ _ rfl w.heap.size rfl (kc 0) (kc 0) rfl HRd.out.1 rfl rowT_ent (kc_one 0) ?_; intro w9 e9 h9)
            exact ret_row3 rfl _ _ _ _ e9 rowT_ent rfl rfl rfl rfl (DecIs.err 4 HD.out (HBd.out.trans (h9.below (Nat.le_refl _))))
        have hM4 : ((M : Int) == 4) = false := by have := HM.out; rw [beq_eq_false_iff_ne]; omega
        as_aux_lemma =>
          have HN0 := Lib.hid hN0
          have m7 : (5 : Int) ≤ (M : Int) := by have := HM.out; omega
          have m8 : ¬ c = 5 := by omega
          have m9 : (5 : Int) ≤ (c : Int) := by omega
          obtain ⟨ab, ao, ea, hab, hc4⟩ : ∃ ab ao : Nat, a = some ⟨ab, ao, none⟩ ∧ ab < w.heap.size ∧ wB.cell? ⟨ab, ao + 4, none⟩ = some (.int .u8 ((l.getD 4 0).toNat : Nat)) := by
            obtain ⟨a', c', e, _, _, q3⟩ := HLd.out
            obtain ⟨rfl, _⟩ : a = a' ∧ c = c' := by simpa using e
            have h4 : 4 < l.length := by have := HMc.out; have := HM.out; omega
            obtain ⟨ab, ao, e1, e2, e3⟩ := q3 4 h4
            exact ⟨ab, ao, e1, e2, by rw [e3]; simp [h4]⟩
          subst ea
          obtain ⟨Kn, hKn⟩ : ∃ Kn, Kn = (l.getD 4 0).toNat := ⟨_, rfl⟩
          have hK8 : (l.getD 4 0).toNat < 256 := (l.getD 4 0).toNat_lt
          rw [← hKn] at hc4 hK8
          have HKn := Lib.hid hKn
          have k0 : (Kn : Int) < 256 := by omega
          have m10 : (4 : Int) < (l.length : Int) := by have := HMc.out; have := HM.out; omega
          have hbK := run_buildK (Kn : Int)
          have HX : Hid (PAt (wB.alloc (.cells #[.int .i64 0, .int .i64 0, .int .i64 0, .string ⟨#[]⟩, .int .i64 0, .int .i64 0, .int .i64 0, .int .i64 0, .int .i64 0, .slice none 0 0, .int .i64 0, .int .i64 0, .int .i64 0, .string ⟨#[]⟩, .int .i64 0, .bool false, .int .i64 0, .int .i64 0, .int .i64 0, .int .i64 0, .slice none 0 0, .int .i64 0, .int .i64 0, .int .i64 0, .slice none 0 0, .slice none 0 0, .slice none 0 0, .slice none 0 0, .int .i64 0, .int .u64 0, .int .i64 0, .int .i64 0, .int .i64 0, .int .i64 0, .slice none 0 0, .slice none 0 0, .slice none 0 0, .slice none 0 0] 55)) wB.heap.size (kc 0)) := PAt.new wB (kc 0) (by rw [kc_length]; decide) _ (by decide) rfl
          have HBl : Hid (Below wB.heap.size wB (wB.alloc (.cells #[.int .i64 0, .int .i64 0, .int .i64 0, .string ⟨#[]⟩, .int .i64 0, .int .i64 0, .int .i64 0, .int .i64 0, .int .i64 0, .slice none 0 0, .int .i64 0, .int .i64 0, .int .i64 0, .string ⟨#[]⟩, .int .i64 0, .bool false, .int .i64 0, .int .i64 0, .int .i64 0, .int .i64 0, .slice none 0 0, .int .i64 0, .int .i64 0, .int .i64 0, .slice none 0 0, .slice none 0 0, .slice none 0 0, .slice none 0 0, .int .i64 0, .int .u64 0, .int .i64 0, .int .i64 0, .int .i64 0, .int .i64 0, .slice none 0 0, .slice none 0 0, .slice none 0 0, .slice none 0 0] 55))) := (Below.refl _ _).alloc (Nat.le_refl _) _
          have HSl : Hid ((wB.alloc (.cells #[.int .i64 0, .int .i64 0, .int .i64 0, .string ⟨#[]⟩, .int .i64 0, .int .i64 0, .int .i64 0, .int .i64 0, .int .i64 0, .slice none 0 0, .int .i64 0, .int .i64 0, .int .i64 0, .string ⟨#[]⟩, .int .i64 0, .bool false, .int .i64 0, .int .i64 0, .int .i64 0, .int .i64 0, .slice none 0 0, .int .i64 0, .int .i64 0, .int .i64 0, .slice none 0 0, .slice none 0 0, .slice none 0 0, .slice none 0 0, .int .i64 0, .int .u64 0, .int .i64 0, .int .i64 0, .int .i64 0, .int .i64 0, .slice none 0 0, .slice none 0 0, .slice none 0 0, .slice none 0 0] 55)).heap.size = wB.heap.size + 1) := by unfold Hid; simp
          have HI : Hid (I64 (Kn : Int)) := by unfold Hid I64; omega
          clear hKn hN0 hCD hK8
          go_upto_region 14 with (refine pat_store rfl _ _ rfl wB.heap.size rfl (kc 0) (kc (Kn : Int)) rfl HX.out rfl rowT_ent (kc_one _) ?_; intro wC eC hC)
          have HXc := Lib.hid eC
          have HBc : Hid (Below wB.heap.size wB wC) := HBl.out.trans (hC.below (Nat.le_refl _))
          have HSc : Hid (wC.heap.size = wB.heap.size + 1) := by unfold Hid; rw [hC.2.2.2.1]; exact HSl.out
          clear eC hC HX HBl HSl hc4
          simp only [Act.put]
          as_aux_lemma =>
            have HRc := Lib.hid (HRd.out.below HBc.out)
            have HBw := Lib.hid (HBd.out.trans (HBc.out.mono HBd.out.size))
            have HLc := Lib.hid (HLd.out.below (HBc.out.mono HBd.out.size))
            have HB5 : Hid (BytesL wC w.heap.size (.slice (some ⟨ab, ao + 5, none⟩) (M - 5) (c - 5)) ((l.take M).drop 5)) := by
              have hlM : (l.take M).length = M := by rw [List.length_take]; have := HMc.out; omega
              have := (HLc.out.take M HMc.out.1).drop (a2 := some ⟨ab, ao + 5, none⟩) 5 (by rw [hlM]; omega) (fun _ ab' ao' e => by
                obtain ⟨rfl, rfl⟩ : ab = ab' ∧ ao = ao' := by simpa using e
                rfl)
              rw [hlM] at this
              exact this
            clear HLd HLc HRd HBd hbK
            go_upto_region 15 with fail
            have HRe : Hid (PAt (wC.alloc (.cells #[.slice (some ⟨ab, ao + 5, none⟩) (M - 5) (c - 5), .bool false] 92)) wC.heap.size [.slice (some ⟨ab, ao + 5, none⟩) (M - 5) (c - 5), .bool false]) := PAt.new wC [.slice (some ⟨ab, ao + 5, none⟩) (M - 5) (c - 5), .bool false] (by simp) _ (by decide) rfl
            have hal : Below wC.heap.size wC (wC.alloc (.cells #[.slice (some ⟨ab, ao + 5, none⟩) (M - 5) (c - 5), .bool false] 92)) := (Below.refl _ _).alloc (Nat.le_refl _) _
            generalize wC.alloc (.cells #[.slice (some ⟨ab, ao + 5, none⟩) (M - 5) (c - 5), .bool false] 92) = wD at HRe hal ⊢
            have HXd := Lib.hid (HXc.out.below hal)
            have HRdd := Lib.hid (HRc.out.below hal)
            have HBdd := Lib.hid (HBw.out.trans (hal.mono HBw.out.size))
            have HB5d := Lib.hid (HB5.out.below (hal.mono HBw.out.size))
            have HXlt : Hid (w.heap.size < wB.heap.size ∧ wB.heap.size < wC.heap.size) := by have := HSd.out; have := HSc.out; unfold Hid; omega
            obtain ⟨X, hX⟩ : ∃ X, X = wB.heap.size := ⟨_, rfl⟩
            obtain ⟨b, hb⟩ : ∃ b, b = wC.heap.size := ⟨_, rfl⟩
            rw [← hX] at HXd HXlt ⊢
            rw [← hb] at HRe HXlt ⊢
            have HWk := Lib.hid (walk_any (k := rk) ⟨w.heap.size, b, 90, ReSt w.heap.size b⟩ (re_ok w.heap.size b) (some ((l.take M).drop 5)) { Ent.zero with kind := (Kn : Int) } wD X (kc (Kn : Int)) (fun _ => False)
              ⟨by have := HXlt.out; omega, by rw [List.length_drop, List.length_take]; have := HMc.out; omega, _, HRe.out, HB5d.out⟩ (by have := HXlt.out; show w.heap.size ≤ X; omega) (by have := HXlt.out; show X ≠ b; omega) HXd.out (kc_rep _ _ _ HI.out) (fun _ h => h.elim) (fun _ _ => Nat.zero_le _))
            have HEn := Lib.hid (rk_ent (Kn : Int))
            clear hal hX hb HXc HRc HBw HB5 HB5d HBc HSc HSd
            as_aux_lemma =>
              go_wp2_with fail
              refine HWk.out.mono ?_
              rintro e w2 hwk
              clear HWk
              cases hq : rk.ent (some ((l.take M).drop 5)) { Ent.zero with kind := (Kn : Int) } with
              | none =>
                rw [hq] at hwk
                obtain ⟨rfl, hws⟩ := hwk
                have HK := Lib.hid ((HEn.out.1 _).1 hq)
                have HR2 : Hid (PAt w2 w.heap.size (kc 0)) := HRdd.out.keeps hws.fr.keeps ⟨by have := HXlt.out; show w.heap.size ≠ b; omega, by have := HXlt.out; omega⟩
                have HB2 := Lib.hid (HBdd.out.trans hws.fr.below)
                clear hws hq
                as_aux_lemma =>
                  have HD : Hid (decRes l = (.zero, 0, 4)) := by unfold Hid decRes; rw [if_neg H4.out, ← HN.out, if_neg HLim.out, if_neg HSh.out, ← HM.out, ← HZ.out, ← HCd.out, ← HDd.out, if_neg (fun h => h HCD.out), if_neg HN0.out, ← HKn.out, if_pos HK.out]
                  go_wp2_with (refine row_store rfl _ _ rfl w.heap.size rfl (kc 0) (kc 0) rfl HR2.out.1 rfl rowT_ent (kc_one 0) ?_; intro w9 e9 h9)
                  exact ret_row3 rfl _ _ _ _ e9 rowT_ent rfl rfl rfl rfl (DecIs.err 4 HD.out (HB2.out.trans (h9.below (Nat.le_refl _))))
              | some q =>
                rw [hq] at hwk
                obtain ⟨rfl, es, hws, hrep⟩ := hwk
                have HKk : Hid (1 ≤ (Kn : Int) ∧ (Kn : Int) ≤ 4) := by
                  unfold Hid
                  by_cases h : 1 ≤ (Kn : Int) ∧ (Kn : Int) ≤ 4
                  · exact h
                  · rw [(HEn.out.1 _).2 h] at hq; cases hq
                have HP := Lib.hid (HEn.out.2 _ _ hq)
                have HR2 : Hid (PAt w2 w.heap.size (kc 0)) := HRdd.out.keeps hws.fr.keeps ⟨by have := HXlt.out; show w.heap.size ≠ b; omega, by have := HXlt.out; omega⟩
                have HB2 := Lib.hid (HBdd.out.trans hws.fr.below)
                have HX2 := Lib.hid hws.pa
                have HSt := Lib.hid hws.st
                have HRp := Lib.hid hrep
                have HSz := Lib.hid HRe.out.lt
                clear hws hq hrep HEn HRdd HBdd HXd HRe
                obtain ⟨q1, y⟩ := q
                cases q1 with
                | none =>
                  have HPn : Hid (pEnt (Kn : Int) ((l.take M).drop 5) = none) := by
                    unfold Hid
                    cases hp : pEnt (Kn : Int) ((l.take M).drop 5) with
                    | none => rfl
                    | some z => obtain ⟨z1, z2⟩ := z; have := HP.out.1 _ _ hp; cases this
                  obtain ⟨_, ra, rn, rc, hre⟩ := HSt.out
                  have c1 := hre.1.at 1 rfl
                  clear hre
                  as_aux_lemma =>
                    have HD : Hid (decRes l = (.zero, 0, 3)) := by unfold Hid decRes; rw [if_neg H4.out, ← HN.out, if_neg HLim.out, if_neg HSh.out, ← HM.out, ← HZ.out, ← HCd.out, ← HDd.out, if_neg (fun h => h HCD.out), if_neg HN0.out, ← HKn.out, if_neg (fun h => h HKk.out), HPn.out]
                    go_wp2_with (refine row_store rfl _ _ rfl w.heap.size rfl (kc 0) (kc 0) rfl HR2.out.1 rfl rowT_ent (kc_one 0) ?_; intro w9 e9 h9)
                    exact ret_row3 rfl _ _ _ _ e9 rowT_ent rfl rfl rfl rfl (DecIs.err 3 HD.out (HB2.out.trans (h9.below (Nat.le_refl _))))
                | some rest =>
                  obtain ⟨_, _, rv, hre, hby⟩ := HSt.out
                  obtain ⟨ra, rc, rfl⟩ := hby.slice
                  have c0 := hre.1.at 0 rfl
                  have c1 := hre.1.at 1 rfl
                  clear hre hby
                  have HPs : Hid (pEnt (Kn : Int) ((l.take M).drop 5) = some (y, rest)) := by
                    unfold Hid
                    cases hp : pEnt (Kn : Int) ((l.take M).drop 5) with
                    | none => have := HP.out.2 hp; cases this
                    | some z => obtain ⟨z1, z2⟩ := z; have := HP.out.1 _ _ hp; cases this; rfl
                  cases rest with
                  | cons r1 rs =>
                    have hr0 : (0 : Int) < ((r1 :: rs).length : Int) := by simp
                    generalize (r1 :: rs).length = rl at hr0 c0
                    as_aux_lemma =>
                      have HD : Hid (decRes l = (.zero, 0, 3)) := by unfold Hid decRes; rw [if_neg H4.out, ← HN.out, if_neg HLim.out, if_neg HSh.out, ← HM.out, ← HZ.out, ← HCd.out, ← HDd.out, if_neg (fun h => h HCD.out), if_neg HN0.out, ← HKn.out, if_neg (fun h => h HKk.out), HPs.out]
                      go_wp2_with (refine row_store rfl _ _ rfl w.heap.size rfl (kc 0) (kc 0) rfl HR2.out.1 rfl rowT_ent (kc_one 0) ?_; intro w9 e9 h9)
                      exact ret_row3 rfl _ _ _ _ e9 rowT_ent rfl rfl rfl rfl (DecIs.err 3 HD.out (HB2.out.trans (h9.below (Nat.le_refl _))))
                  | nil =>
                    have HD : Hid (decRes l = (y, Z, 0)) := by unfold Hid decRes; rw [if_neg H4.out, ← HN.out, if_neg HLim.out, if_neg HSh.out, ← HM.out, ← HZ.out, ← HCd.out, ← HDd.out, if_neg (fun h => h HCD.out), if_neg HN0.out, ← HKn.out, if_neg (fun h => h HKk.out), HPs.out]
                    have HEq : Hid (es.length = 38) := entE_ok.len HRp.out
                    have HOne := Lib.hid (entE_ok.one HRp.out)
                    have HFin : Hid (∀ w9, ApartR w.heap.size w2 w9 → DecIs l w (.returned (.tuple #[.agg es.toArray, .int .i64 (Z : Nat), .int .i64 0])) w9) := fun w9 h9 => by
                      refine ⟨es, by rw [HD.out], ?_, HB2.out.trans (h9.below (Nat.le_refl _))⟩
                      rw [HD.out]
                      have hx := HXlt.out
                      have hz := HSz.out
                      refine entE_ok.keep (entE_ok.weak HRp.out (av' := fun k => w.heap.size < k) ?_) ?_ |> fun h => entE_ok.weak h (fun k hk _ => Nat.le_of_lt hk)
                      · rintro k (h | h) _
                        · exact h.elim
                        · have : wD.heap.size ≤ k := h
                          omega
                      · intro k c t f _ _ hk
                        exact h9.2.2.2.2 k (by omega)
                    have hc0 : ¬ (0 : Int) < 0 := by omega
                    go_wp2_with (first
                      | (refine row_load rfl _ rfl X rfl es HX2.out.1 (by rw [HEq.out]; exact rowT_ent) ?_)
                      | (refine row_store rfl _ _ rfl w.heap.size rfl (kc 0) es rfl HR2.out.1 (by rw [HEq.out]; rfl) rowT_ent HOne.out ?_; intro w9 e9 h9))
                    exact ret_row3 rfl _ _ _ _ e9 (by rw [HEq.out]; exact rowT_ent) rfl rfl rfl rfl (HFin.out w9 h9)
end Go.Proofs.YtpknalpdcfjffaaGreat
/- The law's awake. -/
namespace Go.Proofs.YtpknalpdcfjffaaGreat
open Go Go.RowKit

theorem OwnB.bl {w : World} {base : Nat} {v : Value} {l : List UInt8} (h : OwnB w base v l) : BytesL w w.heap.size v l := by
  have h' := h
  obtain ⟨h1, h2⟩ := h
  rcases h2 with ⟨e, h0⟩ | ⟨g, cap, cur, e, hg, hh, hc, hm, hsz, htk⟩
  · obtain rfl := List.eq_nil_of_length_eq_zero h0
    exact ⟨none, 0, e, Nat.le_refl _, by omega, fun i hi => by simp at hi⟩
  · refine ⟨some ⟨g, 0, none⟩, cap, e, hc, by unfold maxLen at hm; omega, fun i hi => ⟨g, 0, rfl, (Array.getElem?_eq_some_iff.1 hh).1, ?_⟩⟩
    have := World.ownsRow.cells h' (g := g) (by rw [e]; rfl) i (.int .u8 (l[i].toNat : Nat)) (by simp [bcs, hi])
    rw [Go.WideShapes.add_plain] at this
    exact this
def awkE : Ent := { Ent.zero with kind := 1, now := 9 }
theorem awk_rep (av : Nat → Prop) (w : World) : entE.rep av w (entCells awkE nilV nilV nilV nilV nilV nilV nilV nilV nilV nilV) awkE := by
  have h := kc_P av w 1 (by unfold I64; omega)
  exact EntP.shut ⟨h.kind, show I64 9 by unfold I64; omega, h.rep, h.corr, h.arr, h.st, h.name, h.per, h.cyc⟩
theorem awk_ent : entB awkE = some (ints [9]) := rfl
theorem awk_enc : encRes awkE.kind (entB awkE) = (encB 1 (ints [9]), 0) := by rw [awk_ent]; exact encRes_some 1 _ (by rw [ints_length]; decide)
theorem awk_len : (encB 1 (ints [9])).length = 17 := by rw [encB_length, ints_length]; rfl
theorem awk_dec : decRes (encB 1 (ints [9])) = (awkE, 17, 0) := by
  have := dec_enc 1 awkE (ints [9]) [] ⟨show I64 9 by unfold I64; omega, rfl⟩ awk_ent (by rw [ints_length]; decide) (by omega)
  rw [List.append_nil] at this
  rw [this, ints_length]; rfl
theorem run_buildA (w : World) : (Instr.build 55 #[(0, .int .i64 1), (1, .int .i64 9)]).run Tryz.prog w = .ok (.agg (entCells awkE nilV nilV nilV nilV nilV nilV nilV nilV nilV nilV).toArray) w := by kernel_rfl
def AwkIs (w : World) (e : Ending) (w' : World) : Prop := e = .returned (.bool true) ∧ Below w.heap.size w w'
set_option maxHeartbeats 16000000 in
set_option maxRecDepth 100000 in
theorem awake_any (w : World) : Calls Tryz.prog 4 #[] w (AwkIs w) := by
  go_enter Tryz.func4, Tryz.ntmps4
  have hbA := run_buildA w
  go_wp2_with fail
  refine (encode_any awkE _ (fun _ => True) w (awk_rep _ _) (fun b hb => by rw [awk_ent] at hb; obtain rfl := Option.some.inj hb; rw [ints_length]; decide)).mono ?_
  rintro e w1 ⟨v1, rfl, ho, hb1⟩
  rw [awk_enc] at ho ⊢
  obtain ⟨a1, c1, rfl⟩ := ho.slice
  have HBl := Lib.hid ho.bl
  have HB1 := Lib.hid hb1
  rw [awk_len] at HBl ⊢
  clear ho hb1 hbA
  go_wp2_with fail
  refine (decode_any _ (encB 1 (ints [9])) w1 HBl.out).mono ?_
  rintro e w2 ⟨cs, rfl, hrep, hb2⟩
  rw [awk_dec] at hrep ⊢
  obtain ⟨uR, uB, u0, u1, u2, u3, u4, u5, u6, u7, rfl, hp⟩ := hrep
  have HO := Lib.hid (entE_ok.one (EntP.shut hp))
  have HB2 := Lib.hid (below_then HB1.out hb2)
  clear hp hb2 HB1 HBl
  go_wp2_with (first
    | (refine list_storeAgg rfl _ _ rfl w2.heap.size 0 rfl (entCells awkE uR uB u0 u1 u2 u3 u4 u5 u6 u7) rfl (by rw [sz_ent]; rfl) HO.out ((PAt.new w2 (kc 0) (by rw [kc_length]; decide) 55 (by decide) rfl).1.there (by rw [kc_length]; exact Nat.le_refl 38)) ?_
       intro w3 hw
       have hc : w3.cell? ⟨w2.heap.size, 1, none⟩ = some (.int .i64 9) := by
         rw [hw]
         exact ((PAt.new w2 (kc 0) (by rw [kc_length]; decide) 55 (by decide) rfl).setCells (entCells awkE uR uB u0 u1 u2 u3 u4 u5 u6 u7) rfl).1.at 1 rfl
       have HB3 : Hid (Below w.heap.size w w3) := by
         rw [hw]
         exact (HB2.out.alloc HB2.out.size _).trans ((apartR_setCells _ _ _ _).below HB2.out.size)
       clear hw)
    | fail)
  go_ret
  exact ⟨rfl, HB3.out⟩
end Go.Proofs.YtpknalpdcfjffaaGreat
/- slices.Clone of bytes, and store.Cut. -/
namespace Go.Proofs.YtpknalpdcfjffaaGreat
open Go Go.RowKit

theorem ownB_lit0 {w : World} {base : Nat} (hb : base ≤ w.heap.size) : OwnB (w.alloc (.cells #[] 5)) base (.slice (some ⟨w.heap.size, 0, none⟩) 0 0) [] :=
  ⟨rfl, Or.inr ⟨w.heap.size, 0, #[], rfl, hb, heap_alloc_new w _, Nat.le_refl 0, by decide, rfl, rfl⟩⟩
theorem eq_nil (w : World) (c : Nat) : (binOp .eql 22 (.slice none 0 c) (.slice none 0 0)).run Tryz.prog w = .ok (.bool true) w := by kernel_rfl
theorem eq_some (w : World) (A : Addr) (n c : Nat) : (binOp .eql 22 (.slice (some A) n c) (.slice none 0 0)).run Tryz.prog w = .ok (.bool false) w := by kernel_rfl
def CloneIs (l : List UInt8) (w : World) (e : Ending) (w' : World) : Prop := ∃ v', e = .returned v' ∧ OwnB w' w.heap.size v' l ∧ Below w.heap.size w w'
set_option maxHeartbeats 16000000 in
set_option maxRecDepth 100000 in
theorem clone_any (v : Value) (l : List UInt8) (w : World) (h : BytesL w w.heap.size v l) (hm : l.length ≤ 150000000000000) : Calls Tryz.prog 24 #[v] w (CloneIs l w) := by
  obtain ⟨a, c, rfl⟩ := h.slice
  cases a with
  | none =>
    have hl : l = [] := by
      obtain ⟨a', c', e, _, _, h3⟩ := h
      cases l with
      | nil => rfl
      | cons x r =>
        obtain ⟨ab, ao, ea, _⟩ := h3 0 (by simp)
        subst ea
        simp at e
    subst hl
    clear h hm
    have hq := eq_nil w c
    go_enter Tryz.func24, Tryz.ntmps24
    go_wp2_with fail
    go_ret
    exact ⟨_, rfl, World.ownsRow_nil _ _ _ _, Below.refl _ _⟩
  | some A =>
    have hB : Below w.heap.size w (w.alloc (.cells #[] 5)) := (Below.refl _ _).alloc (Nat.le_refl _) _
    obtain ⟨v2, w2, hrun, ho, hb⟩ := append_bl (ownB_lit0 (Nat.le_refl w.heap.size)) (h.below hB) (by simp) hm hB.size 22
    rw [List.nil_append] at ho
    have HRun := Lib.hid hrun
    have HO := Lib.hid ho
    have HB := Lib.hid (hB.trans hb)
    clear h hm hB hrun ho hb
    have hq := eq_some w A l.length c
    go_enter Tryz.func24, Tryz.ntmps24
    go_wp2_with (first
      | (at_builtin; refine wpList_append_run rfl _ _ _ rfl _ _ _ _ rfl rfl HRun.out ?_; clear HRun)
      | fail)
    go_ret
    exact ⟨_, rfl, HO.out, HB.out⟩
def CutIs (l : List UInt8) (n : Int) (w : World) (e : Ending) (w' : World) : Prop := CloneIs (l.take (l.length - (min (max n 0) l.length).toNat)) w e w'
set_option maxHeartbeats 16000000 in
set_option maxRecDepth 100000 in
theorem cut_any (v : Value) (l : List UInt8) (n : Int) (hn : I64 n) (w : World) (h : BytesL w w.heap.size v l) (hm : l.length ≤ 150000000000000) : Calls Tryz.prog 10 #[v, .int .i64 n] w (CutIs l n w) := by
  obtain ⟨a, c, rfl⟩ := h.slice
  have HL := Lib.hid h
  have hlc : l.length ≤ c := by
    obtain ⟨a', c', e, h1, _⟩ := h
    obtain ⟨_, rfl⟩ : a = a' ∧ c = c' := by simpa using e
    exact h1
  have m0 : (l.length : Int) ≤ 150000000000000 := by omega
  have m1 : (l.length : Int) ≤ (c : Int) := by omega
  have HM := Lib.hid hm
  clear h hm
  unfold I64 at hn
  have fin : ∀ K : Nat, K = l.length - (min (max n 0) l.length).toNat → Hid (Calls Tryz.prog 24 #[.slice a K c] w (CutIs l n w)) := fun K hK => by
    subst hK
    exact clone_any _ _ w (HL.out.take _ (by omega)) (by rw [List.length_take]; have := HM.out; omega)
  have HF := Lib.hid fin
  clear fin
  by_cases h0 : n < 0
  · have H := HF.out l.length (by omega)
    clear HF
    go_enter Tryz.func10, Tryz.ntmps10
    go_wp2_with fail
    refine H.out.mono ?_
    rintro e w2 ⟨v2, rfl, ho, hb⟩
    have HO := Lib.hid ho
    have HB := Lib.hid hb
    clear ho hb
    go_wp2_with fail
    go_ret
    exact ⟨_, rfl, HO.out, HB.out⟩
  · obtain ⟨k, rfl⟩ := Int.eq_ofNat_of_zero_le (show 0 ≤ n by omega)
    by_cases h1 : k ≤ l.length
    · have h1' : (k : Int) ≤ (l.length : Int) := by omega
      have H := HF.out (l.length - k) (by omega)
      clear HF
      have hs : ((l.length : Int) - (k : Int)).toNat = l.length - k := by omega
      go_enter Tryz.func10, Tryz.ntmps10
      go_wp2_with fail
      refine H.out.mono ?_
      rintro e w2 ⟨v2, rfl, ho, hb⟩
      have HO := Lib.hid ho
      have HB := Lib.hid hb
      clear ho hb
      go_wp2_with fail
      go_ret
      exact ⟨_, rfl, HO.out, HB.out⟩
    · have h1' : (l.length : Int) < (k : Int) := by omega
      have H := HF.out 0 (by omega)
      clear HF
      go_enter Tryz.func10, Tryz.ntmps10
      go_wp2_with fail
      refine H.out.mono ?_
      rintro e w2 ⟨v2, rfl, ho, hb⟩
      have HO := Lib.hid ho
      have HB := Lib.hid hb
      clear ho hb
      go_wp2_with fail
      go_ret
      exact ⟨_, rfl, HO.out, HB.out⟩
end Go.Proofs.YtpknalpdcfjffaaGreat
