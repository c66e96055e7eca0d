/- Part 5 of the proof: laws on memory and what functions of the program return. No conditions but those that each theorem names. -/
import Derived.Test.YtmmmebdgannpgaaGreatDoorR04
set_option linter.unusedVariables false
set_option linter.unusedSimpArgs false
/- Texts of cycles, of the monitor and of its reference. Printed by gen_txtb.py. -/
namespace Go.Proofs.YtmmmebdgannpgaaGreatDoor
open Go Go.RowKit

/-- The text of a cycle. -/
noncomputable def cycT (num tm cut : Int) (rn : Nat) (rnd rad : Int) (l : List Int) : List UInt8 := wordsOf (wordsOf (wordsOf (wordsOf (wordsOf (wordsOf [] [[99, 121, 99, 108, 101], Lib.itoa num]) [[97, 116], momT tm, [99, 117, 116, 111, 102, 102], momT cut]) [[114, 101, 112, 111, 114, 116, 115], Lib.itoa (rn : Int)]) [[114, 111, 117, 110, 100, 115], Lib.itoa rnd]) [[114, 97, 100, 105, 117, 115], Lib.itoa rad]) [[109, 97, 115, 115], Lib.itoa (massOf l)]
theorem wl {a : List UInt8} {ss : List (List UInt8)} {n : Nat} (h : a.length + (ss.map (fun s => s.length + 1)).sum ≤ n) : (wordsOf a ss).length ≤ n := Nat.le_trans (wordsOf_len _ _) h
theorem row_loadM {t : TypeId} {w : World} {b : Nat} {cs : List Value} (h : RowAt w b cs) (o : Nat) (es : List Value) (hes : ∀ j, j < es.length → cs[o + j]? = es[j]?) (ht : RowT t es.length) {op : Oper} {a : Act} (x : Operand) (ho : op.op = .load t x) (hx : a.eval x = .pointer (some ⟨b, o, none⟩)) : (execOp a.eval op).run Tryz.prog w = .ok (.value (.agg es.toArray)) w := by
  obtain ⟨h0, d, h1, h2⟩ := ht
  have hr : w.rangeAt b o es := fun j v hj => h.at (o + j) (by rw [hes j (List.getElem?_eq_some_iff.1 hj).1]; exact hj)
  have := run_loadVar_mid w b o _ es d hr h1 h2 h0
  unfold execOp
  simp only [ho, hx, Instr.loadAt, Instr.sureAddr, Sem.run_bind, Sem.run_pure, Result.andThen_ok, this]
theorem rowT_state : RowT 41 3 := ⟨by kernel_rfl, _, Tryz.underlying41, rfl⟩
theorem cycT_ne (num tm cut : Int) (rn : Nat) (rnd rad : Int) (l : List Int) : cycT num tm cut rn rnd rad l ≠ [] := by
  have h0 : wordsOf [] [[99, 121, 99, 108, 101], Lib.itoa num] ≠ [] := by rw [wordsOf]; rw [if_pos rfl, wordsOf_app _ _ (by simp)]; simp
  have ha : ∀ (a : List UInt8) (ss : List (List UInt8)), a ≠ [] → wordsOf a ss ≠ [] := fun a ss h => by rw [wordsOf_app _ _ h]; simp [h]
  unfold cycT
  exact ha _ _ (ha _ _ (ha _ _ (ha _ _ (ha _ _ h0))))
theorem MassL.later {w w' : World} {v : Value} {l : List Int} (h : MassL w.heap.size w v l) (hb : Below w.heap.size w w') : MassL w'.heap.size w' v l := by
  refine ⟨?_, h.bnd, h.len⟩
  rcases h.ints.below hb with ⟨a, c, e, e2⟩ | ⟨b, off, cap, e, h1, h2, h3, h4⟩
  · exact .inl ⟨a, c, e, e2⟩
  · exact .inr ⟨b, off, cap, e, h1, h2, by have := hb.size; omega, h4⟩
set_option maxHeartbeats 8000000 in
set_option maxRecDepth 100000 in
theorem cycle_any (num tm cut rad rnd fr : Int) (ra da fa : Option Addr) (rn rc dn dc fn fc : Nat) (l : List Int) (hnum : I64 num) (hrad : I64 rad) (hrnd : I64 rnd) (hrn : rn ≤ 1000000) (w : World) (hT : Tab w) (hM : MassL w.heap.size w (.slice da dn dc) l) : Calls Tryz.prog 16 #[.agg #[.int .i64 num, .int .i64 tm, .int .i64 cut, .slice ra rn rc, .slice none 0 0, .slice none 0 0, .slice none 0 0, .int .i64 0, .int .u64 0, .int .i64 0, .int .i64 rad, .int .i64 rnd, .int .i64 fr, .slice da dn dc, .slice fa fn fc, .slice none 0 0, .slice none 0 0]] w fun e w' => e = .returned (strV (cycT num tm cut rn rnd rad l)) ∧ Below w.heap.size w w' := by
  have HS := Lib.hid (WrS.start w [.int .i64 num, .int .i64 tm, .int .i64 cut, .slice ra rn rc, .slice none 0 0, .slice none 0 0, .slice none 0 0, .int .i64 0, .int .u64 0, .int .i64 0, .int .i64 rad, .int .i64 rnd, .int .i64 fr, .slice da dn dc, .slice fa fn fc, .slice none 0 0, .slice none 0 0] 56 (by decide) (by simp) rfl)
  have HT := Lib.hid hT
  have HM := Lib.hid hM
  have HI : Hid (I64 num ∧ I64 rad ∧ I64 rnd ∧ I64 (rn : Int) ∧ I64 (massOf l)) := by
    have := hM.part l.length
    rw [List.take_length] at this
    exact ⟨hnum, hrad, hrnd, by unfold I64; omega, by unfold I64; omega⟩
  have HLn : Hid ((Lib.itoa num).length ≤ 21 ∧ (Lib.itoa (rn : Int)).length ≤ 21 ∧ (Lib.itoa rnd).length ≤ 21 ∧ (Lib.itoa rad).length ≤ 21 ∧ (Lib.itoa (massOf l)).length ≤ 21) := ⟨(itoa_len _ HI.out.1).2, (itoa_len _ HI.out.2.2.2.1).2, (itoa_len _ HI.out.2.2.1).2, (itoa_len _ HI.out.2.1).2, (itoa_len _ HI.out.2.2.2.2).2⟩
  have HE : Hid (wordsOf (wordsOf (wordsOf (wordsOf (wordsOf (wordsOf [] [[99, 121, 99, 108, 101], Lib.itoa num]) [[97, 116], momT tm, [99, 117, 116, 111, 102, 102], momT cut]) [[114, 101, 112, 111, 114, 116, 115], Lib.itoa (rn : Int)]) [[114, 111, 117, 110, 100, 115], Lib.itoa rnd]) [[114, 97, 100, 105, 117, 115], Lib.itoa rad]) [[109, 97, 115, 115], Lib.itoa (massOf l)] = cycT num tm cut rn rnd rad l) := rfl
  clear hT hM hnum hrad hrnd hrn
  go_enter Tryz.func16, Tryz.ntmps16
  go_wp2_with fail
  generalize hbk : w.heap.size + 1 = b at *
  generalize (w.alloc _).alloc _ = w1 at HS ⊢
  have HD0 := Lib.hid (HS.out.new (Below.refl w1.heap.size w1).drew)
  refine wp_region_seqL (by kernel_rfl) (fun w' => CivAt w w.heap.size [.int .i64 num, .int .i64 tm, .int .i64 cut, .slice ra rn rc, .slice none 0 0, .slice none 0 0, .slice none 0 0, .int .i64 0, .int .u64 0, .int .i64 0, .int .i64 rad, .int .i64 rnd, .int .i64 fr, .slice da dn dc, .slice fa fn fc, .slice none 0 0, .slice none 0 0] w') 11 [(0, 0), (1, 0), (2, 1), (4, 0), (5, 1), (7, 0), (8, 1), (3, 2), (6, 2), (9, 2), (10, 2), (11, 2)] (by kernel_rfl) (HD0.out.civ) ?_
  refine sl_q (d := some 6) rfl rfl rfl (.pointer (some ⟨b, 0, none⟩)) (fun w => rfl) ?_
  simp only [Act.put, List.setIfInBounds_toArray, List.set_cons_zero, List.set_cons_succ]
  refine sl_q (d := some 7) rfl rfl rfl (.pointer (some ⟨w.heap.size, 0, none⟩)) (fun w => by go_simp) ?_
  simp only [Act.put, List.setIfInBounds_toArray, List.set_cons_zero, List.set_cons_succ]
  refine sl_s (d := some 8) rfl rfl rfl (.int .i64 num) (fun w hw => by have h := hw.1.at 0 rfl; simp [execOp, Act.eval, go_sem, h]) ?_
  simp only [Act.put, List.setIfInBounds_toArray, List.set_cons_zero, List.set_cons_succ]
  refine sl_q (d := some 10) rfl rfl rfl (.pointer (some ⟨w.heap.size, 1, none⟩)) (fun w => by go_simp) ?_
  simp only [Act.put, List.setIfInBounds_toArray, List.set_cons_zero, List.set_cons_succ]
  refine sl_s (d := some 11) rfl rfl rfl (.int .i64 tm) (fun w hw => by have h := hw.1.at 1 rfl; simp [execOp, Act.eval, go_sem, h]) ?_
  simp only [Act.put, List.setIfInBounds_toArray, List.set_cons_zero, List.set_cons_succ]
  refine sl_q (d := some 13) rfl rfl rfl (.pointer (some ⟨w.heap.size, 2, none⟩)) (fun w => by go_simp) ?_
  simp only [Act.put, List.setIfInBounds_toArray, List.set_cons_zero, List.set_cons_succ]
  refine sl_s (d := some 14) rfl rfl rfl (.int .i64 cut) (fun w hw => by have h := hw.1.at 2 rfl; simp [execOp, Act.eval, go_sem, h]) ?_
  simp only [Act.put, List.setIfInBounds_toArray, List.set_cons_zero, List.set_cons_succ]
  refine sl_call (d := some 9) rfl rfl rfl ⟨_, Tryz.func41, by kernel_rfl, by kernel_rfl⟩ _ _ _ rfl rfl [.pointer (some ⟨b, 0, none⟩), strV [99, 121, 99, 108, 101], .int .i64 (num)] rfl (number_any w.heap.size b ([]) [99, 121, 99, 108, 101] (num) w1.drew HD0.out.isb HD0.out.le (HD0.out.tab HT.out) HI.out.1 (by simp) (by simp)) ?_
  rintro e u1 ⟨rfl, hw⟩
  have HD1 := Lib.hid (HD0.out.wrote hw)
  refine ⟨_, rfl, fun _ => HD1.out.civ, ?_⟩
  clear hw HD0
  simp only [Act.put, List.setIfInBounds_toArray, List.set_cons_zero, List.set_cons_succ]
  refine sl_call (d := some 12) rfl rfl rfl ⟨_, Tryz.func35, by kernel_rfl, by kernel_rfl⟩ _ _ _ rfl rfl [.int .i64 tm] rfl (time_any tm u1) ?_
  rintro e u2 ⟨rfl, hmtm1, hmtm2, hb⟩
  have HD2 := Lib.hid (HD1.out.new hb)
  refine ⟨_, rfl, fun _ => HD2.out.civ, ?_⟩
  clear hb HD1
  simp only [Act.put, List.setIfInBounds_toArray, List.set_cons_zero, List.set_cons_succ]
  refine sl_call (d := some 15) rfl rfl rfl ⟨_, Tryz.func35, by kernel_rfl, by kernel_rfl⟩ _ _ _ rfl rfl [.int .i64 cut] rfl (time_any cut u2) ?_
  rintro e u3 ⟨rfl, hmcut1, hmcut2, hb⟩
  have HD3 := Lib.hid (HD2.out.new hb)
  refine ⟨_, rfl, fun _ => HD3.out.civ, ?_⟩
  clear hb HD2
  simp only [Act.put, List.setIfInBounds_toArray, List.set_cons_zero, List.set_cons_succ]
  obtain ⟨u4, hu4⟩ : ∃ x, x = u3.alloc (.cells #[strV ([97, 116]), strV (momT tm), strV ([99, 117, 116, 111, 102, 102]), strV (momT cut)] 9) := ⟨_, rfl⟩
  obtain ⟨g, hg⟩ : ∃ x, x = u3.heap.size := ⟨_, rfl⟩
  have hb : Below u3.heap.size u3 u4 := by rw [hu4]; exact (Below.refl _ _).alloc (Nat.le_refl _) _
  have HD4 := Lib.hid (HD3.out.new hb)
  have HLg : Hid (StrsAt u4 g [[97, 116], momT tm, [99, 117, 116, 111, 102, 102], momT cut]) := by unfold Hid; rw [hu4]; exact strs_lit _ [[97, 116], momT tm, [99, 117, 116, 111, 102, 102], momT cut] rfl hg.symm
  have HNeg : Hid (g ≠ b) := by have := HD3.out.lt; unfold Hid; omega
  refine sl_run (d := some 16) rfl rfl rfl (.slice (some ⟨g, 0, none⟩) 4 4) u4 (by rw [hu4, hg]; simp [execOp, Act.eval, go_sem, strV]) (fun _ => HD4.out.civ) ?_
  simp only [Act.put, List.setIfInBounds_toArray, List.set_cons_zero, List.set_cons_succ]
  clear hb HD3 hu4 hg
  refine sl_call (d := some 17) rfl rfl rfl ⟨_, Tryz.func42, by kernel_rfl, by kernel_rfl⟩ _ _ _ rfl rfl [.pointer (some ⟨b, 0, none⟩), .slice (some ⟨g, 0, none⟩) 4 4] rfl (words_any w.heap.size b g 4 4 (wordsOf ([]) [[99, 121, 99, 108, 101], Lib.itoa (num)]) [[97, 116], momT tm, [99, 117, 116, 111, 102, 102], momT cut] u4 HD4.out.isb HLg.out rfl HNeg.out (by have hT0 : (wordsOf [] [[99, 121, 99, 108, 101], Lib.itoa num]).length ≤ 100 := wl (by have := HLn.out.1; simp; omega); simp only [List.map_cons, List.map_nil, List.sum_cons, List.sum_nil, List.length_cons, List.length_nil]; omega) HD4.out.le) ?_
  rintro e u5 ⟨rfl, hw⟩
  have HDz := Lib.hid HD4.out
  refine ⟨_, rfl, (fun h => by cases h), ?_⟩
  simp only [Act.put, List.setIfInBounds_toArray, List.set_cons_zero, List.set_cons_succ]
  refine sl_end ?_
  have HD0 := Lib.hid ((HDz.out.wrote hw).new (Below.refl u5.heap.size u5).drew)
  clear hw HDz
  go_wp2_with fail
  have HSt : Hid (∀ j, j < ([.int .i64 fr, .slice da dn dc, .slice fa fn fc] : List Value).length → ([.int .i64 num, .int .i64 tm, .int .i64 cut, .slice ra rn rc, .slice none 0 0, .slice none 0 0, .slice none 0 0, .int .i64 0, .int .u64 0, .int .i64 0, .int .i64 rad, .int .i64 rnd, .int .i64 fr, .slice da dn dc, .slice fa fn fc, .slice none 0 0, .slice none 0 0] : List Value)[12 + j]? = ([.int .i64 fr, .slice da dn dc, .slice fa fn fc] : List Value)[j]?) := fun j hj => by
    simp only [List.length_cons, List.length_nil] at hj
    have hj3 : j = 0 ∨ j = 1 ∨ j = 2 := by omega
    rcases hj3 with rfl | rfl | rfl <;> rfl
  have HB0 : Hid ((wordsOf [] [[99, 121, 99, 108, 101], Lib.itoa num]).length ≤ 100) := wl (by have := HLn.out.1; simp; omega)
  have HB1 : Hid ((wordsOf (wordsOf [] [[99, 121, 99, 108, 101], Lib.itoa num]) [[97, 116], momT tm, [99, 117, 116, 111, 102, 102], momT cut]).length ≤ 200) := wl (by have := HB0.out; simp only [List.map_cons, List.map_nil, List.sum_cons, List.sum_nil, List.length_cons, List.length_nil]; omega)
  have HB2 : Hid ((wordsOf (wordsOf (wordsOf [] [[99, 121, 99, 108, 101], Lib.itoa num]) [[97, 116], momT tm, [99, 117, 116, 111, 102, 102], momT cut]) [[114, 101, 112, 111, 114, 116, 115], Lib.itoa (rn : Int)]).length ≤ 300) := wl (by have := HB1.out; have := HLn.out.2.1; simp only [List.map_cons, List.map_nil, List.sum_cons, List.sum_nil, List.length_cons, List.length_nil]; omega)
  have HB3 : Hid ((wordsOf (wordsOf (wordsOf (wordsOf [] [[99, 121, 99, 108, 101], Lib.itoa num]) [[97, 116], momT tm, [99, 117, 116, 111, 102, 102], momT cut]) [[114, 101, 112, 111, 114, 116, 115], Lib.itoa (rn : Int)]) [[114, 111, 117, 110, 100, 115], Lib.itoa rnd]).length ≤ 400) := wl (by have := HB2.out; have := HLn.out.2.2.1; simp only [List.map_cons, List.map_nil, List.sum_cons, List.sum_nil, List.length_cons, List.length_nil]; omega)
  have HB4 : Hid ((wordsOf (wordsOf (wordsOf (wordsOf (wordsOf [] [[99, 121, 99, 108, 101], Lib.itoa num]) [[97, 116], momT tm, [99, 117, 116, 111, 102, 102], momT cut]) [[114, 101, 112, 111, 114, 116, 115], Lib.itoa (rn : Int)]) [[114, 111, 117, 110, 100, 115], Lib.itoa rnd]) [[114, 97, 100, 105, 117, 115], Lib.itoa rad]).length ≤ 500) := wl (by have := HB3.out; have := HLn.out.2.2.2.1; simp only [List.map_cons, List.map_nil, List.sum_cons, List.sum_nil, List.length_cons, List.length_nil]; omega)
  refine wp_region_seqL (by kernel_rfl) (fun w' => CivAt w w.heap.size [.int .i64 num, .int .i64 tm, .int .i64 cut, .slice ra rn rc, .slice none 0 0, .slice none 0 0, .slice none 0 0, .int .i64 0, .int .u64 0, .int .i64 0, .int .i64 rad, .int .i64 rnd, .int .i64 fr, .slice da dn dc, .slice fa fn fc, .slice none 0 0, .slice none 0 0] w') 20 [(0, 0), (1, 0), (2, 1), (3, 0), (5, 0), (6, 0), (7, 1), (9, 0), (10, 0), (11, 0), (12, 1), (14, 0), (15, 1), (4, 2), (8, 2), (13, 2), (16, 2), (17, 2), (18, 0), (19, 0), (20, 2), (21, 0)] (by kernel_rfl) (HD0.out.civ) ?_
  refine sl_q (d := some 18) rfl rfl rfl (.pointer (some ⟨b, 0, none⟩)) (fun w => rfl) ?_
  simp only [Act.put, List.setIfInBounds_toArray, List.set_cons_zero, List.set_cons_succ]
  refine sl_q (d := some 19) rfl rfl rfl (.pointer (some ⟨w.heap.size, 3, none⟩)) (fun w => by go_simp) ?_
  simp only [Act.put, List.setIfInBounds_toArray, List.set_cons_zero, List.set_cons_succ]
  refine sl_s (d := some 20) rfl rfl rfl (.slice ra rn rc) (fun w hw => by have h := hw.1.at 3 rfl; simp [execOp, Act.eval, go_sem, h]) ?_
  simp only [Act.put, List.setIfInBounds_toArray, List.set_cons_zero, List.set_cons_succ]
  refine sl_q (d := some 21) rfl rfl rfl (.int .i64 (rn : Nat)) (fun w => by simp [execOp, Act.eval, go_sem]) ?_
  simp only [Act.put, List.setIfInBounds_toArray, List.set_cons_zero, List.set_cons_succ]
  refine sl_q (d := some 23) rfl rfl rfl (.pointer (some ⟨w.heap.size, 4, none⟩)) (fun w => by go_simp) ?_
  simp only [Act.put, List.setIfInBounds_toArray, List.set_cons_zero, List.set_cons_succ]
  refine sl_q (d := some 24) rfl rfl rfl (.pointer (some ⟨w.heap.size, 11, none⟩)) (fun w => by go_simp) ?_
  simp only [Act.put, List.setIfInBounds_toArray, List.set_cons_zero, List.set_cons_succ]
  refine sl_s (d := some 25) rfl rfl rfl (.int .i64 rnd) (fun w hw => by have h := hw.1.at 11 rfl; simp [execOp, Act.eval, go_sem, h]) ?_
  simp only [Act.put, List.setIfInBounds_toArray, List.set_cons_zero, List.set_cons_succ]
  refine sl_q (d := some 27) rfl rfl rfl (.pointer (some ⟨w.heap.size, 4, none⟩)) (fun w => by go_simp) ?_
  simp only [Act.put, List.setIfInBounds_toArray, List.set_cons_zero, List.set_cons_succ]
  refine sl_q (d := some 28) rfl rfl rfl (.pointer (some ⟨w.heap.size, 7, none⟩)) (fun w => by go_simp) ?_
  simp only [Act.put, List.setIfInBounds_toArray, List.set_cons_zero, List.set_cons_succ]
  refine sl_q (d := some 29) rfl rfl rfl (.pointer (some ⟨w.heap.size, 10, none⟩)) (fun w => by go_simp) ?_
  simp only [Act.put, List.setIfInBounds_toArray, List.set_cons_zero, List.set_cons_succ]
  refine sl_s (d := some 30) rfl rfl rfl (.int .i64 rad) (fun w hw => by have h := hw.1.at 10 rfl; simp [execOp, Act.eval, go_sem, h]) ?_
  simp only [Act.put, List.setIfInBounds_toArray, List.set_cons_zero, List.set_cons_succ]
  refine sl_q (d := some 32) rfl rfl rfl (.pointer (some ⟨w.heap.size, 12, none⟩)) (fun w => by go_simp) ?_
  simp only [Act.put, List.setIfInBounds_toArray, List.set_cons_zero, List.set_cons_succ]
  refine sl_s (d := some 33) rfl rfl rfl (.agg #[.int .i64 fr, .slice da dn dc, .slice fa fn fc]) (fun w hw => row_loadM hw.1 12 [.int .i64 fr, .slice da dn dc, .slice fa fn fc] HSt.out rowT_state _ rfl rfl) ?_
  simp only [Act.put, List.setIfInBounds_toArray, List.set_cons_zero, List.set_cons_succ]
  refine sl_call (d := some 22) rfl rfl rfl ⟨_, Tryz.func41, by kernel_rfl, by kernel_rfl⟩ _ _ _ rfl rfl [.pointer (some ⟨b, 0, none⟩), strV [114, 101, 112, 111, 114, 116, 115], .int .i64 ((rn : Nat))] rfl (number_any w.heap.size b (wordsOf (wordsOf [] [[99, 121, 99, 108, 101], Lib.itoa num]) [[97, 116], momT tm, [99, 117, 116, 111, 102, 102], momT cut]) [114, 101, 112, 111, 114, 116, 115] ((rn : Nat)) u5.drew HD0.out.isb HD0.out.le (HD0.out.tab HT.out) HI.out.2.2.2.1 (by have := HB1.out; omega) (by simp)) ?_
  rintro e v1 ⟨rfl, hw⟩
  have HF1 := Lib.hid (HD0.out.wrote hw)
  refine ⟨_, rfl, fun _ => HF1.out.civ, ?_⟩
  clear hw HD0
  simp only [Act.put, List.setIfInBounds_toArray, List.set_cons_zero, List.set_cons_succ]
  refine sl_call (d := some 26) rfl rfl rfl ⟨_, Tryz.func41, by kernel_rfl, by kernel_rfl⟩ _ _ _ rfl rfl [.pointer (some ⟨b, 0, none⟩), strV [114, 111, 117, 110, 100, 115], .int .i64 (rnd)] rfl (number_any w.heap.size b (wordsOf (wordsOf (wordsOf [] [[99, 121, 99, 108, 101], Lib.itoa num]) [[97, 116], momT tm, [99, 117, 116, 111, 102, 102], momT cut]) [[114, 101, 112, 111, 114, 116, 115], Lib.itoa ((rn : Nat))]) [114, 111, 117, 110, 100, 115] (rnd) v1 HF1.out.isb HF1.out.le (HF1.out.tab HT.out) HI.out.2.2.1 (by have := HB2.out; omega) (by simp)) ?_
  rintro e v2 ⟨rfl, hw⟩
  have HF2 := Lib.hid (HF1.out.wrote hw)
  refine ⟨_, rfl, fun _ => HF2.out.civ, ?_⟩
  clear hw HF1
  simp only [Act.put, List.setIfInBounds_toArray, List.set_cons_zero, List.set_cons_succ]
  refine sl_call (d := some 31) rfl rfl rfl ⟨_, Tryz.func41, by kernel_rfl, by kernel_rfl⟩ _ _ _ rfl rfl [.pointer (some ⟨b, 0, none⟩), strV [114, 97, 100, 105, 117, 115], .int .i64 (rad)] rfl (number_any w.heap.size b (wordsOf (wordsOf (wordsOf (wordsOf [] [[99, 121, 99, 108, 101], Lib.itoa num]) [[97, 116], momT tm, [99, 117, 116, 111, 102, 102], momT cut]) [[114, 101, 112, 111, 114, 116, 115], Lib.itoa ((rn : Nat))]) [[114, 111, 117, 110, 100, 115], Lib.itoa (rnd)]) [114, 97, 100, 105, 117, 115] (rad) v2 HF2.out.isb HF2.out.le (HF2.out.tab HT.out) HI.out.2.1 (by have := HB3.out; omega) (by simp)) ?_
  rintro e v3 ⟨rfl, hw⟩
  have HF3 := Lib.hid (HF2.out.wrote hw)
  refine ⟨_, rfl, fun _ => HF3.out.civ, ?_⟩
  clear hw HF2
  simp only [Act.put, List.setIfInBounds_toArray, List.set_cons_zero, List.set_cons_succ]
  refine sl_call (d := some 34) rfl rfl rfl ⟨_, Tryz.func43, by kernel_rfl, by kernel_rfl⟩ _ _ _ rfl rfl [.agg #[.int .i64 fr, .slice da dn dc, .slice fa fn fc]] rfl (mass_any fr da fa dn dc fn fc l v3 (HM.out.later HF3.out.bel)) ?_
  rintro e v4 ⟨rfl, hb⟩
  have HF4 := Lib.hid (HF3.out.new hb)
  refine ⟨_, rfl, fun _ => HF4.out.civ, ?_⟩
  clear hb HF3
  simp only [Act.put, List.setIfInBounds_toArray, List.set_cons_zero, List.set_cons_succ]
  refine sl_call (d := some 35) rfl rfl rfl ⟨_, Tryz.func41, by kernel_rfl, by kernel_rfl⟩ _ _ _ rfl rfl [.pointer (some ⟨b, 0, none⟩), strV [109, 97, 115, 115], .int .i64 (massOf l)] rfl (number_any w.heap.size b (wordsOf (wordsOf (wordsOf (wordsOf (wordsOf [] [[99, 121, 99, 108, 101], Lib.itoa num]) [[97, 116], momT tm, [99, 117, 116, 111, 102, 102], momT cut]) [[114, 101, 112, 111, 114, 116, 115], Lib.itoa ((rn : Nat))]) [[114, 111, 117, 110, 100, 115], Lib.itoa (rnd)]) [[114, 97, 100, 105, 117, 115], Lib.itoa (rad)]) [109, 97, 115, 115] (massOf l) v4 HF4.out.isb HF4.out.le (HF4.out.tab HT.out) HI.out.2.2.2.2 (by have := HB4.out; omega) (by simp)) ?_
  rintro e v5 ⟨rfl, hw⟩
  have HF5 := Lib.hid (HF4.out.wrote hw)
  refine ⟨_, rfl, fun _ => HF5.out.civ, ?_⟩
  clear hw HF4
  simp only [Act.put, List.setIfInBounds_toArray, List.set_cons_zero, List.set_cons_succ]
  refine sl_q (d := some 36) rfl rfl rfl (.pointer (some ⟨b, 0, none⟩)) (fun w => rfl) ?_
  simp only [Act.put, List.setIfInBounds_toArray, List.set_cons_zero, List.set_cons_succ]
  refine sl_q (d := some 37) rfl rfl rfl (.pointer (some ⟨b, 0, none⟩)) (fun w => by simp [execOp, Act.eval, go_sem]) ?_
  simp only [Act.put, List.setIfInBounds_toArray, List.set_cons_zero, List.set_cons_succ]
  refine sl_call (d := some 38) rfl rfl rfl ⟨_, Tryz.func44, by kernel_rfl, by kernel_rfl⟩ _ _ _ rfl rfl [.pointer (some ⟨b, 0, none⟩)] rfl (string_any w.heap.size b (wordsOf (wordsOf (wordsOf (wordsOf (wordsOf (wordsOf [] [[99, 121, 99, 108, 101], Lib.itoa num]) [[97, 116], momT tm, [99, 117, 116, 111, 102, 102], momT cut]) [[114, 101, 112, 111, 114, 116, 115], Lib.itoa ((rn : Nat))]) [[114, 111, 117, 110, 100, 115], Lib.itoa (rnd)]) [[114, 97, 100, 105, 117, 115], Lib.itoa (rad)]) [[109, 97, 115, 115], Lib.itoa (massOf l)]) v5 HF5.out.isb (by rw [HE.out]; exact cycT_ne _ _ _ _ _ _ _)) ?_
  rintro e v6 ⟨rfl, hb⟩
  have HDz := Lib.hid HF5.out
  refine ⟨_, rfl, (fun h => by cases h), ?_⟩
  simp only [Act.put, List.setIfInBounds_toArray, List.set_cons_zero, List.set_cons_succ]
  refine sl_q (d := some 2) rfl rfl rfl (.string ⟨(wordsOf (wordsOf (wordsOf (wordsOf (wordsOf (wordsOf [] [[99, 121, 99, 108, 101], Lib.itoa num]) [[97, 116], momT tm, [99, 117, 116, 111, 102, 102], momT cut]) [[114, 101, 112, 111, 114, 116, 115], Lib.itoa ((rn : Nat))]) [[114, 111, 117, 110, 100, 115], Lib.itoa (rnd)]) [[114, 97, 100, 105, 117, 115], Lib.itoa (rad)]) [[109, 97, 115, 115], Lib.itoa (massOf l)]).toArray⟩) (fun w => rfl) ?_
  simp only [Act.put, List.setIfInBounds_toArray, List.set_cons_zero, List.set_cons_succ]
  refine sl_end ?_
  have HB := Lib.hid (HDz.out.bel.trans hb)
  go_wp2_with fail
  go_ret
  exact ⟨by rw [← HE.out]; rfl, HB.out⟩
theorem cycT_sum (num tm cut : Int) (rn : Nat) (rnd rad : Int) (l : List Int) : [99, 121, 99, 108, 101, 32] ++ Lib.itoa num ++ [32, 97, 116, 32] ++ momT tm ++ [32, 99, 117, 116, 111, 102, 102, 32] ++ momT cut ++ [32, 114, 101, 112, 111, 114, 116, 115, 32] ++ Lib.itoa (rn : Int) ++ [32, 114, 111, 117, 110, 100, 115, 32] ++ Lib.itoa rnd ++ [32, 114, 97, 100, 105, 117, 115, 32] ++ Lib.itoa rad ++ [32, 109, 97, 115, 115, 32] ++ Lib.itoa (massOf l) = cycT num tm cut rn rnd rad l := by
  have h0 : wordsOf [] [[99, 121, 99, 108, 101], Lib.itoa num] ≠ [] := by rw [wordsOf]; rw [if_pos rfl, wordsOf_app _ _ (by simp)]; simp
  have h00 : wordsOf [] [[99, 121, 99, 108, 101], Lib.itoa num] = [99, 121, 99, 108, 101, 32] ++ Lib.itoa num := by simp [wordsOf]
  have ha : ∀ (a : List UInt8) (ss : List (List UInt8)), a ≠ [] → wordsOf a ss ≠ [] := fun a ss h => by rw [wordsOf_app _ _ h]; simp [h]
  unfold cycT
  rw [wordsOf_app _ _ (ha _ _ (ha _ _ (ha _ _ (ha _ _ h0)))), wordsOf_app _ _ (ha _ _ (ha _ _ (ha _ _ h0))), wordsOf_app _ _ (ha _ _ (ha _ _ h0)), wordsOf_app _ _ (ha _ _ h0), wordsOf_app _ _ h0, h00]
  simp
set_option maxHeartbeats 8000000 in
set_option maxRecDepth 100000 in
theorem rcycle_any (num tm cut rad rnd fr : Int) (ra da fa : Option Addr) (rn rc dn dc fn fc : Nat) (l : List Int) (hnum : I64 num) (hrad : I64 rad) (hrnd : I64 rnd) (hrn : rn ≤ 1000000) (w : World) (hM : MassL w.heap.size w (.slice da dn dc) l) : Calls Tryz.prog 17 #[.agg #[.int .i64 num, .int .i64 tm, .int .i64 cut, .slice ra rn rc, .slice none 0 0, .slice none 0 0, .slice none 0 0, .int .i64 0, .int .u64 0, .int .i64 0, .int .i64 rad, .int .i64 rnd, .int .i64 fr, .slice da dn dc, .slice fa fn fc, .slice none 0 0, .slice none 0 0]] w fun e w' => e = .returned (strV (cycT num tm cut rn rnd rad l)) ∧ Below w.heap.size w w' := by
  have HS : Hid (CivAt w w.heap.size [.int .i64 num, .int .i64 tm, .int .i64 cut, .slice ra rn rc, .slice none 0 0, .slice none 0 0, .slice none 0 0, .int .i64 0, .int .u64 0, .int .i64 0, .int .i64 rad, .int .i64 rnd, .int .i64 fr, .slice da dn dc, .slice fa fn fc, .slice none 0 0, .slice none 0 0] (w.alloc (.cells #[.int .i64 num, .int .i64 tm, .int .i64 cut, .slice ra rn rc, .slice none 0 0, .slice none 0 0, .slice none 0 0, .int .i64 0, .int .u64 0, .int .i64 0, .int .i64 rad, .int .i64 rnd, .int .i64 fr, .slice da dn dc, .slice fa fn fc, .slice none 0 0, .slice none 0 0] 56))) := ⟨RowAt.new w [.int .i64 num, .int .i64 tm, .int .i64 cut, .slice ra rn rc, .slice none 0 0, .slice none 0 0, .slice none 0 0, .int .i64 0, .int .u64 0, .int .i64 0, .int .i64 rad, .int .i64 rnd, .int .i64 fr, .slice da dn dc, .slice fa fn fc, .slice none 0 0, .slice none 0 0] (by simp) _ rfl, (Below.refl _ _).alloc (Nat.le_refl _) _⟩
  have HM := Lib.hid hM
  have HI : Hid (I64 num ∧ I64 rad ∧ I64 rnd ∧ I64 (rn : Int) ∧ I64 (massOf l)) := by
    have := hM.part l.length
    rw [List.take_length] at this
    exact ⟨hnum, hrad, hrnd, by unfold I64; omega, by unfold I64; omega⟩
  have HE := Lib.hid (cycT_sum num tm cut rn rnd rad l)
  have hl1 := (itoa_len _ HI.out.1).2
  have hl2 := (itoa_len _ HI.out.2.2.2.1).2
  have hl3 := (itoa_len _ HI.out.2.2.1).2
  have hl4 := (itoa_len _ HI.out.2.1).2
  have hl5 := (itoa_len _ HI.out.2.2.2.2).2
  clear hM hnum hrad hrnd hrn
  have D1 := Lib.hid (fun w => rdecimal_any num HI.out.1 w)
  have D2 := Lib.hid (fun w => rdecimal_any (rn : Int) HI.out.2.2.2.1 w)
  have D3 := Lib.hid (fun w => rdecimal_any rnd HI.out.2.2.1 w)
  have D4 := Lib.hid (fun w => rdecimal_any rad HI.out.2.1 w)
  have D5 := Lib.hid (fun w => rdecimal_any (massOf l) HI.out.2.2.2.2 w)
  unfold istr at D1 D2 D3 D4 D5
  generalize Lib.itoa num = s1 at *
  generalize Lib.itoa (rn : Int) = s2 at *
  generalize Lib.itoa rnd = s3 at *
  generalize Lib.itoa rad = s4 at *
  generalize Lib.itoa (massOf l) = s5 at *
  go_enter Tryz.func17, Tryz.ntmps17
  go_wp2_with fail
  generalize w.alloc _ = w2 at HS ⊢
  have HC0 := Lib.hid (HS.out.new (Below.refl w2.heap.size w2).drew)
  have HSt : Hid (∀ j, j < ([.int .i64 fr, .slice da dn dc, .slice fa fn fc] : List Value).length → ([.int .i64 num, .int .i64 tm, .int .i64 cut, .slice ra rn rc, .slice none 0 0, .slice none 0 0, .slice none 0 0, .int .i64 0, .int .u64 0, .int .i64 0, .int .i64 rad, .int .i64 rnd, .int .i64 fr, .slice da dn dc, .slice fa fn fc, .slice none 0 0, .slice none 0 0] : List Value)[12 + j]? = ([.int .i64 fr, .slice da dn dc, .slice fa fn fc] : List Value)[j]?) := fun j hj => by
    simp only [List.length_cons, List.length_nil] at hj
    have hj3 : j = 0 ∨ j = 1 ∨ j = 2 := by omega
    rcases hj3 with rfl | rfl | rfl <;> rfl
  refine wp_region_seqL (by kernel_rfl) (fun w' => CivAt w w.heap.size [.int .i64 num, .int .i64 tm, .int .i64 cut, .slice ra rn rc, .slice none 0 0, .slice none 0 0, .slice none 0 0, .int .i64 0, .int .u64 0, .int .i64 0, .int .i64 rad, .int .i64 rnd, .int .i64 fr, .slice da dn dc, .slice fa fn fc, .slice none 0 0, .slice none 0 0] w') 37 [(0, 0), (1, 1), (5, 0), (6, 1), (10, 0), (11, 1), (15, 0), (16, 1), (17, 0), (21, 0), (22, 0), (23, 1), (27, 0), (28, 0), (29, 0), (30, 1), (34, 0), (35, 1), (2, 2), (3, 0), (4, 0), (7, 2), (8, 0), (9, 0), (12, 2), (13, 0), (14, 0), (18, 2), (19, 0), (20, 0), (24, 2), (25, 0), (26, 0), (31, 2), (32, 0), (33, 0), (36, 2), (37, 2), (38, 0), (39, 0)] (by kernel_rfl) (HC0.out) ?_
  refine sl_q (d := some 3) rfl rfl rfl (.pointer (some ⟨w.heap.size, 0, none⟩)) (fun w => by go_simp) ?_
  simp only [Act.put, List.setIfInBounds_toArray, List.set_cons_zero, List.set_cons_succ]
  refine sl_s (d := some 4) rfl rfl rfl (.int .i64 num) (fun w hw => by have h := hw.1.at 0 rfl; simp [execOp, Act.eval, go_sem, h]) ?_
  simp only [Act.put, List.setIfInBounds_toArray, List.set_cons_zero, List.set_cons_succ]
  refine sl_q (d := some 8) rfl rfl rfl (.pointer (some ⟨w.heap.size, 1, none⟩)) (fun w => by go_simp) ?_
  simp only [Act.put, List.setIfInBounds_toArray, List.set_cons_zero, List.set_cons_succ]
  refine sl_s (d := some 9) rfl rfl rfl (.int .i64 tm) (fun w hw => by have h := hw.1.at 1 rfl; simp [execOp, Act.eval, go_sem, h]) ?_
  simp only [Act.put, List.setIfInBounds_toArray, List.set_cons_zero, List.set_cons_succ]
  refine sl_q (d := some 13) rfl rfl rfl (.pointer (some ⟨w.heap.size, 2, none⟩)) (fun w => by go_simp) ?_
  simp only [Act.put, List.setIfInBounds_toArray, List.set_cons_zero, List.set_cons_succ]
  refine sl_s (d := some 14) rfl rfl rfl (.int .i64 cut) (fun w hw => by have h := hw.1.at 2 rfl; simp [execOp, Act.eval, go_sem, h]) ?_
  simp only [Act.put, List.setIfInBounds_toArray, List.set_cons_zero, List.set_cons_succ]
  refine sl_q (d := some 18) rfl rfl rfl (.pointer (some ⟨w.heap.size, 3, none⟩)) (fun w => by go_simp) ?_
  simp only [Act.put, List.setIfInBounds_toArray, List.set_cons_zero, List.set_cons_succ]
  refine sl_s (d := some 19) rfl rfl rfl (.slice ra rn rc) (fun w hw => by have h := hw.1.at 3 rfl; simp [execOp, Act.eval, go_sem, h]) ?_
  simp only [Act.put, List.setIfInBounds_toArray, List.set_cons_zero, List.set_cons_succ]
  refine sl_q (d := some 20) rfl rfl rfl (.int .i64 (rn : Nat)) (fun w => by simp [execOp, Act.eval, go_sem]) ?_
  simp only [Act.put, List.setIfInBounds_toArray, List.set_cons_zero, List.set_cons_succ]
  refine sl_q (d := some 24) rfl rfl rfl (.pointer (some ⟨w.heap.size, 4, none⟩)) (fun w => by go_simp) ?_
  simp only [Act.put, List.setIfInBounds_toArray, List.set_cons_zero, List.set_cons_succ]
  refine sl_q (d := some 25) rfl rfl rfl (.pointer (some ⟨w.heap.size, 11, none⟩)) (fun w => by go_simp) ?_
  simp only [Act.put, List.setIfInBounds_toArray, List.set_cons_zero, List.set_cons_succ]
  refine sl_s (d := some 26) rfl rfl rfl (.int .i64 rnd) (fun w hw => by have h := hw.1.at 11 rfl; simp [execOp, Act.eval, go_sem, h]) ?_
  simp only [Act.put, List.setIfInBounds_toArray, List.set_cons_zero, List.set_cons_succ]
  refine sl_q (d := some 30) rfl rfl rfl (.pointer (some ⟨w.heap.size, 4, none⟩)) (fun w => by go_simp) ?_
  simp only [Act.put, List.setIfInBounds_toArray, List.set_cons_zero, List.set_cons_succ]
  refine sl_q (d := some 31) rfl rfl rfl (.pointer (some ⟨w.heap.size, 7, none⟩)) (fun w => by go_simp) ?_
  simp only [Act.put, List.setIfInBounds_toArray, List.set_cons_zero, List.set_cons_succ]
  refine sl_q (d := some 32) rfl rfl rfl (.pointer (some ⟨w.heap.size, 10, none⟩)) (fun w => by go_simp) ?_
  simp only [Act.put, List.setIfInBounds_toArray, List.set_cons_zero, List.set_cons_succ]
  refine sl_s (d := some 33) rfl rfl rfl (.int .i64 rad) (fun w hw => by have h := hw.1.at 10 rfl; simp [execOp, Act.eval, go_sem, h]) ?_
  simp only [Act.put, List.setIfInBounds_toArray, List.set_cons_zero, List.set_cons_succ]
  refine sl_q (d := some 37) rfl rfl rfl (.pointer (some ⟨w.heap.size, 12, none⟩)) (fun w => by go_simp) ?_
  simp only [Act.put, List.setIfInBounds_toArray, List.set_cons_zero, List.set_cons_succ]
  refine sl_s (d := some 38) rfl rfl rfl (.agg #[.int .i64 fr, .slice da dn dc, .slice fa fn fc]) (fun w hw => row_loadM hw.1 12 [.int .i64 fr, .slice da dn dc, .slice fa fn fc] HSt.out rowT_state _ rfl rfl) ?_
  simp only [Act.put, List.setIfInBounds_toArray, List.set_cons_zero, List.set_cons_succ]
  refine sl_call (d := some 5) rfl rfl rfl ⟨_, Tryz.func33, by kernel_rfl, by kernel_rfl⟩ _ _ _ rfl rfl [.int .i64 num] rfl (D1.out w2.drew) ?_
  rintro e u1 ⟨rfl, hb⟩
  have HC1 := Lib.hid (HC0.out.new hb)
  refine ⟨_, rfl, fun _ => HC1.out, ?_⟩
  clear hb HC0
  simp only [Act.put, List.setIfInBounds_toArray, List.set_cons_zero, List.set_cons_succ]
  refine sl_q (d := some 6) rfl rfl rfl (.string ⟨([99, 121, 99, 108, 101, 32] ++ s1).toArray⟩) (fun w => add_run _ _ rfl ([99, 121, 99, 108, 101, 32]) (s1) rfl rfl (by simp; omega)) ?_
  simp only [Act.put, List.setIfInBounds_toArray, List.set_cons_zero, List.set_cons_succ]
  refine sl_q (d := some 7) rfl rfl rfl (.string ⟨([99, 121, 99, 108, 101, 32] ++ s1 ++ [32, 97, 116, 32]).toArray⟩) (fun w => add_run _ _ rfl ([99, 121, 99, 108, 101, 32] ++ s1) ([32, 97, 116, 32]) rfl rfl (by simp; omega)) ?_
  simp only [Act.put, List.setIfInBounds_toArray, List.set_cons_zero, List.set_cons_succ]
  refine sl_call (d := some 10) rfl rfl rfl ⟨_, Tryz.func39, by kernel_rfl, by kernel_rfl⟩ _ _ _ rfl rfl [.int .i64 tm] rfl (moment_any tm u1) ?_
  rintro e u2 ⟨rfl, hma, hmb, hb⟩
  have HC2 := Lib.hid (HC1.out.new hb)
  refine ⟨_, rfl, fun _ => HC2.out, ?_⟩
  clear hb HC1
  simp only [Act.put, List.setIfInBounds_toArray, List.set_cons_zero, List.set_cons_succ]
  refine sl_q (d := some 11) rfl rfl rfl (.string ⟨([99, 121, 99, 108, 101, 32] ++ s1 ++ [32, 97, 116, 32] ++ momT tm).toArray⟩) (fun w => add_run _ _ rfl ([99, 121, 99, 108, 101, 32] ++ s1 ++ [32, 97, 116, 32]) (momT tm) rfl rfl (by simp; omega)) ?_
  simp only [Act.put, List.setIfInBounds_toArray, List.set_cons_zero, List.set_cons_succ]
  refine sl_q (d := some 12) rfl rfl rfl (.string ⟨([99, 121, 99, 108, 101, 32] ++ s1 ++ [32, 97, 116, 32] ++ momT tm ++ [32, 99, 117, 116, 111, 102, 102, 32]).toArray⟩) (fun w => add_run _ _ rfl ([99, 121, 99, 108, 101, 32] ++ s1 ++ [32, 97, 116, 32] ++ momT tm) ([32, 99, 117, 116, 111, 102, 102, 32]) rfl rfl (by simp; omega)) ?_
  simp only [Act.put, List.setIfInBounds_toArray, List.set_cons_zero, List.set_cons_succ]
  refine sl_call (d := some 15) rfl rfl rfl ⟨_, Tryz.func39, by kernel_rfl, by kernel_rfl⟩ _ _ _ rfl rfl [.int .i64 cut] rfl (moment_any cut u2) ?_
  rintro e u3 ⟨rfl, hmc, hmd, hb⟩
  have HC3 := Lib.hid (HC2.out.new hb)
  refine ⟨_, rfl, fun _ => HC3.out, ?_⟩
  clear hb HC2
  simp only [Act.put, List.setIfInBounds_toArray, List.set_cons_zero, List.set_cons_succ]
  refine sl_q (d := some 16) rfl rfl rfl (.string ⟨([99, 121, 99, 108, 101, 32] ++ s1 ++ [32, 97, 116, 32] ++ momT tm ++ [32, 99, 117, 116, 111, 102, 102, 32] ++ momT cut).toArray⟩) (fun w => add_run _ _ rfl ([99, 121, 99, 108, 101, 32] ++ s1 ++ [32, 97, 116, 32] ++ momT tm ++ [32, 99, 117, 116, 111, 102, 102, 32]) (momT cut) rfl rfl (by simp; omega)) ?_
  simp only [Act.put, List.setIfInBounds_toArray, List.set_cons_zero, List.set_cons_succ]
  refine sl_q (d := some 17) rfl rfl rfl (.string ⟨([99, 121, 99, 108, 101, 32] ++ s1 ++ [32, 97, 116, 32] ++ momT tm ++ [32, 99, 117, 116, 111, 102, 102, 32] ++ momT cut ++ [32, 114, 101, 112, 111, 114, 116, 115, 32]).toArray⟩) (fun w => add_run _ _ rfl ([99, 121, 99, 108, 101, 32] ++ s1 ++ [32, 97, 116, 32] ++ momT tm ++ [32, 99, 117, 116, 111, 102, 102, 32] ++ momT cut) ([32, 114, 101, 112, 111, 114, 116, 115, 32]) rfl rfl (by simp; omega)) ?_
  simp only [Act.put, List.setIfInBounds_toArray, List.set_cons_zero, List.set_cons_succ]
  refine sl_call (d := some 21) rfl rfl rfl ⟨_, Tryz.func33, by kernel_rfl, by kernel_rfl⟩ _ _ _ rfl rfl [.int .i64 (rn : Nat)] rfl (D2.out u3) ?_
  rintro e u4 ⟨rfl, hb⟩
  have HC4 := Lib.hid (HC3.out.new hb)
  refine ⟨_, rfl, fun _ => HC4.out, ?_⟩
  clear hb HC3
  simp only [Act.put, List.setIfInBounds_toArray, List.set_cons_zero, List.set_cons_succ]
  refine sl_q (d := some 22) rfl rfl rfl (.string ⟨([99, 121, 99, 108, 101, 32] ++ s1 ++ [32, 97, 116, 32] ++ momT tm ++ [32, 99, 117, 116, 111, 102, 102, 32] ++ momT cut ++ [32, 114, 101, 112, 111, 114, 116, 115, 32] ++ s2).toArray⟩) (fun w => add_run _ _ rfl ([99, 121, 99, 108, 101, 32] ++ s1 ++ [32, 97, 116, 32] ++ momT tm ++ [32, 99, 117, 116, 111, 102, 102, 32] ++ momT cut ++ [32, 114, 101, 112, 111, 114, 116, 115, 32]) (s2) rfl rfl (by simp; omega)) ?_
  simp only [Act.put, List.setIfInBounds_toArray, List.set_cons_zero, List.set_cons_succ]
  refine sl_q (d := some 23) rfl rfl rfl (.string ⟨([99, 121, 99, 108, 101, 32] ++ s1 ++ [32, 97, 116, 32] ++ momT tm ++ [32, 99, 117, 116, 111, 102, 102, 32] ++ momT cut ++ [32, 114, 101, 112, 111, 114, 116, 115, 32] ++ s2 ++ [32, 114, 111, 117, 110, 100, 115, 32]).toArray⟩) (fun w => add_run _ _ rfl ([99, 121, 99, 108, 101, 32] ++ s1 ++ [32, 97, 116, 32] ++ momT tm ++ [32, 99, 117, 116, 111, 102, 102, 32] ++ momT cut ++ [32, 114, 101, 112, 111, 114, 116, 115, 32] ++ s2) ([32, 114, 111, 117, 110, 100, 115, 32]) rfl rfl (by simp; omega)) ?_
  simp only [Act.put, List.setIfInBounds_toArray, List.set_cons_zero, List.set_cons_succ]
  refine sl_call (d := some 27) rfl rfl rfl ⟨_, Tryz.func33, by kernel_rfl, by kernel_rfl⟩ _ _ _ rfl rfl [.int .i64 rnd] rfl (D3.out u4) ?_
  rintro e u5 ⟨rfl, hb⟩
  have HC5 := Lib.hid (HC4.out.new hb)
  refine ⟨_, rfl, fun _ => HC5.out, ?_⟩
  clear hb HC4
  simp only [Act.put, List.setIfInBounds_toArray, List.set_cons_zero, List.set_cons_succ]
  refine sl_q (d := some 28) rfl rfl rfl (.string ⟨([99, 121, 99, 108, 101, 32] ++ s1 ++ [32, 97, 116, 32] ++ momT tm ++ [32, 99, 117, 116, 111, 102, 102, 32] ++ momT cut ++ [32, 114, 101, 112, 111, 114, 116, 115, 32] ++ s2 ++ [32, 114, 111, 117, 110, 100, 115, 32] ++ s3).toArray⟩) (fun w => add_run _ _ rfl ([99, 121, 99, 108, 101, 32] ++ s1 ++ [32, 97, 116, 32] ++ momT tm ++ [32, 99, 117, 116, 111, 102, 102, 32] ++ momT cut ++ [32, 114, 101, 112, 111, 114, 116, 115, 32] ++ s2 ++ [32, 114, 111, 117, 110, 100, 115, 32]) (s3) rfl rfl (by simp; omega)) ?_
  simp only [Act.put, List.setIfInBounds_toArray, List.set_cons_zero, List.set_cons_succ]
  refine sl_q (d := some 29) rfl rfl rfl (.string ⟨([99, 121, 99, 108, 101, 32] ++ s1 ++ [32, 97, 116, 32] ++ momT tm ++ [32, 99, 117, 116, 111, 102, 102, 32] ++ momT cut ++ [32, 114, 101, 112, 111, 114, 116, 115, 32] ++ s2 ++ [32, 114, 111, 117, 110, 100, 115, 32] ++ s3 ++ [32, 114, 97, 100, 105, 117, 115, 32]).toArray⟩) (fun w => add_run _ _ rfl ([99, 121, 99, 108, 101, 32] ++ s1 ++ [32, 97, 116, 32] ++ momT tm ++ [32, 99, 117, 116, 111, 102, 102, 32] ++ momT cut ++ [32, 114, 101, 112, 111, 114, 116, 115, 32] ++ s2 ++ [32, 114, 111, 117, 110, 100, 115, 32] ++ s3) ([32, 114, 97, 100, 105, 117, 115, 32]) rfl rfl (by simp; omega)) ?_
  simp only [Act.put, List.setIfInBounds_toArray, List.set_cons_zero, List.set_cons_succ]
  refine sl_call (d := some 34) rfl rfl rfl ⟨_, Tryz.func33, by kernel_rfl, by kernel_rfl⟩ _ _ _ rfl rfl [.int .i64 rad] rfl (D4.out u5) ?_
  rintro e u6 ⟨rfl, hb⟩
  have HC6 := Lib.hid (HC5.out.new hb)
  refine ⟨_, rfl, fun _ => HC6.out, ?_⟩
  clear hb HC5
  simp only [Act.put, List.setIfInBounds_toArray, List.set_cons_zero, List.set_cons_succ]
  refine sl_q (d := some 35) rfl rfl rfl (.string ⟨([99, 121, 99, 108, 101, 32] ++ s1 ++ [32, 97, 116, 32] ++ momT tm ++ [32, 99, 117, 116, 111, 102, 102, 32] ++ momT cut ++ [32, 114, 101, 112, 111, 114, 116, 115, 32] ++ s2 ++ [32, 114, 111, 117, 110, 100, 115, 32] ++ s3 ++ [32, 114, 97, 100, 105, 117, 115, 32] ++ s4).toArray⟩) (fun w => add_run _ _ rfl ([99, 121, 99, 108, 101, 32] ++ s1 ++ [32, 97, 116, 32] ++ momT tm ++ [32, 99, 117, 116, 111, 102, 102, 32] ++ momT cut ++ [32, 114, 101, 112, 111, 114, 116, 115, 32] ++ s2 ++ [32, 114, 111, 117, 110, 100, 115, 32] ++ s3 ++ [32, 114, 97, 100, 105, 117, 115, 32]) (s4) rfl rfl (by simp; omega)) ?_
  simp only [Act.put, List.setIfInBounds_toArray, List.set_cons_zero, List.set_cons_succ]
  refine sl_q (d := some 36) rfl rfl rfl (.string ⟨([99, 121, 99, 108, 101, 32] ++ s1 ++ [32, 97, 116, 32] ++ momT tm ++ [32, 99, 117, 116, 111, 102, 102, 32] ++ momT cut ++ [32, 114, 101, 112, 111, 114, 116, 115, 32] ++ s2 ++ [32, 114, 111, 117, 110, 100, 115, 32] ++ s3 ++ [32, 114, 97, 100, 105, 117, 115, 32] ++ s4 ++ [32, 109, 97, 115, 115, 32]).toArray⟩) (fun w => add_run _ _ rfl ([99, 121, 99, 108, 101, 32] ++ s1 ++ [32, 97, 116, 32] ++ momT tm ++ [32, 99, 117, 116, 111, 102, 102, 32] ++ momT cut ++ [32, 114, 101, 112, 111, 114, 116, 115, 32] ++ s2 ++ [32, 114, 111, 117, 110, 100, 115, 32] ++ s3 ++ [32, 114, 97, 100, 105, 117, 115, 32] ++ s4) ([32, 109, 97, 115, 115, 32]) rfl rfl (by simp; omega)) ?_
  simp only [Act.put, List.setIfInBounds_toArray, List.set_cons_zero, List.set_cons_succ]
  refine sl_call (d := some 39) rfl rfl rfl ⟨_, Tryz.func45, by kernel_rfl, by kernel_rfl⟩ _ _ _ rfl rfl [.agg #[.int .i64 fr, .slice da dn dc, .slice fa fn fc]] rfl (rmass_any fr da fa dn dc fn fc l u6 (HM.out.later HC6.out.2)) ?_
  rintro e u7 ⟨rfl, hb⟩
  have HC7 := Lib.hid (HC6.out.new hb)
  refine ⟨_, rfl, fun _ => HC7.out, ?_⟩
  clear hb HC6
  simp only [Act.put, List.setIfInBounds_toArray, List.set_cons_zero, List.set_cons_succ]
  refine sl_call (d := some 40) rfl rfl rfl ⟨_, Tryz.func33, by kernel_rfl, by kernel_rfl⟩ _ _ _ rfl rfl [.int .i64 (massOf l)] rfl (D5.out u7) ?_
  rintro e u8 ⟨rfl, hb⟩
  have HC8 := Lib.hid (HC7.out.new hb)
  refine ⟨_, rfl, (fun h => by cases h), ?_⟩
  clear hb HC7
  simp only [Act.put, List.setIfInBounds_toArray, List.set_cons_zero, List.set_cons_succ]
  refine sl_q (d := some 41) rfl rfl rfl (.string ⟨([99, 121, 99, 108, 101, 32] ++ s1 ++ [32, 97, 116, 32] ++ momT tm ++ [32, 99, 117, 116, 111, 102, 102, 32] ++ momT cut ++ [32, 114, 101, 112, 111, 114, 116, 115, 32] ++ s2 ++ [32, 114, 111, 117, 110, 100, 115, 32] ++ s3 ++ [32, 114, 97, 100, 105, 117, 115, 32] ++ s4 ++ [32, 109, 97, 115, 115, 32] ++ s5).toArray⟩) (fun w => add_run _ _ rfl ([99, 121, 99, 108, 101, 32] ++ s1 ++ [32, 97, 116, 32] ++ momT tm ++ [32, 99, 117, 116, 111, 102, 102, 32] ++ momT cut ++ [32, 114, 101, 112, 111, 114, 116, 115, 32] ++ s2 ++ [32, 114, 111, 117, 110, 100, 115, 32] ++ s3 ++ [32, 114, 97, 100, 105, 117, 115, 32] ++ s4 ++ [32, 109, 97, 115, 115, 32]) (s5) rfl rfl (by simp; omega)) ?_
  simp only [Act.put, List.setIfInBounds_toArray, List.set_cons_zero, List.set_cons_succ]
  refine sl_q (d := some 2) rfl rfl rfl (.string ⟨([99, 121, 99, 108, 101, 32] ++ s1 ++ [32, 97, 116, 32] ++ momT tm ++ [32, 99, 117, 116, 111, 102, 102, 32] ++ momT cut ++ [32, 114, 101, 112, 111, 114, 116, 115, 32] ++ s2 ++ [32, 114, 111, 117, 110, 100, 115, 32] ++ s3 ++ [32, 114, 97, 100, 105, 117, 115, 32] ++ s4 ++ [32, 109, 97, 115, 115, 32] ++ s5).toArray⟩) (fun w => rfl) ?_
  simp only [Act.put, List.setIfInBounds_toArray, List.set_cons_zero, List.set_cons_succ]
  refine sl_end ?_
  have HB := Lib.hid HC8.out.2
  go_wp2_with fail
  go_ret
  exact ⟨by rw [← HE.out]; rfl, HB.out⟩
end Go.Proofs.YtmmmebdgannpgaaGreatDoor
/- Texts of tables, of the monitor and of its reference. Printed by gen_txtc.py. -/
namespace Go.Proofs.YtmmmebdgannpgaaGreatDoor
open Go Go.RowKit

/-- A score with its name. -/
def nmT (s : List UInt8) (x : Int × Int × Int) : List UInt8 := if x.2.2 = 0 then 32 :: s ++ 32 :: fracT x.1 x.2.1 else []
theorem nmT_len (s : List UInt8) (x : Int × Int × Int) (h : I64x x) : (nmT s x).length ≤ s.length + 45 := by
  unfold nmT
  have := (fracT_len _ _ h.1 h.2).2
  split
  · simp; omega
  · simp
def tabB (h a m o : Int) : List UInt8 := wordsOf (wordsOf (wordsOf (wordsOf [] [[104, 105, 116, 115], Lib.itoa h]) [[97, 108, 97, 114, 109, 115], Lib.itoa a]) [[109, 105, 115, 115, 101, 115], Lib.itoa m]) [[111, 116, 104, 101, 114, 115], Lib.itoa o]
/-- The text of a table, after some of its scores. -/
def tabT (h a m o : Int) : Nat → List UInt8
  | 0 => tabB h a m o
  | 1 => tabB h a m o ++ nmT [100, 101, 116, 101, 99, 116, 105, 111, 110] (ofT h a m o (h) (h + m))
  | 2 => tabB h a m o ++ nmT [100, 101, 116, 101, 99, 116, 105, 111, 110] (ofT h a m o (h) (h + m)) ++ nmT [102, 97, 108, 115, 101] (ofT h a m o (a) (h + a))
  | 3 => tabB h a m o ++ nmT [100, 101, 116, 101, 99, 116, 105, 111, 110] (ofT h a m o (h) (h + m)) ++ nmT [102, 97, 108, 115, 101] (ofT h a m o (a) (h + a)) ++ nmT [116, 104, 114, 101, 97, 116] (ofT h a m o (h) (h + a + m))
  | _ => tabB h a m o ++ nmT [100, 101, 116, 101, 99, 116, 105, 111, 110] (ofT h a m o (h) (h + m)) ++ nmT [102, 97, 108, 115, 101] (ofT h a m o (a) (h + a)) ++ nmT [116, 104, 114, 101, 97, 116] (ofT h a m o (h) (h + a + m)) ++ nmT [104, 101, 105, 100, 107, 101] (ofT h a m o (2 * (h * o - a * m)) ((h + m) * (m + o) + (h + a) * (a + o)))
def Four (h a m o : Int) : Prop := I64 h ∧ I64 a ∧ I64 m ∧ I64 o
theorem tabB_eq (h a m o : Int) : tabB h a m o = [104, 105, 116, 115, 32] ++ Lib.itoa h ++ [32, 97, 108, 97, 114, 109, 115, 32] ++ Lib.itoa a ++ [32, 109, 105, 115, 115, 101, 115, 32] ++ Lib.itoa m ++ [32, 111, 116, 104, 101, 114, 115, 32] ++ Lib.itoa o := by
  have h0 : wordsOf [] [[104, 105, 116, 115], Lib.itoa h] ≠ [] := by rw [wordsOf]; rw [if_pos rfl, wordsOf_app _ _ (by simp)]; simp
  have h00 : wordsOf [] [[104, 105, 116, 115], Lib.itoa h] = [104, 105, 116, 115, 32] ++ Lib.itoa h := by simp [wordsOf]
  have ha : ∀ (a : List UInt8) (ss : List (List UInt8)), a ≠ [] → wordsOf a ss ≠ [] := fun a ss h => by rw [wordsOf_app _ _ h]; simp [h]
  unfold tabB
  rw [wordsOf_app _ _ (ha _ _ (ha _ _ h0)), wordsOf_app _ _ (ha _ _ h0), wordsOf_app _ _ h0, h00]
  simp
theorem tabB_len {h a m o : Int} (H : Four h a m o) : 1 ≤ (tabB h a m o).length ∧ (tabB h a m o).length ≤ 130 := by
  rw [tabB_eq]
  have h1 := (itoa_len _ H.1).2
  have h2 := (itoa_len _ H.2.1).2
  have h3 := (itoa_len _ H.2.2.1).2
  have h4 := (itoa_len _ H.2.2.2).2
  simp
  omega
theorem tabT_len {h a m o : Int} (H : Four h a m o) (k : Nat) : 1 ≤ (tabT h a m o k).length ∧ (tabT h a m o k).length ≤ 500 := by
  have h0 := tabB_len H
  have h1 := nmT_len [100, 101, 116, 101, 99, 116, 105, 111, 110] _ (ofT_I64 h a m o (h) (h + m))
  have h2 := nmT_len [102, 97, 108, 115, 101] _ (ofT_I64 h a m o (a) (h + a))
  have h3 := nmT_len [116, 104, 114, 101, 97, 116] _ (ofT_I64 h a m o (h) (h + a + m))
  have h4 := nmT_len [104, 101, 105, 100, 107, 101] _ (ofT_I64 h a m o (2 * (h * o - a * m)) ((h + m) * (m + o) + (h + a) * (a + o)))
  simp only [List.length_cons, List.length_nil] at h1 h2 h3 h4
  unfold tabT
  split <;> (try simp only [List.length_append]) <;> omega
theorem words_nm {t s : List UInt8} {x : Int × Int × Int} (ht : t ≠ []) (hx : x.2.2 = 0) : wordsOf t [s, fracT x.1 x.2.1] = t ++ nmT s x := by
  rw [wordsOf_app _ _ ht]
  unfold nmT
  rw [if_pos hx]
  simp
theorem none_nm {t s : List UInt8} {x : Int × Int × Int} (hx : x.2.2 ≠ 0) : t = t ++ nmT s x := by
  unfold nmT
  rw [if_neg hx]
  simp
set_option maxHeartbeats 1000000 in
theorem named_any (s : List UInt8) (hs : s.length ≤ 100) (p q r : Int) (hx : I64x (p, q, r)) (w : World) : Calls Tryz.prog 57 #[strV s, .agg #[.int .i64 p, .int .i64 q], .int .i64 r] w fun e w' => e = .returned (strV (nmT s (p, q, r))) ∧ Below w.heap.size w w' := by
  have HB : Hid (Below w.heap.size w (w.alloc (.cells #[.int .i64 p, .int .i64 q] 24))) := (Below.refl _ _).alloc (Nat.le_refl _) _
  by_cases h : r = 0
  · subst h
    have hl := fracT_len p q hx.1 hx.2
    have HF := Lib.hid (rfraction_any p q hx.1 hx.2 (w.alloc (.cells #[.int .i64 p, .int .i64 q] 24)))
    have HE : Hid (nmT s (p, q, 0) = [32] ++ s ++ [32] ++ fracT p q) := by unfold Hid nmT; rw [if_pos rfl]; simp
    have a1 := sadd [32] s (by simp; omega)
    have a2 := sadd ([32] ++ s) [32] (by simp; omega)
    have a3 := sadd ([32] ++ s ++ [32]) (fracT p q) (by simp; omega)
    clear hx hl hs
    generalize fracT p q = f at *
    generalize hz1 : [32] ++ s = z1 at *
    generalize hz2 : z1 ++ [32] = z2 at *
    generalize hz3 : z2 ++ f = z3 at *
    clear hz1 hz2 hz3
    unfold strV at HF ⊢
    go_enter Tryz.func57, Tryz.ntmps57
    go_wp2_with fail
    refine HF.out.mono ?_
    rintro e w1 ⟨rfl, hb⟩
    have HB2 := Lib.hid (below_then HB.out hb)
    clear hb HF
    go_wp2_with fail
    go_ret
    exact ⟨by rw [HE.out]; rfl, HB2.out⟩
  · have HK : Hid (nmT s (p, q, r) = []) := if_neg h
    have h0 : (r == 0) = false := by simpa using h
    clear h hx hs
    unfold strV
    go_enter Tryz.func57, Tryz.ntmps57
    go_wp2_with fail
    go_ret
    exact ⟨by rw [HK.out]; rfl, HB.out⟩
end Go.Proofs.YtmmmebdgannpgaaGreatDoor
/- Texts of tables of the reference. Printed by gen_txtd.py. -/
namespace Go.Proofs.YtmmmebdgannpgaaGreatDoor
open Go Go.RowKit

structure TS (w : World) (c v : Nat) (ds vs : List Value) (wr : World) : Prop where
  x : RowAt wr c ds
  y : RowAt wr v vs
  b : Below w.heap.size w wr
  hv : w.heap.size ≤ v
  hn : c ≠ v
theorem TS.new {w wr w' : World} {c v : Nat} {ds vs : List Value} (h : TS w c v ds vs wr) (hb : Below wr.heap.size wr w') : TS w c v ds vs w' := ⟨h.x.below hb, h.y.below hb, below_then h.b hb, h.hv, h.hn⟩
theorem TS.put {w wr w' : World} {c v : Nat} {ds vs vs' : List Value} (h : TS w c v ds vs wr) (hr : RowAt w' v vs') (ha : ApartR v wr w') : TS w c v ds vs' w' := ⟨h.x.apart ha h.hn, hr, h.b.trans (ha.below h.hv), h.hv, h.hn⟩
set_option maxHeartbeats 8000000 in
set_option maxRecDepth 100000 in
theorem rtable_any (h a m o : Int) (H : Four h a m o) (w : World) : Calls Tryz.prog 21 #[tabV h a m o] w fun e w' => e = .returned (strV (tabT h a m o 4)) ∧ Below w.heap.size w w' := by
  have HS : Hid (CivAt w w.heap.size [.int .i64 h, .int .i64 a, .int .i64 m, .int .i64 o] (w.alloc (.cells #[.int .i64 h, .int .i64 a, .int .i64 m, .int .i64 o] 33))) := ⟨RowAt.new w [.int .i64 h, .int .i64 a, .int .i64 m, .int .i64 o] (by simp) _ rfl, (Below.refl _ _).alloc (Nat.le_refl _) _⟩
  have HB0 := Lib.hid (tabB_eq h a m o)
  have HTT : Hid (tabT h a m o 4 = tabB h a m o ++ nmT [100, 101, 116, 101, 99, 116, 105, 111, 110] (ofT h a m o (h) (h + m)) ++ nmT [102, 97, 108, 115, 101] (ofT h a m o (a) (h + a)) ++ nmT [116, 104, 114, 101, 97, 116] (ofT h a m o (h) (h + a + m)) ++ nmT [104, 101, 105, 100, 107, 101] (ofT h a m o (2 * (h * o - a * m)) ((h + m) * (m + o) + (h + a) * (a + o)))) := rfl
  have hB := tabB_len H
  have C0 := Lib.hid (fun w => rDetection_any h a m o w)
  have hi0 := ofT_I64 h a m o (h) (h + m)
  have C1 := Lib.hid (fun w => rFalseAlarm_any h a m o w)
  have hi1 := ofT_I64 h a m o (a) (h + a)
  have C2 := Lib.hid (fun w => rThreat_any h a m o w)
  have hi2 := ofT_I64 h a m o (h) (h + a + m)
  have C3 := Lib.hid (fun w => rHeidke_any h a m o w)
  have hi3 := ofT_I64 h a m o (2 * (h * o - a * m)) ((h + m) * (m + o) + (h + a) * (a + o))
  generalize ofT h a m o (h) (h + m) = x0 at *
  generalize ofT h a m o (a) (h + a) = x1 at *
  generalize ofT h a m o (h) (h + a + m) = x2 at *
  generalize ofT h a m o (2 * (h * o - a * m)) ((h + m) * (m + o) + (h + a) * (a + o)) = x3 at *
  have hl0 := nmT_len [100, 101, 116, 101, 99, 116, 105, 111, 110] x0 hi0
  obtain ⟨p0, q0, r0⟩ := x0
  have N0 := Lib.hid (fun w => named_any [100, 101, 116, 101, 99, 116, 105, 111, 110] (by simp) p0 q0 r0 hi0 w)
  generalize nmT [100, 101, 116, 101, 99, 116, 105, 111, 110] (p0, q0, r0) = n0 at *
  have hl1 := nmT_len [102, 97, 108, 115, 101] x1 hi1
  obtain ⟨p1, q1, r1⟩ := x1
  have N1 := Lib.hid (fun w => named_any [102, 97, 108, 115, 101] (by simp) p1 q1 r1 hi1 w)
  generalize nmT [102, 97, 108, 115, 101] (p1, q1, r1) = n1 at *
  have hl2 := nmT_len [116, 104, 114, 101, 97, 116] x2 hi2
  obtain ⟨p2, q2, r2⟩ := x2
  have N2 := Lib.hid (fun w => named_any [116, 104, 114, 101, 97, 116] (by simp) p2 q2 r2 hi2 w)
  generalize nmT [116, 104, 114, 101, 97, 116] (p2, q2, r2) = n2 at *
  have hl3 := nmT_len [104, 101, 105, 100, 107, 101] x3 hi3
  obtain ⟨p3, q3, r3⟩ := x3
  have N3 := Lib.hid (fun w => named_any [104, 101, 105, 100, 107, 101] (by simp) p3 q3 r3 hi3 w)
  generalize nmT [104, 101, 105, 100, 107, 101] (p3, q3, r3) = n3 at *
  simp only [List.length_cons, List.length_nil] at hl0 hl1 hl2 hl3
  have D0 := Lib.hid (fun w => rdecimal_any h H.1 w)
  have il0 := (itoa_len _ H.1).2
  have D1 := Lib.hid (fun w => rdecimal_any a H.2.1 w)
  have il1 := (itoa_len _ H.2.1).2
  have D2 := Lib.hid (fun w => rdecimal_any m H.2.2.1 w)
  have il2 := (itoa_len _ H.2.2.1).2
  have D3 := Lib.hid (fun w => rdecimal_any o H.2.2.2 w)
  have il3 := (itoa_len _ H.2.2.2).2
  unfold istr at D0 D1 D2 D3
  unfold strV at N0 N1 N2 N3
  generalize Lib.itoa h = s0 at *
  generalize Lib.itoa a = s1 at *
  generalize Lib.itoa m = s2 at *
  generalize Lib.itoa o = s3 at *
  generalize tabB h a m o = tb at *
  have A0 := sadd tb n0 (by omega)
  have A1 := sadd (tb ++ n0) n1 (by simp only [List.length_append]; omega)
  have A2 := sadd (tb ++ n0 ++ n1) n2 (by simp only [List.length_append]; omega)
  have A3 := sadd (tb ++ n0 ++ n1 ++ n2) n3 (by simp only [List.length_append]; omega)
  generalize hz1 : tb ++ n0 = z1 at *
  generalize hz2 : z1 ++ n1 = z2 at *
  generalize hz3 : z2 ++ n2 = z3 at *
  generalize hz4 : z3 ++ n3 = z4 at *
  clear hz1 hz2 hz3 hz4 hi0 hi1 hi2 hi3 H
  unfold tabV at C0 C1 C2 C3 ⊢
  go_enter Tryz.func21, Tryz.ntmps21
  go_wp2_with fail
  generalize w.alloc _ = w2 at HS ⊢
  have HC0 := Lib.hid (HS.out.new (Below.refl w2.heap.size w2).drew)
  refine wp_region_seqL (by kernel_rfl) (fun w' => CivAt w w.heap.size [.int .i64 h, .int .i64 a, .int .i64 m, .int .i64 o] w') 17 [(0, 0), (1, 1), (5, 0), (6, 1), (10, 0), (11, 1), (15, 0), (16, 1), (2, 2), (3, 0), (4, 0), (7, 2), (8, 0), (9, 0), (12, 2), (13, 0), (14, 0), (17, 2), (18, 0), (19, 0)] (by kernel_rfl) (HC0.out) ?_
  refine sl_q (d := some 6) rfl rfl rfl (.pointer (some ⟨w.heap.size, 0, none⟩)) (fun w => by go_simp) ?_
  simp only [Act.put, List.setIfInBounds_toArray, List.set_cons_zero, List.set_cons_succ]
  refine sl_s (d := some 7) rfl rfl rfl (.int .i64 h) (fun w hw => by have h := hw.1.at 0 rfl; simp [execOp, Act.eval, go_sem, h]) ?_
  simp only [Act.put, List.setIfInBounds_toArray, List.set_cons_zero, List.set_cons_succ]
  refine sl_q (d := some 11) rfl rfl rfl (.pointer (some ⟨w.heap.size, 1, none⟩)) (fun w => by go_simp) ?_
  simp only [Act.put, List.setIfInBounds_toArray, List.set_cons_zero, List.set_cons_succ]
  refine sl_s (d := some 12) rfl rfl rfl (.int .i64 a) (fun w hw => by have h := hw.1.at 1 rfl; simp [execOp, Act.eval, go_sem, h]) ?_
  simp only [Act.put, List.setIfInBounds_toArray, List.set_cons_zero, List.set_cons_succ]
  refine sl_q (d := some 16) rfl rfl rfl (.pointer (some ⟨w.heap.size, 2, none⟩)) (fun w => by go_simp) ?_
  simp only [Act.put, List.setIfInBounds_toArray, List.set_cons_zero, List.set_cons_succ]
  refine sl_s (d := some 17) rfl rfl rfl (.int .i64 m) (fun w hw => by have h := hw.1.at 2 rfl; simp [execOp, Act.eval, go_sem, h]) ?_
  simp only [Act.put, List.setIfInBounds_toArray, List.set_cons_zero, List.set_cons_succ]
  refine sl_q (d := some 21) rfl rfl rfl (.pointer (some ⟨w.heap.size, 3, none⟩)) (fun w => by go_simp) ?_
  simp only [Act.put, List.setIfInBounds_toArray, List.set_cons_zero, List.set_cons_succ]
  refine sl_s (d := some 22) rfl rfl rfl (.int .i64 o) (fun w hw => by have h := hw.1.at 3 rfl; simp [execOp, Act.eval, go_sem, h]) ?_
  simp only [Act.put, List.setIfInBounds_toArray, List.set_cons_zero, List.set_cons_succ]
  refine sl_call (d := some 8) rfl rfl rfl ⟨_, Tryz.func33, by kernel_rfl, by kernel_rfl⟩ _ _ _ rfl rfl [.int .i64 h] rfl (D0.out w2.drew) ?_
  rintro e u1 ⟨rfl, hb⟩
  have HC1 := Lib.hid (HC0.out.new hb)
  refine ⟨_, rfl, fun _ => HC1.out, ?_⟩
  clear hb HC0
  simp only [Act.put, List.setIfInBounds_toArray, List.set_cons_zero, List.set_cons_succ]
  refine sl_q (d := some 9) rfl rfl rfl (.string ⟨([104, 105, 116, 115, 32] ++ s0).toArray⟩) (fun w => add_run _ _ rfl ([104, 105, 116, 115, 32]) (s0) rfl rfl (by simp; omega)) ?_
  simp only [Act.put, List.setIfInBounds_toArray, List.set_cons_zero, List.set_cons_succ]
  refine sl_q (d := some 10) rfl rfl rfl (.string ⟨([104, 105, 116, 115, 32] ++ s0 ++ [32, 97, 108, 97, 114, 109, 115, 32]).toArray⟩) (fun w => add_run _ _ rfl ([104, 105, 116, 115, 32] ++ s0) ([32, 97, 108, 97, 114, 109, 115, 32]) rfl rfl (by simp; omega)) ?_
  simp only [Act.put, List.setIfInBounds_toArray, List.set_cons_zero, List.set_cons_succ]
  refine sl_call (d := some 13) rfl rfl rfl ⟨_, Tryz.func33, by kernel_rfl, by kernel_rfl⟩ _ _ _ rfl rfl [.int .i64 a] rfl (D1.out u1) ?_
  rintro e u2 ⟨rfl, hb⟩
  have HC2 := Lib.hid (HC1.out.new hb)
  refine ⟨_, rfl, fun _ => HC2.out, ?_⟩
  clear hb HC1
  simp only [Act.put, List.setIfInBounds_toArray, List.set_cons_zero, List.set_cons_succ]
  refine sl_q (d := some 14) rfl rfl rfl (.string ⟨([104, 105, 116, 115, 32] ++ s0 ++ [32, 97, 108, 97, 114, 109, 115, 32] ++ s1).toArray⟩) (fun w => add_run _ _ rfl ([104, 105, 116, 115, 32] ++ s0 ++ [32, 97, 108, 97, 114, 109, 115, 32]) (s1) rfl rfl (by simp; omega)) ?_
  simp only [Act.put, List.setIfInBounds_toArray, List.set_cons_zero, List.set_cons_succ]
  refine sl_q (d := some 15) rfl rfl rfl (.string ⟨([104, 105, 116, 115, 32] ++ s0 ++ [32, 97, 108, 97, 114, 109, 115, 32] ++ s1 ++ [32, 109, 105, 115, 115, 101, 115, 32]).toArray⟩) (fun w => add_run _ _ rfl ([104, 105, 116, 115, 32] ++ s0 ++ [32, 97, 108, 97, 114, 109, 115, 32] ++ s1) ([32, 109, 105, 115, 115, 101, 115, 32]) rfl rfl (by simp; omega)) ?_
  simp only [Act.put, List.setIfInBounds_toArray, List.set_cons_zero, List.set_cons_succ]
  refine sl_call (d := some 18) rfl rfl rfl ⟨_, Tryz.func33, by kernel_rfl, by kernel_rfl⟩ _ _ _ rfl rfl [.int .i64 m] rfl (D2.out u2) ?_
  rintro e u3 ⟨rfl, hb⟩
  have HC3 := Lib.hid (HC2.out.new hb)
  refine ⟨_, rfl, fun _ => HC3.out, ?_⟩
  clear hb HC2
  simp only [Act.put, List.setIfInBounds_toArray, List.set_cons_zero, List.set_cons_succ]
  refine sl_q (d := some 19) rfl rfl rfl (.string ⟨([104, 105, 116, 115, 32] ++ s0 ++ [32, 97, 108, 97, 114, 109, 115, 32] ++ s1 ++ [32, 109, 105, 115, 115, 101, 115, 32] ++ s2).toArray⟩) (fun w => add_run _ _ rfl ([104, 105, 116, 115, 32] ++ s0 ++ [32, 97, 108, 97, 114, 109, 115, 32] ++ s1 ++ [32, 109, 105, 115, 115, 101, 115, 32]) (s2) rfl rfl (by simp; omega)) ?_
  simp only [Act.put, List.setIfInBounds_toArray, List.set_cons_zero, List.set_cons_succ]
  refine sl_q (d := some 20) rfl rfl rfl (.string ⟨([104, 105, 116, 115, 32] ++ s0 ++ [32, 97, 108, 97, 114, 109, 115, 32] ++ s1 ++ [32, 109, 105, 115, 115, 101, 115, 32] ++ s2 ++ [32, 111, 116, 104, 101, 114, 115, 32]).toArray⟩) (fun w => add_run _ _ rfl ([104, 105, 116, 115, 32] ++ s0 ++ [32, 97, 108, 97, 114, 109, 115, 32] ++ s1 ++ [32, 109, 105, 115, 115, 101, 115, 32] ++ s2) ([32, 111, 116, 104, 101, 114, 115, 32]) rfl rfl (by simp; omega)) ?_
  simp only [Act.put, List.setIfInBounds_toArray, List.set_cons_zero, List.set_cons_succ]
  refine sl_call (d := some 23) rfl rfl rfl ⟨_, Tryz.func33, by kernel_rfl, by kernel_rfl⟩ _ _ _ rfl rfl [.int .i64 o] rfl (D3.out u3) ?_
  rintro e u4 ⟨rfl, hb⟩
  have HC4 := Lib.hid (HC3.out.new hb)
  refine ⟨_, rfl, (fun h => by cases h), ?_⟩
  clear hb HC3
  simp only [Act.put, List.setIfInBounds_toArray, List.set_cons_zero, List.set_cons_succ]
  refine sl_q (d := some 24) rfl rfl rfl (.string ⟨([104, 105, 116, 115, 32] ++ s0 ++ [32, 97, 108, 97, 114, 109, 115, 32] ++ s1 ++ [32, 109, 105, 115, 115, 101, 115, 32] ++ s2 ++ [32, 111, 116, 104, 101, 114, 115, 32] ++ s3).toArray⟩) (fun w => add_run _ _ rfl ([104, 105, 116, 115, 32] ++ s0 ++ [32, 97, 108, 97, 114, 109, 115, 32] ++ s1 ++ [32, 109, 105, 115, 115, 101, 115, 32] ++ s2 ++ [32, 111, 116, 104, 101, 114, 115, 32]) (s3) rfl rfl (by simp; omega)) ?_
  simp only [Act.put, List.setIfInBounds_toArray, List.set_cons_zero, List.set_cons_succ]
  refine sl_q (d := some 3) rfl rfl rfl (.string ⟨([104, 105, 116, 115, 32] ++ s0 ++ [32, 97, 108, 97, 114, 109, 115, 32] ++ s1 ++ [32, 109, 105, 115, 115, 101, 115, 32] ++ s2 ++ [32, 111, 116, 104, 101, 114, 115, 32] ++ s3).toArray⟩) (fun w => rfl) ?_
  simp only [Act.put, List.setIfInBounds_toArray, List.set_cons_zero, List.set_cons_succ]
  refine sl_end ?_
  rw [← HB0.out]
  clear hl0 hl1 hl2 hl3 il0 il1 il2 il3 hB D0 D1 D2 D3 HB0
  have HK := Lib.hid HC4.out
  clear HC4
  go_wp2_with (first
    | ((first | with_reducible refine gate_ld ?_ | with_reducible refine gate_ldw ?_); refine row_load rfl _ rfl (w.heap.size) rfl [.int .i64 h, .int .i64 a, .int .i64 m, .int .i64 o] HK.out.1 rowT_tab ?_)
    | fail)
  refine (C0.out _).mono ?_
  rintro e w5 ⟨rfl, hb⟩
  have HK5 := Lib.hid (HK.out.new hb)
  clear hb HK
  simp only [frV]
  have hcv : w.heap.size ≠ w5.heap.size := by have := HK5.out.1.lt; omega
  have HT0 : Hid (TS w w.heap.size w5.heap.size [.int .i64 h, .int .i64 a, .int .i64 m, .int .i64 o] [.int .i64 p0, .int .i64 q0] (w5.alloc (.cells #[.int .i64 p0, .int .i64 q0] 24))) :=
    ⟨HK5.out.1.below ((Below.refl _ _).alloc (Nat.le_refl _) _), RowAt.new w5 [.int .i64 p0, .int .i64 q0] (by simp) _ rfl, below_then HK5.out.2 ((Below.refl _ _).alloc (Nat.le_refl _) _), HK5.out.2.size, hcv⟩
  go_wp2_with (first
    | ((first | with_reducible refine gate_ld ?_ | with_reducible refine gate_ldw ?_); refine row_load rfl _ rfl (w5.heap.size) rfl [.int .i64 p0, .int .i64 q0] HT0.out.y rowT_fr ?_)
    | fail)
  refine (N0.out _).mono ?_
  rintro e wa0 ⟨rfl, hb⟩
  have HU0 := Lib.hid (HT0.out.new hb)
  clear hb HT0
  go_wp2_with (first
    | ((first | with_reducible refine gate_ld ?_ | with_reducible refine gate_ldw ?_); refine row_load rfl _ rfl (w.heap.size) rfl [.int .i64 h, .int .i64 a, .int .i64 m, .int .i64 o] HU0.out.x rowT_tab ?_)
    | fail)
  refine (C1.out _).mono ?_
  rintro e wb0 ⟨rfl, hb⟩
  have HV0 := Lib.hid (HU0.out.new hb)
  clear hb HU0
  simp only [frV]
  go_wp2_with (first
    | ((first | with_reducible refine gate_st ?_ | with_reducible refine gate_stw ?_)
       refine row_store rfl _ _ rfl w5.heap.size rfl [.int .i64 p0, .int .i64 q0] [.int .i64 p1, .int .i64 q1] rfl HV0.out.y rfl rowT_fr (List.all_eq_true.1 rfl) ?_
       intro wz0 HRow Hap
       have HT1 := Lib.hid (HV0.out.put HRow Hap)
       clear HRow Hap)
    | ((first | with_reducible refine gate_ld ?_ | with_reducible refine gate_ldw ?_); refine row_load rfl _ rfl (w5.heap.size) rfl [.int .i64 p1, .int .i64 q1] HT1.out.y rowT_fr ?_)
    | fail)
  refine (N1.out _).mono ?_
  rintro e wa1 ⟨rfl, hb⟩
  have HU1 := Lib.hid (HT1.out.new hb)
  clear hb HT1
  go_wp2_with (first
    | ((first | with_reducible refine gate_ld ?_ | with_reducible refine gate_ldw ?_); refine row_load rfl _ rfl (w.heap.size) rfl [.int .i64 h, .int .i64 a, .int .i64 m, .int .i64 o] HU1.out.x rowT_tab ?_)
    | fail)
  refine (C2.out _).mono ?_
  rintro e wb1 ⟨rfl, hb⟩
  have HV1 := Lib.hid (HU1.out.new hb)
  clear hb HU1
  simp only [frV]
  go_wp2_with (first
    | ((first | with_reducible refine gate_st ?_ | with_reducible refine gate_stw ?_)
       refine row_store rfl _ _ rfl w5.heap.size rfl [.int .i64 p1, .int .i64 q1] [.int .i64 p2, .int .i64 q2] rfl HV1.out.y rfl rowT_fr (List.all_eq_true.1 rfl) ?_
       intro wz1 HRow Hap
       have HT2 := Lib.hid (HV1.out.put HRow Hap)
       clear HRow Hap)
    | ((first | with_reducible refine gate_ld ?_ | with_reducible refine gate_ldw ?_); refine row_load rfl _ rfl (w5.heap.size) rfl [.int .i64 p2, .int .i64 q2] HT2.out.y rowT_fr ?_)
    | fail)
  refine (N2.out _).mono ?_
  rintro e wa2 ⟨rfl, hb⟩
  have HU2 := Lib.hid (HT2.out.new hb)
  clear hb HT2
  go_wp2_with (first
    | ((first | with_reducible refine gate_ld ?_ | with_reducible refine gate_ldw ?_); refine row_load rfl _ rfl (w.heap.size) rfl [.int .i64 h, .int .i64 a, .int .i64 m, .int .i64 o] HU2.out.x rowT_tab ?_)
    | fail)
  refine (C3.out _).mono ?_
  rintro e wb2 ⟨rfl, hb⟩
  have HV2 := Lib.hid (HU2.out.new hb)
  clear hb HU2
  simp only [frV]
  go_wp2_with (first
    | ((first | with_reducible refine gate_st ?_ | with_reducible refine gate_stw ?_)
       refine row_store rfl _ _ rfl w5.heap.size rfl [.int .i64 p2, .int .i64 q2] [.int .i64 p3, .int .i64 q3] rfl HV2.out.y rfl rowT_fr (List.all_eq_true.1 rfl) ?_
       intro wz2 HRow Hap
       have HT3 := Lib.hid (HV2.out.put HRow Hap)
       clear HRow Hap)
    | ((first | with_reducible refine gate_ld ?_ | with_reducible refine gate_ldw ?_); refine row_load rfl _ rfl (w5.heap.size) rfl [.int .i64 p3, .int .i64 q3] HT3.out.y rowT_fr ?_)
    | fail)
  refine (N3.out _).mono ?_
  rintro e wa3 ⟨rfl, hb⟩
  have HU3 := Lib.hid (HT3.out.new hb)
  clear hb HT3
  go_wp2_with fail
  go_ret
  exact ⟨by rw [HTT.out]; rfl, HU3.out.b⟩
end Go.Proofs.YtmmmebdgannpgaaGreatDoor
/- Texts of tables of the monitor. Printed by gen_txte.py. -/
namespace Go.Proofs.YtmmmebdgannpgaaGreatDoor
open Go Go.RowKit

def nms : List (List UInt8) := [[100, 101, 116, 101, 99, 116, 105, 111, 110], [102, 97, 108, 115, 101], [116, 104, 114, 101, 97, 116], [104, 101, 105, 100, 107, 101]]
def fnsV : List Value := [fnV 52, fnV 53, fnV 54, fnV 55]
abbrev FcT : TypeId := 98
/-- The writer, the names and the functions. -/
structure TbS (w : World) (b nb fb : Nat) (ds : List Value) (l : List UInt8) (wr : World) : Prop where
  ws : WrS w w.heap.size b ds l wr
  ns : StrsAt wr nb nms
  fs : wr.heap[fb]? = some (.cells fnsV.toArray FcT (0, 0))
  hn : nb ≠ b
  hf : fb ≠ b
section
variable {w wr w' : World} {b nb fb : Nat} {ds : List Value} {l l' : List UInt8}
theorem StrsAt.below {c : Nat} {ss : List (List UInt8)} (h : StrsAt wr c ss) (hb : Below wr.heap.size wr w') : StrsAt w' c ss := by
  obtain ⟨cs, fr, h1, h2⟩ := h
  exact ⟨cs, fr, by rw [hb.block c (Array.getElem?_eq_some_iff.1 h1).1]; exact h1, h2⟩
theorem TbS.new (h : TbS w b nb fb ds l wr) (hb : Below wr.heap.size wr w') : TbS w b nb fb ds l w' :=
  ⟨h.ws.new hb, h.ns.below hb, by rw [hb.block fb (Array.getElem?_eq_some_iff.1 h.fs).1]; exact h.fs, h.hn, h.hf⟩
theorem TbS.wrote (h : TbS w b nb fb ds l wr) (k : Wrote w.heap.size b l' wr w') : TbS w b nb fb ds l' w' :=
  ⟨h.ws.wrote k, h.ns.keeps k.2.2 h.hn, k.2.2 fb _ _ _ h.fs (by decide) h.hf, h.hn, h.hf⟩
theorem TbS.re (h : TbS w b nb fb ds l wr) (hw : WrS w w.heap.size b ds l' w') (hb : Below wr.heap.size wr w') : TbS w b nb fb ds l' w' :=
  ⟨hw, h.ns.below hb, by rw [hb.block fb (Array.getElem?_eq_some_iff.1 h.fs).1]; exact h.fs, h.hn, h.hf⟩
end
theorem WrS.make {w wr : World} {c : Nat} {ds : List Value} (hbox : ∃ T, T ≠ 5 ∧ wr.heap[c]? = some (.cells ds.toArray T (0, 0))) (hp : 0 < ds.length) (hb : Below w.heap.size w wr) : WrS w c wr.heap.size ds [] (wr.alloc (.cells #[.pointer none, .slice none 0 0] WT)) := by
  obtain ⟨T, hT, hx⟩ := hbox
  have hlt := (Array.getElem?_eq_some_iff.1 hx).1
  refine ⟨⟨T, hT, ?_⟩, Or.inl ⟨hb.size, _, heap_alloc_new wr _, World.ownsRow_nil _ _ _ _, by simp [Value.ownBlock]⟩, below_then hb ((Below.refl _ _).alloc (Nat.le_refl _) _), by omega, hp⟩
  rw [Lib.alloc_old _ _ _ hlt]; exact hx
set_option maxHeartbeats 8000000 in
set_option maxRecDepth 100000 in
theorem table_any (h a m o : Int) (H : Four h a m o) (w : World) (hT : Tab w) : Calls Tryz.prog 20 #[tabV h a m o] w fun e w' => e = .returned (strV (tabT h a m o 4)) ∧ Below w.heap.size w w' := by
  have HT := Lib.hid hT
  have HI := Lib.hid H
  have HS : Hid (CivAt w w.heap.size [.int .i64 h, .int .i64 a, .int .i64 m, .int .i64 o] (w.alloc (.cells #[.int .i64 h, .int .i64 a, .int .i64 m, .int .i64 o] 33))) := ⟨RowAt.new w [.int .i64 h, .int .i64 a, .int .i64 m, .int .i64 o] (by simp) _ rfl, (Below.refl _ _).alloc (Nat.le_refl _) _⟩
  have HX : Hid (∃ T, T ≠ 5 ∧ (w.alloc (.cells #[.int .i64 h, .int .i64 a, .int .i64 m, .int .i64 o] 33)).heap[w.heap.size]? = some (.cells ([.int .i64 h, .int .i64 a, .int .i64 m, .int .i64 o] : List Value).toArray T (0, 0))) := ⟨33, by decide, heap_alloc_new w _⟩
  have hl1 := (itoa_len _ H.1).2
  have hl2 := (itoa_len _ H.2.1).2
  have hl3 := (itoa_len _ H.2.2.1).2
  have hl4 := (itoa_len _ H.2.2.2).2
  have HB0 : Hid ((wordsOf [] [[104, 105, 116, 115], Lib.itoa h]).length ≤ 100) := wl (by simp only [List.map_cons, List.map_nil, List.sum_cons, List.sum_nil, List.length_cons, List.length_nil]; omega)
  have HB1 : Hid ((wordsOf (wordsOf [] [[104, 105, 116, 115], Lib.itoa h]) [[97, 108, 97, 114, 109, 115], Lib.itoa a]).length ≤ 200) := wl (by have := HB0.out; simp only [List.map_cons, List.map_nil, List.sum_cons, List.sum_nil, List.length_cons, List.length_nil]; omega)
  have HB2 : Hid ((wordsOf (wordsOf (wordsOf [] [[104, 105, 116, 115], Lib.itoa h]) [[97, 108, 97, 114, 109, 115], Lib.itoa a]) [[109, 105, 115, 115, 101, 115], Lib.itoa m]).length ≤ 300) := wl (by have := HB1.out; simp only [List.map_cons, List.map_nil, List.sum_cons, List.sum_nil, List.length_cons, List.length_nil]; omega)
  clear hT H hl1 hl2 hl3 hl4
  unfold tabV
  go_enter Tryz.func20, Tryz.ntmps20
  go_wp2_with fail
  generalize w.alloc _ = w2 at HS HX ⊢
  have HC0 := Lib.hid (HS.out.new (Below.refl w2.heap.size w2).drew)
  have HXd : Hid (∃ T, T ≠ 5 ∧ w2.drew.heap[w.heap.size]? = some (.cells ([.int .i64 h, .int .i64 a, .int .i64 m, .int .i64 o] : List Value).toArray T (0, 0))) := HX.out
  have hb2 : w.heap.size < w2.heap.size := HS.out.1.lt
  generalize hbk : w2.drew.heap.size = b at *
  refine wp_region_seqL (by kernel_rfl) (fun w' => CivAt w w.heap.size [.int .i64 h, .int .i64 a, .int .i64 m, .int .i64 o] w') 13 [(0, 0), (2, 0), (3, 1), (5, 0), (6, 1), (8, 0), (9, 1), (11, 0), (12, 1), (1, 2), (4, 2), (7, 2), (10, 2), (13, 2), (14, 0)] (by kernel_rfl) (HC0.out) ?_
  refine sl_q (d := some 9) rfl rfl rfl (.agg #[.pointer none, .slice none 0 0]) (fun w => by simp [execOp, Act.eval, Instr.build, go_sem]) ?_
  simp only [Act.put, List.setIfInBounds_toArray, List.set_cons_zero, List.set_cons_succ]
  refine sl_q (d := some 11) rfl rfl rfl (.pointer (some ⟨w.heap.size, 0, none⟩)) (fun w => by go_simp) ?_
  simp only [Act.put, List.setIfInBounds_toArray, List.set_cons_zero, List.set_cons_succ]
  refine sl_s (d := some 12) rfl rfl rfl (.int .i64 h) (fun w hw => by have h := hw.1.at 0 rfl; simp [execOp, Act.eval, go_sem, h]) ?_
  simp only [Act.put, List.setIfInBounds_toArray, List.set_cons_zero, List.set_cons_succ]
  refine sl_q (d := some 14) rfl rfl rfl (.pointer (some ⟨w.heap.size, 1, none⟩)) (fun w => by go_simp) ?_
  simp only [Act.put, List.setIfInBounds_toArray, List.set_cons_zero, List.set_cons_succ]
  refine sl_s (d := some 15) rfl rfl rfl (.int .i64 a) (fun w hw => by have h := hw.1.at 1 rfl; simp [execOp, Act.eval, go_sem, h]) ?_
  simp only [Act.put, List.setIfInBounds_toArray, List.set_cons_zero, List.set_cons_succ]
  refine sl_q (d := some 17) rfl rfl rfl (.pointer (some ⟨w.heap.size, 2, none⟩)) (fun w => by go_simp) ?_
  simp only [Act.put, List.setIfInBounds_toArray, List.set_cons_zero, List.set_cons_succ]
  refine sl_s (d := some 18) rfl rfl rfl (.int .i64 m) (fun w hw => by have h := hw.1.at 2 rfl; simp [execOp, Act.eval, go_sem, h]) ?_
  simp only [Act.put, List.setIfInBounds_toArray, List.set_cons_zero, List.set_cons_succ]
  refine sl_q (d := some 20) rfl rfl rfl (.pointer (some ⟨w.heap.size, 3, none⟩)) (fun w => by go_simp) ?_
  simp only [Act.put, List.setIfInBounds_toArray, List.set_cons_zero, List.set_cons_succ]
  refine sl_s (d := some 21) rfl rfl rfl (.int .i64 o) (fun w hw => by have h := hw.1.at 3 rfl; simp [execOp, Act.eval, go_sem, h]) ?_
  simp only [Act.put, List.setIfInBounds_toArray, List.set_cons_zero, List.set_cons_succ]
  have HD1 : Hid (WrS w w.heap.size b [.int .i64 h, .int .i64 a, .int .i64 m, .int .i64 o] [] (w2.drew.alloc (.cells #[.pointer none, .slice none 0 0] WT))) := by rw [← hbk]; exact WrS.make HXd.out (by simp) HC0.out.2
  refine sl_run (d := some 10) rfl rfl rfl (.pointer (some ⟨b, 0, none⟩)) (w2.drew.alloc (.cells #[.pointer none, .slice none 0 0] WT)) (by rw [← hbk]; simp [execOp, Act.eval, Instr.box, go_sem]) (fun _ => HD1.out.civ) ?_
  simp only [Act.put, List.setIfInBounds_toArray, List.set_cons_zero, List.set_cons_succ]
  generalize w2.drew.alloc (.cells #[.pointer none, .slice none 0 0] WT) = u1 at *
  clear HC0
  refine sl_call (d := some 13) rfl rfl rfl ⟨_, Tryz.func41, by kernel_rfl, by kernel_rfl⟩ _ _ _ rfl rfl [.pointer (some ⟨b, 0, none⟩), strV [104, 105, 116, 115], .int .i64 (h)] rfl (number_any w.heap.size b ([]) [104, 105, 116, 115] (h) u1 HD1.out.isb HD1.out.le (HD1.out.tab HT.out) HI.out.1 (by simp) (by simp)) ?_
  rintro e u2 ⟨rfl, hw⟩
  have HD2 := Lib.hid (HD1.out.wrote hw)
  refine ⟨_, rfl, fun _ => HD2.out.civ, ?_⟩
  clear hw HD1
  simp only [Act.put, List.setIfInBounds_toArray, List.set_cons_zero, List.set_cons_succ]
  refine sl_call (d := some 16) rfl rfl rfl ⟨_, Tryz.func41, by kernel_rfl, by kernel_rfl⟩ _ _ _ rfl rfl [.pointer (some ⟨b, 0, none⟩), strV [97, 108, 97, 114, 109, 115], .int .i64 (a)] rfl (number_any w.heap.size b (wordsOf ([]) [[104, 105, 116, 115], Lib.itoa (h)]) [97, 108, 97, 114, 109, 115] (a) u2 HD2.out.isb HD2.out.le (HD2.out.tab HT.out) HI.out.2.1 (by have := HB0.out; omega) (by simp)) ?_
  rintro e u3 ⟨rfl, hw⟩
  have HD3 := Lib.hid (HD2.out.wrote hw)
  refine ⟨_, rfl, fun _ => HD3.out.civ, ?_⟩
  clear hw HD2
  simp only [Act.put, List.setIfInBounds_toArray, List.set_cons_zero, List.set_cons_succ]
  refine sl_call (d := some 19) rfl rfl rfl ⟨_, Tryz.func41, by kernel_rfl, by kernel_rfl⟩ _ _ _ rfl rfl [.pointer (some ⟨b, 0, none⟩), strV [109, 105, 115, 115, 101, 115], .int .i64 (m)] rfl (number_any w.heap.size b (wordsOf (wordsOf ([]) [[104, 105, 116, 115], Lib.itoa (h)]) [[97, 108, 97, 114, 109, 115], Lib.itoa (a)]) [109, 105, 115, 115, 101, 115] (m) u3 HD3.out.isb HD3.out.le (HD3.out.tab HT.out) HI.out.2.2.1 (by have := HB1.out; omega) (by simp)) ?_
  rintro e u4 ⟨rfl, hw⟩
  have HD4 := Lib.hid (HD3.out.wrote hw)
  refine ⟨_, rfl, fun _ => HD4.out.civ, ?_⟩
  clear hw HD3
  simp only [Act.put, List.setIfInBounds_toArray, List.set_cons_zero, List.set_cons_succ]
  refine sl_call (d := some 22) rfl rfl rfl ⟨_, Tryz.func41, by kernel_rfl, by kernel_rfl⟩ _ _ _ rfl rfl [.pointer (some ⟨b, 0, none⟩), strV [111, 116, 104, 101, 114, 115], .int .i64 (o)] rfl (number_any w.heap.size b (wordsOf (wordsOf (wordsOf ([]) [[104, 105, 116, 115], Lib.itoa (h)]) [[97, 108, 97, 114, 109, 115], Lib.itoa (a)]) [[109, 105, 115, 115, 101, 115], Lib.itoa (m)]) [111, 116, 104, 101, 114, 115] (o) u4 HD4.out.isb HD4.out.le (HD4.out.tab HT.out) HI.out.2.2.2 (by have := HB2.out; omega) (by simp)) ?_
  rintro e u5 ⟨rfl, hw⟩
  have HDz := Lib.hid HD4.out
  refine ⟨_, rfl, (fun h => by cases h), ?_⟩
  simp only [Act.put, List.setIfInBounds_toArray, List.set_cons_zero, List.set_cons_succ]
  refine sl_q (d := some 3) rfl rfl rfl (.pointer (some ⟨b, 0, none⟩)) (fun w => rfl) ?_
  simp only [Act.put, List.setIfInBounds_toArray, List.set_cons_zero, List.set_cons_succ]
  refine sl_end ?_
  have HWz := Lib.hid (HDz.out.wrote hw)
  clear hw HDz HB0 HB1 HB2 HX HXd
  have HE0 : Hid (wordsOf (wordsOf (wordsOf (wordsOf [] [[104, 105, 116, 115], Lib.itoa h]) [[97, 108, 97, 114, 109, 115], Lib.itoa a]) [[109, 105, 115, 115, 101, 115], Lib.itoa m]) [[111, 116, 104, 101, 114, 115], Lib.itoa o] = tabT h a m o 0) := rfl
  rw [HE0.out] at HWz
  have hbl : w.heap.size < b := by rw [← hbk]; exact hb2
  go_wp2_with fail
  have hlt5 := HWz.out.lt
  have HTb : Hid (TbS w b u5.heap.size (u5.heap.size + 1) [.int .i64 h, .int .i64 a, .int .i64 m, .int .i64 o] (tabT h a m o 0) ((u5.alloc (.cells #[.string ⟨#[100, 101, 116, 101, 99, 116, 105, 111, 110]⟩, .string ⟨#[102, 97, 108, 115, 101]⟩, .string ⟨#[116, 104, 114, 101, 97, 116]⟩, .string ⟨#[104, 101, 105, 100, 107, 101]⟩] 9)).alloc (.cells #[.func (.func 52) #[] #[], .func (.func 53) #[] #[], .func (.func 54) #[] #[], .func (.func 55) #[] #[]] FcT))) := by
    have hb1 : Below u5.heap.size u5 ((u5.alloc (.cells #[.string ⟨#[100, 101, 116, 101, 99, 116, 105, 111, 110]⟩, .string ⟨#[102, 97, 108, 115, 101]⟩, .string ⟨#[116, 104, 114, 101, 97, 116]⟩, .string ⟨#[104, 101, 105, 100, 107, 101]⟩] 9)).alloc (.cells #[.func (.func 52) #[] #[], .func (.func 53) #[] #[], .func (.func 54) #[] #[], .func (.func 55) #[] #[]] FcT)) := ((Below.refl _ _).alloc (Nat.le_refl _) _).alloc (by simp) _
    refine ⟨HWz.out.new hb1, (strs_lit u5 nms rfl rfl).below ((Below.refl _ _).alloc (Nat.le_refl _) _), ?_, by omega, by omega⟩
    have e : (u5.alloc (.cells #[.string ⟨#[100, 101, 116, 101, 99, 116, 105, 111, 110]⟩, .string ⟨#[102, 97, 108, 115, 101]⟩, .string ⟨#[116, 104, 114, 101, 97, 116]⟩, .string ⟨#[104, 101, 105, 100, 107, 101]⟩] 9)).heap.size = u5.heap.size + 1 := by simp
    rw [← e]
    exact heap_alloc_new _ _
  generalize hnb : u5.heap.size = nb at *
  generalize hfb : nb + 1 = fb at *
  generalize (u5.alloc _).alloc _ = w6 at HTb ⊢
  clear HWz HE0 hlt5 hnb hfb hb2 hbk hbl
  go_loopw [26] (fun kv wr => ∃ k : Nat, k ≤ 4 ∧ kv = .int .i64 k ∧ Hid (TbS w b nb fb [.int .i64 h, .int .i64 a, .int .i64 m, .int .i64 o] (tabT h a m o k) wr)) (fun kv _ => 4 - (intOf kv).toNat)
  case atStart => exact ⟨0, by omega, rfl, HTb⟩
  case round =>
    clear HTb
    obtain ⟨k, hk, rfl, HB⟩ := hrel
    have htl := tabT_len HI.out k
    have htn : tabT h a m o k ≠ [] := by intro e; rw [e] at htl; simp at htl
    rcases (show k = 0 ∨ k = 1 ∨ k = 2 ∨ k = 3 ∨ k = 4 by omega) with rfl | rfl | rfl | rfl | rfl
    · have HNm : Hid (∀ x : Int × Int × Int, x = ofT h a m o (h) (h + m) → tabT h a m o (0 + 1) = tabT h a m o 0 ++ nmT [100, 101, 116, 101, 99, 116, 105, 111, 110] x) := fun x hx => by rw [hx]; rfl
      have CT := Lib.hid (fun w => Detection_any h a m o w)
      have hi := ofT_I64 h a m o (h) (h + m)
      generalize hx : ofT h a m o (h) (h + m) = x at *
      have HN := Lib.hid (HNm.out x rfl)
      clear hx HNm
      generalize tabT h a m o 0 = tx at *
      obtain ⟨p, q, r⟩ := x
      have HXI := Lib.hid hi
      clear hi
      have hcell : wr.cell? ⟨fb, 0, none⟩ = some (fnV 52) := by simp [World.cell?, HB.out.fs, fnsV]
      have hnm : wr.cell? ⟨nb, 0, none⟩ = some (strV [100, 101, 116, 101, 99, 116, 105, 111, 110]) := HB.out.ns.cell (i := 0) (by decide)
      have HNm := Lib.hid hnm
      clear hnm
      unfold tabV at CT
      unfold fnV at hcell
      go_wp2_with (first
        | ((first | with_reducible refine gate_ld ?_ | with_reducible refine gate_ldw ?_); refine row_load rfl _ rfl (w.heap.size) rfl [.int .i64 h, .int .i64 a, .int .i64 m, .int .i64 o] HB.out.ws.civ.1 rowT_tab ?_)
        | fail)
      refine (CT.out _).mono ?_
      rintro e w7 ⟨rfl, hb⟩
      have HB7 := Lib.hid (HB.out.new hb)
      have hnm7 := cell_then hb HNm.out
      clear hb HB CT hcell HNm
      simp only [frV]
      by_cases hr : r = 0
      · subst hr
        have HFr : Hid (RowAt (w7.alloc (.cells #[.int .i64 p, .int .i64 q] 24)) w7.heap.size [.int .i64 p, .int .i64 q]) := RowAt.new w7 [.int .i64 p, .int .i64 q] (by simp) _ rfl
        have HB8 := Lib.hid (HB7.out.new ((Below.refl w7.heap.size w7).alloc (Nat.le_refl _) (.cells #[.int .i64 p, .int .i64 q] 24)))
        have hnm8 := cell_then ((Below.refl w7.heap.size w7).alloc (Nat.le_refl _) (.cells #[.int .i64 p, .int .i64 q] 24)) hnm7
        have HNm8 := Lib.hid hnm8
        clear hnm7 hnm8 HB7
        go_wp2_with fail
        generalize hfx : w7.heap.size = fx at *
        generalize w7.alloc _ = w8 at HFr HB8 HNm8 ⊢
        clear hfx
        have HD0 := Lib.hid (HB8.out.new (Below.refl w8.heap.size w8).drew).ws
        have hfl := fracT_len p q HXI.out.1 HXI.out.2
        refine wp_region_seqL (by kernel_rfl) (fun w' => Below w8.heap.size w8 w') 8 [(0, 0), (1, 0), (2, 0), (3, 0), (4, 1), (5, 1), (6, 2), (7, 2), (8, 2)] (by kernel_rfl) ((Below.refl _ _).drew) ?_
        refine sl_q (d := some 39) rfl rfl rfl (.pointer (some ⟨b, 0, none⟩)) (fun w => rfl) ?_
        simp only [Act.put, List.setIfInBounds_toArray, List.set_cons_zero, List.set_cons_succ]
        refine sl_q (d := some 40) rfl rfl rfl (.slice (some ⟨nb, 0, none⟩) 4 4) (fun w => rfl) ?_
        simp only [Act.put, List.setIfInBounds_toArray, List.set_cons_zero, List.set_cons_succ]
        refine sl_q (d := some 41) rfl rfl rfl (.int .i64 0) (fun w => rfl) ?_
        simp only [Act.put, List.setIfInBounds_toArray, List.set_cons_zero, List.set_cons_succ]
        refine sl_q (d := some 42) rfl rfl rfl (.pointer (some ⟨nb, 0, none⟩)) (fun w => by simp [execOp, Act.eval, go_sem]) ?_
        simp only [Act.put, List.setIfInBounds_toArray, List.set_cons_zero, List.set_cons_succ]
        refine sl_s (d := some 43) rfl rfl rfl (strV [100, 101, 116, 101, 99, 116, 105, 111, 110]) (fun w hw => by have h := cell_then hw HNm8.out; simp [execOp, Act.eval, go_sem, h]) ?_
        simp only [Act.put, List.setIfInBounds_toArray, List.set_cons_zero, List.set_cons_succ]
        refine sl_s (d := some 44) rfl rfl rfl (.agg #[.int .i64 p, .int .i64 q]) (fun w hw => row_loadC (HFr.out.below hw) rowT_fr _ rfl rfl) ?_
        simp only [Act.put, List.setIfInBounds_toArray, List.set_cons_zero, List.set_cons_succ]
        refine sl_call (d := some 45) rfl rfl rfl ⟨_, Tryz.func12, by kernel_rfl, by kernel_rfl⟩ _ _ _ rfl rfl [.agg #[.int .i64 p, .int .i64 q]] rfl (fraction_any p q HXI.out.1 HXI.out.2 w8.drew (HD0.out.tab HT.out)) ?_
        rintro e u1 ⟨rfl, hb⟩
        have HD1 := Lib.hid (HD0.out.new hb)
        have HQ1 := Lib.hid (below_then ((Below.refl w8.heap.size w8).drew) hb)
        refine ⟨_, rfl, fun _ => HQ1.out, ?_⟩
        clear hb HD0
        simp only [Act.put, List.setIfInBounds_toArray, List.set_cons_zero, List.set_cons_succ]
        obtain ⟨u2, hu2⟩ : ∃ x, x = u1.alloc (.cells #[strV ([100, 101, 116, 101, 99, 116, 105, 111, 110]), strV (fracT p q)] 9) := ⟨_, rfl⟩
        obtain ⟨g, hg⟩ : ∃ x, x = u1.heap.size := ⟨_, rfl⟩
        have hb : Below u1.heap.size u1 u2 := by rw [hu2]; exact (Below.refl _ _).alloc (Nat.le_refl _) _
        have HD2 := Lib.hid (HD1.out.new hb)
        have HLg : Hid (StrsAt u2 g [[100, 101, 116, 101, 99, 116, 105, 111, 110], fracT p q]) := by unfold Hid; rw [hu2]; exact strs_lit _ [[100, 101, 116, 101, 99, 116, 105, 111, 110], fracT p q] rfl hg.symm
        have HNeg : Hid (g ≠ b) := by have := HD1.out.lt; unfold Hid; omega
        have HQ2 := Lib.hid (below_then HQ1.out hb)
        refine sl_run (d := some 46) rfl rfl rfl (.slice (some ⟨g, 0, none⟩) 2 2) u2 (by rw [hu2, hg]; simp [execOp, Act.eval, go_sem, strV]) (fun _ => HQ2.out) ?_
        simp only [Act.put, List.setIfInBounds_toArray, List.set_cons_zero, List.set_cons_succ]
        clear hb HD1 hu2 hg
        refine sl_call (d := some 47) rfl rfl rfl ⟨_, Tryz.func42, by kernel_rfl, by kernel_rfl⟩ _ _ _ rfl rfl [.pointer (some ⟨b, 0, none⟩), .slice (some ⟨g, 0, none⟩) 2 2] rfl (words_any w.heap.size b g 2 2 (tx) [[100, 101, 116, 101, 99, 116, 105, 111, 110], fracT p q] u2 HD2.out.isb HLg.out rfl HNeg.out (by simp; omega) HD2.out.le) ?_
        rintro e u3 ⟨rfl, hw⟩
        have HDz := Lib.hid HD2.out
        refine ⟨_, rfl, (fun h => by cases h), ?_⟩
        simp only [Act.put, List.setIfInBounds_toArray, List.set_cons_zero, List.set_cons_succ]
        refine sl_end ?_
        have HW := Lib.hid (HB8.out.re HDz.out HQ2.out)
        have HR := Lib.hid (HW.out.wrote hw)
        clear hw HDz HQ2 HW HB8
        rw [words_nm (x := (p, q, 0)) htn rfl, ← HN.out] at HR
        go_wp2_with fail
        go_roundw
        case rel => exact ⟨0 + 1, by omega, rfl, HR⟩
        case measure => simp [intOf]
      · have hr0 : (r == 0) = false := by simpa using hr
        have HTx : Hid (tx = tabT h a m o (0 + 1)) := by unfold Hid; rw [HN.out]; exact none_nm hr
        have HR := Lib.hid (HB7.out.new ((Below.refl w7.heap.size w7).alloc (Nat.le_refl _) (.cells #[.int .i64 p, .int .i64 q] 24)))
        rw [HTx.out] at HR
        clear hnm7 HB7 hr HTx HN
        go_wp2_with fail
        go_roundw
        case rel => exact ⟨0 + 1, by omega, rfl, HR⟩
        case measure => simp [intOf]
    · have HNm : Hid (∀ x : Int × Int × Int, x = ofT h a m o (a) (h + a) → tabT h a m o (1 + 1) = tabT h a m o 1 ++ nmT [102, 97, 108, 115, 101] x) := fun x hx => by rw [hx]; rfl
      have CT := Lib.hid (fun w => FalseAlarm_any h a m o w)
      have hi := ofT_I64 h a m o (a) (h + a)
      generalize hx : ofT h a m o (a) (h + a) = x at *
      have HN := Lib.hid (HNm.out x rfl)
      clear hx HNm
      generalize tabT h a m o 1 = tx at *
      obtain ⟨p, q, r⟩ := x
      have HXI := Lib.hid hi
      clear hi
      have hcell : wr.cell? ⟨fb, 1, none⟩ = some (fnV 53) := by simp [World.cell?, HB.out.fs, fnsV]
      have hnm : wr.cell? ⟨nb, 1, none⟩ = some (strV [102, 97, 108, 115, 101]) := HB.out.ns.cell (i := 1) (by decide)
      have HNm := Lib.hid hnm
      clear hnm
      unfold tabV at CT
      unfold fnV at hcell
      go_wp2_with (first
        | ((first | with_reducible refine gate_ld ?_ | with_reducible refine gate_ldw ?_); refine row_load rfl _ rfl (w.heap.size) rfl [.int .i64 h, .int .i64 a, .int .i64 m, .int .i64 o] HB.out.ws.civ.1 rowT_tab ?_)
        | fail)
      refine (CT.out _).mono ?_
      rintro e w7 ⟨rfl, hb⟩
      have HB7 := Lib.hid (HB.out.new hb)
      have hnm7 := cell_then hb HNm.out
      clear hb HB CT hcell HNm
      simp only [frV]
      by_cases hr : r = 0
      · subst hr
        have HFr : Hid (RowAt (w7.alloc (.cells #[.int .i64 p, .int .i64 q] 24)) w7.heap.size [.int .i64 p, .int .i64 q]) := RowAt.new w7 [.int .i64 p, .int .i64 q] (by simp) _ rfl
        have HB8 := Lib.hid (HB7.out.new ((Below.refl w7.heap.size w7).alloc (Nat.le_refl _) (.cells #[.int .i64 p, .int .i64 q] 24)))
        have hnm8 := cell_then ((Below.refl w7.heap.size w7).alloc (Nat.le_refl _) (.cells #[.int .i64 p, .int .i64 q] 24)) hnm7
        have HNm8 := Lib.hid hnm8
        clear hnm7 hnm8 HB7
        go_wp2_with fail
        generalize hfx : w7.heap.size = fx at *
        generalize w7.alloc _ = w8 at HFr HB8 HNm8 ⊢
        clear hfx
        have HD0 := Lib.hid (HB8.out.new (Below.refl w8.heap.size w8).drew).ws
        have hfl := fracT_len p q HXI.out.1 HXI.out.2
        refine wp_region_seqL (by kernel_rfl) (fun w' => Below w8.heap.size w8 w') 8 [(0, 0), (1, 0), (2, 0), (3, 0), (4, 1), (5, 1), (6, 2), (7, 2), (8, 2)] (by kernel_rfl) ((Below.refl _ _).drew) ?_
        refine sl_q (d := some 39) rfl rfl rfl (.pointer (some ⟨b, 0, none⟩)) (fun w => rfl) ?_
        simp only [Act.put, List.setIfInBounds_toArray, List.set_cons_zero, List.set_cons_succ]
        refine sl_q (d := some 40) rfl rfl rfl (.slice (some ⟨nb, 0, none⟩) 4 4) (fun w => rfl) ?_
        simp only [Act.put, List.setIfInBounds_toArray, List.set_cons_zero, List.set_cons_succ]
        refine sl_q (d := some 41) rfl rfl rfl (.int .i64 1) (fun w => rfl) ?_
        simp only [Act.put, List.setIfInBounds_toArray, List.set_cons_zero, List.set_cons_succ]
        refine sl_q (d := some 42) rfl rfl rfl (.pointer (some ⟨nb, 1, none⟩)) (fun w => by simp [execOp, Act.eval, go_sem]) ?_
        simp only [Act.put, List.setIfInBounds_toArray, List.set_cons_zero, List.set_cons_succ]
        refine sl_s (d := some 43) rfl rfl rfl (strV [102, 97, 108, 115, 101]) (fun w hw => by have h := cell_then hw HNm8.out; simp [execOp, Act.eval, go_sem, h]) ?_
        simp only [Act.put, List.setIfInBounds_toArray, List.set_cons_zero, List.set_cons_succ]
        refine sl_s (d := some 44) rfl rfl rfl (.agg #[.int .i64 p, .int .i64 q]) (fun w hw => row_loadC (HFr.out.below hw) rowT_fr _ rfl rfl) ?_
        simp only [Act.put, List.setIfInBounds_toArray, List.set_cons_zero, List.set_cons_succ]
        refine sl_call (d := some 45) rfl rfl rfl ⟨_, Tryz.func12, by kernel_rfl, by kernel_rfl⟩ _ _ _ rfl rfl [.agg #[.int .i64 p, .int .i64 q]] rfl (fraction_any p q HXI.out.1 HXI.out.2 w8.drew (HD0.out.tab HT.out)) ?_
        rintro e u1 ⟨rfl, hb⟩
        have HD1 := Lib.hid (HD0.out.new hb)
        have HQ1 := Lib.hid (below_then ((Below.refl w8.heap.size w8).drew) hb)
        refine ⟨_, rfl, fun _ => HQ1.out, ?_⟩
        clear hb HD0
        simp only [Act.put, List.setIfInBounds_toArray, List.set_cons_zero, List.set_cons_succ]
        obtain ⟨u2, hu2⟩ : ∃ x, x = u1.alloc (.cells #[strV ([102, 97, 108, 115, 101]), strV (fracT p q)] 9) := ⟨_, rfl⟩
        obtain ⟨g, hg⟩ : ∃ x, x = u1.heap.size := ⟨_, rfl⟩
        have hb : Below u1.heap.size u1 u2 := by rw [hu2]; exact (Below.refl _ _).alloc (Nat.le_refl _) _
        have HD2 := Lib.hid (HD1.out.new hb)
        have HLg : Hid (StrsAt u2 g [[102, 97, 108, 115, 101], fracT p q]) := by unfold Hid; rw [hu2]; exact strs_lit _ [[102, 97, 108, 115, 101], fracT p q] rfl hg.symm
        have HNeg : Hid (g ≠ b) := by have := HD1.out.lt; unfold Hid; omega
        have HQ2 := Lib.hid (below_then HQ1.out hb)
        refine sl_run (d := some 46) rfl rfl rfl (.slice (some ⟨g, 0, none⟩) 2 2) u2 (by rw [hu2, hg]; simp [execOp, Act.eval, go_sem, strV]) (fun _ => HQ2.out) ?_
        simp only [Act.put, List.setIfInBounds_toArray, List.set_cons_zero, List.set_cons_succ]
        clear hb HD1 hu2 hg
        refine sl_call (d := some 47) rfl rfl rfl ⟨_, Tryz.func42, by kernel_rfl, by kernel_rfl⟩ _ _ _ rfl rfl [.pointer (some ⟨b, 0, none⟩), .slice (some ⟨g, 0, none⟩) 2 2] rfl (words_any w.heap.size b g 2 2 (tx) [[102, 97, 108, 115, 101], fracT p q] u2 HD2.out.isb HLg.out rfl HNeg.out (by simp; omega) HD2.out.le) ?_
        rintro e u3 ⟨rfl, hw⟩
        have HDz := Lib.hid HD2.out
        refine ⟨_, rfl, (fun h => by cases h), ?_⟩
        simp only [Act.put, List.setIfInBounds_toArray, List.set_cons_zero, List.set_cons_succ]
        refine sl_end ?_
        have HW := Lib.hid (HB8.out.re HDz.out HQ2.out)
        have HR := Lib.hid (HW.out.wrote hw)
        clear hw HDz HQ2 HW HB8
        rw [words_nm (x := (p, q, 0)) htn rfl, ← HN.out] at HR
        go_wp2_with fail
        go_roundw
        case rel => exact ⟨1 + 1, by omega, rfl, HR⟩
        case measure => simp [intOf]
      · have hr0 : (r == 0) = false := by simpa using hr
        have HTx : Hid (tx = tabT h a m o (1 + 1)) := by unfold Hid; rw [HN.out]; exact none_nm hr
        have HR := Lib.hid (HB7.out.new ((Below.refl w7.heap.size w7).alloc (Nat.le_refl _) (.cells #[.int .i64 p, .int .i64 q] 24)))
        rw [HTx.out] at HR
        clear hnm7 HB7 hr HTx HN
        go_wp2_with fail
        go_roundw
        case rel => exact ⟨1 + 1, by omega, rfl, HR⟩
        case measure => simp [intOf]
    · have HNm : Hid (∀ x : Int × Int × Int, x = ofT h a m o (h) (h + a + m) → tabT h a m o (2 + 1) = tabT h a m o 2 ++ nmT [116, 104, 114, 101, 97, 116] x) := fun x hx => by rw [hx]; rfl
      have CT := Lib.hid (fun w => Threat_any h a m o w)
      have hi := ofT_I64 h a m o (h) (h + a + m)
      generalize hx : ofT h a m o (h) (h + a + m) = x at *
      have HN := Lib.hid (HNm.out x rfl)
      clear hx HNm
      generalize tabT h a m o 2 = tx at *
      obtain ⟨p, q, r⟩ := x
      have HXI := Lib.hid hi
      clear hi
      have hcell : wr.cell? ⟨fb, 2, none⟩ = some (fnV 54) := by simp [World.cell?, HB.out.fs, fnsV]
      have hnm : wr.cell? ⟨nb, 2, none⟩ = some (strV [116, 104, 114, 101, 97, 116]) := HB.out.ns.cell (i := 2) (by decide)
      have HNm := Lib.hid hnm
      clear hnm
      unfold tabV at CT
      unfold fnV at hcell
      go_wp2_with (first
        | ((first | with_reducible refine gate_ld ?_ | with_reducible refine gate_ldw ?_); refine row_load rfl _ rfl (w.heap.size) rfl [.int .i64 h, .int .i64 a, .int .i64 m, .int .i64 o] HB.out.ws.civ.1 rowT_tab ?_)
        | fail)
      refine (CT.out _).mono ?_
      rintro e w7 ⟨rfl, hb⟩
      have HB7 := Lib.hid (HB.out.new hb)
      have hnm7 := cell_then hb HNm.out
      clear hb HB CT hcell HNm
      simp only [frV]
      by_cases hr : r = 0
      · subst hr
        have HFr : Hid (RowAt (w7.alloc (.cells #[.int .i64 p, .int .i64 q] 24)) w7.heap.size [.int .i64 p, .int .i64 q]) := RowAt.new w7 [.int .i64 p, .int .i64 q] (by simp) _ rfl
        have HB8 := Lib.hid (HB7.out.new ((Below.refl w7.heap.size w7).alloc (Nat.le_refl _) (.cells #[.int .i64 p, .int .i64 q] 24)))
        have hnm8 := cell_then ((Below.refl w7.heap.size w7).alloc (Nat.le_refl _) (.cells #[.int .i64 p, .int .i64 q] 24)) hnm7
        have HNm8 := Lib.hid hnm8
        clear hnm7 hnm8 HB7
        go_wp2_with fail
        generalize hfx : w7.heap.size = fx at *
        generalize w7.alloc _ = w8 at HFr HB8 HNm8 ⊢
        clear hfx
        have HD0 := Lib.hid (HB8.out.new (Below.refl w8.heap.size w8).drew).ws
        have hfl := fracT_len p q HXI.out.1 HXI.out.2
        refine wp_region_seqL (by kernel_rfl) (fun w' => Below w8.heap.size w8 w') 8 [(0, 0), (1, 0), (2, 0), (3, 0), (4, 1), (5, 1), (6, 2), (7, 2), (8, 2)] (by kernel_rfl) ((Below.refl _ _).drew) ?_
        refine sl_q (d := some 39) rfl rfl rfl (.pointer (some ⟨b, 0, none⟩)) (fun w => rfl) ?_
        simp only [Act.put, List.setIfInBounds_toArray, List.set_cons_zero, List.set_cons_succ]
        refine sl_q (d := some 40) rfl rfl rfl (.slice (some ⟨nb, 0, none⟩) 4 4) (fun w => rfl) ?_
        simp only [Act.put, List.setIfInBounds_toArray, List.set_cons_zero, List.set_cons_succ]
        refine sl_q (d := some 41) rfl rfl rfl (.int .i64 2) (fun w => rfl) ?_
        simp only [Act.put, List.setIfInBounds_toArray, List.set_cons_zero, List.set_cons_succ]
        refine sl_q (d := some 42) rfl rfl rfl (.pointer (some ⟨nb, 2, none⟩)) (fun w => by simp [execOp, Act.eval, go_sem]) ?_
        simp only [Act.put, List.setIfInBounds_toArray, List.set_cons_zero, List.set_cons_succ]
        refine sl_s (d := some 43) rfl rfl rfl (strV [116, 104, 114, 101, 97, 116]) (fun w hw => by have h := cell_then hw HNm8.out; simp [execOp, Act.eval, go_sem, h]) ?_
        simp only [Act.put, List.setIfInBounds_toArray, List.set_cons_zero, List.set_cons_succ]
        refine sl_s (d := some 44) rfl rfl rfl (.agg #[.int .i64 p, .int .i64 q]) (fun w hw => row_loadC (HFr.out.below hw) rowT_fr _ rfl rfl) ?_
        simp only [Act.put, List.setIfInBounds_toArray, List.set_cons_zero, List.set_cons_succ]
        refine sl_call (d := some 45) rfl rfl rfl ⟨_, Tryz.func12, by kernel_rfl, by kernel_rfl⟩ _ _ _ rfl rfl [.agg #[.int .i64 p, .int .i64 q]] rfl (fraction_any p q HXI.out.1 HXI.out.2 w8.drew (HD0.out.tab HT.out)) ?_
        rintro e u1 ⟨rfl, hb⟩
        have HD1 := Lib.hid (HD0.out.new hb)
        have HQ1 := Lib.hid (below_then ((Below.refl w8.heap.size w8).drew) hb)
        refine ⟨_, rfl, fun _ => HQ1.out, ?_⟩
        clear hb HD0
        simp only [Act.put, List.setIfInBounds_toArray, List.set_cons_zero, List.set_cons_succ]
        obtain ⟨u2, hu2⟩ : ∃ x, x = u1.alloc (.cells #[strV ([116, 104, 114, 101, 97, 116]), strV (fracT p q)] 9) := ⟨_, rfl⟩
        obtain ⟨g, hg⟩ : ∃ x, x = u1.heap.size := ⟨_, rfl⟩
        have hb : Below u1.heap.size u1 u2 := by rw [hu2]; exact (Below.refl _ _).alloc (Nat.le_refl _) _
        have HD2 := Lib.hid (HD1.out.new hb)
        have HLg : Hid (StrsAt u2 g [[116, 104, 114, 101, 97, 116], fracT p q]) := by unfold Hid; rw [hu2]; exact strs_lit _ [[116, 104, 114, 101, 97, 116], fracT p q] rfl hg.symm
        have HNeg : Hid (g ≠ b) := by have := HD1.out.lt; unfold Hid; omega
        have HQ2 := Lib.hid (below_then HQ1.out hb)
        refine sl_run (d := some 46) rfl rfl rfl (.slice (some ⟨g, 0, none⟩) 2 2) u2 (by rw [hu2, hg]; simp [execOp, Act.eval, go_sem, strV]) (fun _ => HQ2.out) ?_
        simp only [Act.put, List.setIfInBounds_toArray, List.set_cons_zero, List.set_cons_succ]
        clear hb HD1 hu2 hg
        refine sl_call (d := some 47) rfl rfl rfl ⟨_, Tryz.func42, by kernel_rfl, by kernel_rfl⟩ _ _ _ rfl rfl [.pointer (some ⟨b, 0, none⟩), .slice (some ⟨g, 0, none⟩) 2 2] rfl (words_any w.heap.size b g 2 2 (tx) [[116, 104, 114, 101, 97, 116], fracT p q] u2 HD2.out.isb HLg.out rfl HNeg.out (by simp; omega) HD2.out.le) ?_
        rintro e u3 ⟨rfl, hw⟩
        have HDz := Lib.hid HD2.out
        refine ⟨_, rfl, (fun h => by cases h), ?_⟩
        simp only [Act.put, List.setIfInBounds_toArray, List.set_cons_zero, List.set_cons_succ]
        refine sl_end ?_
        have HW := Lib.hid (HB8.out.re HDz.out HQ2.out)
        have HR := Lib.hid (HW.out.wrote hw)
        clear hw HDz HQ2 HW HB8
        rw [words_nm (x := (p, q, 0)) htn rfl, ← HN.out] at HR
        go_wp2_with fail
        go_roundw
        case rel => exact ⟨2 + 1, by omega, rfl, HR⟩
        case measure => simp [intOf]
      · have hr0 : (r == 0) = false := by simpa using hr
        have HTx : Hid (tx = tabT h a m o (2 + 1)) := by unfold Hid; rw [HN.out]; exact none_nm hr
        have HR := Lib.hid (HB7.out.new ((Below.refl w7.heap.size w7).alloc (Nat.le_refl _) (.cells #[.int .i64 p, .int .i64 q] 24)))
        rw [HTx.out] at HR
        clear hnm7 HB7 hr HTx HN
        go_wp2_with fail
        go_roundw
        case rel => exact ⟨2 + 1, by omega, rfl, HR⟩
        case measure => simp [intOf]
    · have HNm : Hid (∀ x : Int × Int × Int, x = ofT h a m o (2 * (h * o - a * m)) ((h + m) * (m + o) + (h + a) * (a + o)) → tabT h a m o (3 + 1) = tabT h a m o 3 ++ nmT [104, 101, 105, 100, 107, 101] x) := fun x hx => by rw [hx]; rfl
      have CT := Lib.hid (fun w => Heidke_any h a m o w)
      have hi := ofT_I64 h a m o (2 * (h * o - a * m)) ((h + m) * (m + o) + (h + a) * (a + o))
      generalize hx : ofT h a m o (2 * (h * o - a * m)) ((h + m) * (m + o) + (h + a) * (a + o)) = x at *
      have HN := Lib.hid (HNm.out x rfl)
      clear hx HNm
      generalize tabT h a m o 3 = tx at *
      obtain ⟨p, q, r⟩ := x
      have HXI := Lib.hid hi
      clear hi
      have hcell : wr.cell? ⟨fb, 3, none⟩ = some (fnV 55) := by simp [World.cell?, HB.out.fs, fnsV]
      have hnm : wr.cell? ⟨nb, 3, none⟩ = some (strV [104, 101, 105, 100, 107, 101]) := HB.out.ns.cell (i := 3) (by decide)
      have HNm := Lib.hid hnm
      clear hnm
      unfold tabV at CT
      unfold fnV at hcell
      go_wp2_with (first
        | ((first | with_reducible refine gate_ld ?_ | with_reducible refine gate_ldw ?_); refine row_load rfl _ rfl (w.heap.size) rfl [.int .i64 h, .int .i64 a, .int .i64 m, .int .i64 o] HB.out.ws.civ.1 rowT_tab ?_)
        | fail)
      refine (CT.out _).mono ?_
      rintro e w7 ⟨rfl, hb⟩
      have HB7 := Lib.hid (HB.out.new hb)
      have hnm7 := cell_then hb HNm.out
      clear hb HB CT hcell HNm
      simp only [frV]
      by_cases hr : r = 0
      · subst hr
        have HFr : Hid (RowAt (w7.alloc (.cells #[.int .i64 p, .int .i64 q] 24)) w7.heap.size [.int .i64 p, .int .i64 q]) := RowAt.new w7 [.int .i64 p, .int .i64 q] (by simp) _ rfl
        have HB8 := Lib.hid (HB7.out.new ((Below.refl w7.heap.size w7).alloc (Nat.le_refl _) (.cells #[.int .i64 p, .int .i64 q] 24)))
        have hnm8 := cell_then ((Below.refl w7.heap.size w7).alloc (Nat.le_refl _) (.cells #[.int .i64 p, .int .i64 q] 24)) hnm7
        have HNm8 := Lib.hid hnm8
        clear hnm7 hnm8 HB7
        go_wp2_with fail
        generalize hfx : w7.heap.size = fx at *
        generalize w7.alloc _ = w8 at HFr HB8 HNm8 ⊢
        clear hfx
        have HD0 := Lib.hid (HB8.out.new (Below.refl w8.heap.size w8).drew).ws
        have hfl := fracT_len p q HXI.out.1 HXI.out.2
        refine wp_region_seqL (by kernel_rfl) (fun w' => Below w8.heap.size w8 w') 8 [(0, 0), (1, 0), (2, 0), (3, 0), (4, 1), (5, 1), (6, 2), (7, 2), (8, 2)] (by kernel_rfl) ((Below.refl _ _).drew) ?_
        refine sl_q (d := some 39) rfl rfl rfl (.pointer (some ⟨b, 0, none⟩)) (fun w => rfl) ?_
        simp only [Act.put, List.setIfInBounds_toArray, List.set_cons_zero, List.set_cons_succ]
        refine sl_q (d := some 40) rfl rfl rfl (.slice (some ⟨nb, 0, none⟩) 4 4) (fun w => rfl) ?_
        simp only [Act.put, List.setIfInBounds_toArray, List.set_cons_zero, List.set_cons_succ]
        refine sl_q (d := some 41) rfl rfl rfl (.int .i64 3) (fun w => rfl) ?_
        simp only [Act.put, List.setIfInBounds_toArray, List.set_cons_zero, List.set_cons_succ]
        refine sl_q (d := some 42) rfl rfl rfl (.pointer (some ⟨nb, 3, none⟩)) (fun w => by simp [execOp, Act.eval, go_sem]) ?_
        simp only [Act.put, List.setIfInBounds_toArray, List.set_cons_zero, List.set_cons_succ]
        refine sl_s (d := some 43) rfl rfl rfl (strV [104, 101, 105, 100, 107, 101]) (fun w hw => by have h := cell_then hw HNm8.out; simp [execOp, Act.eval, go_sem, h]) ?_
        simp only [Act.put, List.setIfInBounds_toArray, List.set_cons_zero, List.set_cons_succ]
        refine sl_s (d := some 44) rfl rfl rfl (.agg #[.int .i64 p, .int .i64 q]) (fun w hw => row_loadC (HFr.out.below hw) rowT_fr _ rfl rfl) ?_
        simp only [Act.put, List.setIfInBounds_toArray, List.set_cons_zero, List.set_cons_succ]
        refine sl_call (d := some 45) rfl rfl rfl ⟨_, Tryz.func12, by kernel_rfl, by kernel_rfl⟩ _ _ _ rfl rfl [.agg #[.int .i64 p, .int .i64 q]] rfl (fraction_any p q HXI.out.1 HXI.out.2 w8.drew (HD0.out.tab HT.out)) ?_
        rintro e u1 ⟨rfl, hb⟩
        have HD1 := Lib.hid (HD0.out.new hb)
        have HQ1 := Lib.hid (below_then ((Below.refl w8.heap.size w8).drew) hb)
        refine ⟨_, rfl, fun _ => HQ1.out, ?_⟩
        clear hb HD0
        simp only [Act.put, List.setIfInBounds_toArray, List.set_cons_zero, List.set_cons_succ]
        obtain ⟨u2, hu2⟩ : ∃ x, x = u1.alloc (.cells #[strV ([104, 101, 105, 100, 107, 101]), strV (fracT p q)] 9) := ⟨_, rfl⟩
        obtain ⟨g, hg⟩ : ∃ x, x = u1.heap.size := ⟨_, rfl⟩
        have hb : Below u1.heap.size u1 u2 := by rw [hu2]; exact (Below.refl _ _).alloc (Nat.le_refl _) _
        have HD2 := Lib.hid (HD1.out.new hb)
        have HLg : Hid (StrsAt u2 g [[104, 101, 105, 100, 107, 101], fracT p q]) := by unfold Hid; rw [hu2]; exact strs_lit _ [[104, 101, 105, 100, 107, 101], fracT p q] rfl hg.symm
        have HNeg : Hid (g ≠ b) := by have := HD1.out.lt; unfold Hid; omega
        have HQ2 := Lib.hid (below_then HQ1.out hb)
        refine sl_run (d := some 46) rfl rfl rfl (.slice (some ⟨g, 0, none⟩) 2 2) u2 (by rw [hu2, hg]; simp [execOp, Act.eval, go_sem, strV]) (fun _ => HQ2.out) ?_
        simp only [Act.put, List.setIfInBounds_toArray, List.set_cons_zero, List.set_cons_succ]
        clear hb HD1 hu2 hg
        refine sl_call (d := some 47) rfl rfl rfl ⟨_, Tryz.func42, by kernel_rfl, by kernel_rfl⟩ _ _ _ rfl rfl [.pointer (some ⟨b, 0, none⟩), .slice (some ⟨g, 0, none⟩) 2 2] rfl (words_any w.heap.size b g 2 2 (tx) [[104, 101, 105, 100, 107, 101], fracT p q] u2 HD2.out.isb HLg.out rfl HNeg.out (by simp; omega) HD2.out.le) ?_
        rintro e u3 ⟨rfl, hw⟩
        have HDz := Lib.hid HD2.out
        refine ⟨_, rfl, (fun h => by cases h), ?_⟩
        simp only [Act.put, List.setIfInBounds_toArray, List.set_cons_zero, List.set_cons_succ]
        refine sl_end ?_
        have HW := Lib.hid (HB8.out.re HDz.out HQ2.out)
        have HR := Lib.hid (HW.out.wrote hw)
        clear hw HDz HQ2 HW HB8
        rw [words_nm (x := (p, q, 0)) htn rfl, ← HN.out] at HR
        go_wp2_with fail
        go_roundw
        case rel => exact ⟨3 + 1, by omega, rfl, HR⟩
        case measure => simp [intOf]
      · have hr0 : (r == 0) = false := by simpa using hr
        have HTx : Hid (tx = tabT h a m o (3 + 1)) := by unfold Hid; rw [HN.out]; exact none_nm hr
        have HR := Lib.hid (HB7.out.new ((Below.refl w7.heap.size w7).alloc (Nat.le_refl _) (.cells #[.int .i64 p, .int .i64 q] 24)))
        rw [HTx.out] at HR
        clear hnm7 HB7 hr HTx HN
        go_wp2_with fail
        go_roundw
        case rel => exact ⟨3 + 1, by omega, rfl, HR⟩
        case measure => simp [intOf]
    · have SC := Lib.hid (string_any w.heap.size b _ wr HB.out.ws.isb htn)
      generalize hr : tabT h a m o 4 = r at *
      go_wp2_with fail
      refine SC.out.mono ?_
      rintro e w7 ⟨rfl, hb⟩
      have HF := Lib.hid (HB.out.ws.bel.trans hb)
      clear hb SC
      go_wp2_with fail
      go_ret
      exact ⟨by rw [hr]; rfl, HF.out⟩
end Go.Proofs.YtmmmebdgannpgaaGreatDoor
