/- Part 7 of the proof: laws on memory and what functions of the program return. No conditions but those that each theorem names. -/
import Derived.Test.YtmmmebdgannpgaaGreatDoorR06
set_option linter.unusedVariables false
set_option linter.unusedSimpArgs false
/- The choices of synopticfield: Inner and Observed. Printed by gen_obs.py. -/
namespace Go.Proofs.YtmmmebdgannpgaaGreatDoor
open Go Go.RowKit

theorem rowT_pl : RowT 26 4 := ⟨by kernel_rfl, _, Tryz.underlying26, rfl⟩
theorem rowT_rep : RowT 29 8 := ⟨by kernel_rfl, _, Tryz.underlying29, rfl⟩
def Z4i : List Value := [.int .i64 0, .int .i64 0, .int .i64 0, .int .i64 0]
def PlIs (B b : Nat) (w : World) (e : Ending) (w' : World) : Prop := ∃ f p q r : Int, e = .returned (.agg #[.int .i64 f, .int .i64 p, .int .i64 q, .int .i64 r]) ∧ St w B b w'
theorem St.apart {w0 w w' : World} {B b r : Nat} (h : St w0 B b w) (ha : ApartR r w w') (hr : w0.heap.size ≤ r) (hb : r ≠ b) (hB : B ≤ r) : St w0 B b w' := by
  refine ⟨h.1.of_same (ha.2.2.2.2 b (fun e => hb e.symm)) (fun k hk _ => ha.2.2.2.2 k (by omega)), h.2.trans ⟨ha.1, ha.2.1, ha.2.2.1, Nat.le_of_eq ha.2.2.2.1.symm, fun k hk _ => ha.2.2.2.2 k (by omega)⟩⟩
set_option maxHeartbeats 1000000 in
theorem inner_ok (B b : Nat) (w : World) (h : CodesIs w B b) : Calls Tryz.prog 30 #[.pointer (some ⟨b, 0, none⟩)] w (PlIs B b w) := by
  have hbw : Hid (b < w.heap.size ∧ B ≤ b) := ⟨h.lt, h.le⟩
  have HS0 : Hid (St w B b (w.alloc (.cells #[.int .i64 0, .int .i64 0, .int .i64 0, .int .i64 0] 26))) := (St.start h).alloc _
  have HR0 : Hid (RowAt (w.alloc (.cells #[.int .i64 0, .int .i64 0, .int .i64 0, .int .i64 0] 26)) w.heap.size Z4i) := RowAt.new w Z4i (by simp [Z4i]) _ rfl
  clear h
  go_enter Tryz.func30, Tryz.ntmps30
  go_wp2_with fail
  generalize w.alloc _ = w0 at HS0 HR0 ⊢
  have hne : w.heap.size ≠ b := by have := hbw.out.1; omega
  refine (next_ok B b 18 w0 HS0.out.1 (by omega) (by omega)).mono ?_
  rintro e w1 ⟨x, x0, x1, rfl, hs⟩
  have HS1 := Lib.hid (HS0.out.then hs)
  have HR1 := Lib.hid (HR0.out.but hs.2 hne)
  clear hs HS0 HR0
  go_wp2_with fail
  refine (next_ok B b 14 w1 HS1.out.1 (by omega) (by omega)).mono ?_
  rintro e w2 ⟨y, y0, y1, rfl, hs⟩
  have HS2 := Lib.hid (HS1.out.then hs)
  have HR2 := Lib.hid (HR1.out.but hs.2 hne)
  clear hs HS1 HR1
  go_wp2_with fail
  refine (next_ok B b 4 w2 HS2.out.1 (by omega) (by omega)).mono ?_
  rintro e w3 ⟨z, z0, z1, rfl, hs⟩
  have HS3 := Lib.hid (HS2.out.then hs)
  have HR3 := Lib.hid (HR2.out.but hs.2 hne)
  clear hs HS2 HR2
  go_wp2_with (first
    | ((first | with_reducible refine gate_st ?_ | with_reducible refine gate_stw ?_)
       refine row_store rfl _ _ rfl w.heap.size rfl Z4i _ rfl HR3.out rfl rowT_pl (List.all_eq_true.1 rfl) ?_
       intro wz HRow Hap)
    | fail)
  exact ret_row rfl _ _ HRow rowT_pl rfl rfl ⟨_, _, _, _, rfl, HS3.out.apart Hap (Nat.le_refl _) hne (by have := hbw.out.2; have := hbw.out.1; omega)⟩
theorem StrsAt.but {w w' : World} {b c : Nat} {ss : List (List UInt8)} (h : StrsAt w c ss) (hb : But w.heap.size b w w') (hn : c ≠ b) : StrsAt w' c ss := by
  obtain ⟨cs, fr, h1, h2⟩ := h
  exact ⟨cs, fr, by rw [hb.block c (Array.getElem?_eq_some_iff.1 h1).1 hn]; exact h1, h2⟩
theorem St.but {w w' : World} {B b : Nat} (hs : St w B b w') : But w.heap.size b w w' := hs.2
def Z8 : List Value := [.int .i64 0, .string ⟨#[]⟩, .int .i64 0, .int .i64 0, .int .i64 0, .int .i64 0, .int .i64 0, .slice none 0 0]
/-- The choices, the result's block; blocks from base on are new. -/
structure OB (w : World) (B b r : Nat) (W : World) : Prop where
  st : St w B b W
  row : RowAt W r Z8
  nr : r ≠ b
  lr : w.heap.size ≤ r
  bb : b < w.heap.size
  hB : B ≤ b
section
variable {w W W' : World} {B b r : Nat}
theorem OB.call (h : OB w B b r W) (hs : St W B b W') : OB w B b r W' := ⟨h.st.then hs, h.row.but hs.2 h.nr, h.nr, h.lr, h.bb, h.hB⟩
theorem OB.new (h : OB w B b r W) (hb : Below W.heap.size W W') : OB w B b r W' := h.call ⟨h.st.1.below hb h.st.1.lt, But.of_below hb⟩
theorem OB.lt (h : OB w B b r W) : b < W.heap.size := h.st.1.lt
theorem OB.ge (h : OB w B b r W) : w.heap.size ≤ W.heap.size := h.st.2.size
theorem OB.apart (h : OB w B b r W) {x : Nat} (ha : ApartR x W W') (hx : w.heap.size ≤ x) (hn : x ≠ b) (hr : x ≠ r) : OB w B b r W' := ⟨h.st.apart ha hx hn (by have := h.hB; have := h.bb; omega), h.row.apart ha (fun e => hr e.symm), h.nr, h.lr, h.bb, h.hB⟩
end
def lands : List (List UInt8) := [[76, 65, 78, 68, 49], [76, 65, 78, 68, 50], [76, 65, 78, 68, 51], [76, 65, 78, 68, 52]]
def ships : List (List UInt8) := [[83, 72, 73, 80, 49], [83, 72, 73, 80, 50], [66, 85, 79, 89, 49]]
theorem land_any (w : World) : Calls Tryz.prog 29 #[] w fun e w' => e = .returned (.slice (some ⟨w.heap.size, 0, none⟩) 4 4) ∧ StrsAt w' w.heap.size lands ∧ Below w.heap.size w w' := by
  go_enter Tryz.func29, Tryz.ntmps29
  go_wp2_with fail
  go_ret
  exact ⟨rfl, strs_lit w lands rfl rfl, (Below.refl _ _).alloc (Nat.le_refl _) _⟩
theorem lands_len (j : Nat) : (lands.getD j []).length ≤ 5 := by
  rcases (show j = 0 ∨ j = 1 ∨ j = 2 ∨ j = 3 ∨ 4 ≤ j by omega) with rfl | rfl | rfl | rfl | h
  · decide
  · decide
  · decide
  · decide
  · rw [List.getD_eq_getElem?_getD, List.getElem?_eq_none (by simpa [lands] using h)]; simp
theorem ships_len (j : Nat) : (ships.getD j []).length ≤ 5 := by
  rcases (show j = 0 ∨ j = 1 ∨ j = 2 ∨ 3 ≤ j by omega) with rfl | rfl | rfl | h
  · decide
  · decide
  · decide
  · rw [List.getD_eq_getElem?_getD, List.getElem?_eq_none (by simpa [ships] using h)]; simp
/-- A report's cells. -/
def repC (k : Int) (nm : List UInt8) (t f p q r : Int) (v : Value) : List Value := [.int .i64 k, strV nm, .int .i64 t, .int .i64 f, .int .i64 p, .int .i64 q, .int .i64 r, v]
def pcs (l : List (Int × Int)) : List Value := l.flatMap fun x => [.int .i64 x.1, .int .i64 x.2]
def OwnR (w : World) (base : Nat) (v : Value) (l : List (Int × Int)) : Prop := w.ownsRow base 78 2 v l.length (pcs l)
theorem pcs_get (l : List (Int × Int)) : ∀ j, j < l.length → (pcs l)[j * 2]? = some (.int .i64 (l.getD j (0, 0)).1) ∧ (pcs l)[j * 2 + 1]? = some (.int .i64 (l.getD j (0, 0)).2) := by
  induction l with
  | nil => intro j hj; simp at hj
  | cons x r ih =>
    intro j hj
    have e : pcs (x :: r) = .int .i64 x.1 :: .int .i64 x.2 :: pcs r := rfl
    rw [e]
    cases j with
    | zero => exact ⟨rfl, rfl⟩
    | succ i =>
      have := ih i (by simpa using hj)
      rw [show (i + 1) * 2 = i * 2 + 1 + 1 by omega, List.getElem?_cons_succ, List.getElem?_cons_succ, List.getElem?_cons_succ, List.getElem?_cons_succ]
      simpa using this
theorem OwnR.pairs {w : World} {base : Nat} {v : Value} {l : List (Int × Int)} (h : OwnR w base v l) : ∃ a c, v = .slice a l.length c ∧ PairsIn w.heap.size w v l ∧ ∀ g, v.ownBlock = some g → base ≤ g := by
  have h' := h
  rcases h.2 with ⟨e, e2⟩ | ⟨g, cap, cur, e, hg, hh, _⟩
  · subst e
    have : l = [] := List.eq_nil_of_length_eq_zero e2
    subst this
    exact ⟨none, 0, rfl, .inl ⟨_, _, rfl, rfl⟩, by intro g hg; simp [Value.ownBlock] at hg⟩
  · subst e
    refine ⟨_, _, rfl, .inr ⟨g, 0, cap, rfl, (Array.getElem?_eq_some_iff.1 hh).1, fun j hj => ?_⟩, by intro g' hg'; simp [Value.ownBlock] at hg'; omega⟩
    have h1 := pcs_get l j hj
    rw [Nat.zero_add, World.ownsRow.cellAt h' (j * 2) (by omega), World.ownsRow.cellAt h' (j * 2 + 1) (by omega)]
    exact h1
theorem rdinfo : (Tryz.prog.info? 78).map (fun i => (i.zero, i.size, i.bytes)) = some (some (.agg #[.int .i64 0, .int .i64 0]), 2, 16) := by kernel_rfl
theorem append_rd {w : World} {base : Nat} {v : Value} {l : List (Int × Int)} (h : OwnR w base v l) (x : Int × Int) (hn : l.length ≤ 1000000000) (hb : base ≤ w.heap.size) (ty : TypeId) :
    ∃ (v' : Value) (w' : World), (Builtin.append_ #[27, 27] ty #[v, .slice (some ⟨w.heap.size, 0, none⟩) 1 1]).run Tryz.prog (w.alloc (.cells #[.int .i64 x.1, .int .i64 x.2] 78)) = .ok v' w' ∧
      OwnR w' base v' (l ++ [x]) ∧ Below base w w' := by
  have h1 := append_new 27 78 Tryz.underlying27 rdinfo rfl (by decide) h [.int .i64 x.1, .int .i64 x.2] 1 rfl (by intro u hu; simp at hu; rcases hu with rfl | rfl <;> rfl) hn (by omega) (by decide) hb ty
  unfold OwnR
  rw [List.length_append]
  have e : pcs (l ++ [x]) = pcs l ++ [.int .i64 x.1, .int .i64 x.2] := by simp [pcs]
  rw [e]; exact h1
theorem StrsAt.apart {w w' : World} {x c : Nat} {ss : List (List UInt8)} (h : StrsAt w c ss) (hb : ApartR x w w') (hn : c ≠ x) : StrsAt w' c ss := by
  obtain ⟨cs, fr, h1, h2⟩ := h
  exact ⟨cs, fr, by rw [hb.2.2.2.2 c hn]; exact h1, h2⟩
theorem row_mid4 {w : World} {b : Nat} {cs : List Value} (h : RowAt w b cs) (o : Nat) (ho : o + 4 ≤ cs.length) (p q r s : Value) : RowAt (w.setCells b o [p, q, r, s]) b ((((cs.set o p).set (o + 1) q).set (o + 2) r).set (o + 3) s) :=
  (((h.set o (by omega) p).set (o + 1) (by simp; omega) q).set (o + 2) (by simp; omega) r).set (o + 3) (by simp; omega) s
theorem mid_store_run {op : Oper} {a : Act} {w : World} {t : TypeId} (x y : Operand) (ho : op.op = .store t x y) (b o : Nat) (hx : a.eval x = .pointer (some ⟨b, o, none⟩)) (cs es : List Value) (hy : a.eval y = .agg es.toArray) (h : RowAt w b cs) (hl : o + es.length ≤ cs.length) (ht : RowT t es.length) (h1 : ∀ v ∈ es, v.oneCell' = true) :
    (execOp a.eval op).run Tryz.prog w = .ok .skip (w.setCells b o es) := by
  have hth : w.there b o es.toArray.size := by
    rw [List.size_toArray]
    intro j hj
    refine ⟨?_, ?_⟩
    · rw [h.2.1 (o + j) (by omega), List.getElem?_eq_getElem (by omega)]; rfl
    · exact h.2.2 (o + j) (by omega)
  have hst : (storeVar t ⟨b, o, none⟩ (.agg es.toArray)).run Tryz.prog w = .ok () (w.setCells b o es) :=
    run_storeVar_mid w b o t es.toArray hth (by rw [ht.1, List.size_toArray]) (all_oneCell_toArray h1)
  unfold execOp
  simp only [ho, hx, hy, Instr.storeAt, Instr.sureAddr, Sem.run_bind, Sem.run_pure, Result.andThen_ok, hst]
def ObsIs (B b : Nat) (w : World) (e : Ending) (w' : World) : Prop := ∃ (k : Int) (nm : List UInt8) (t f p q r : Int) (a : Option Addr) (n c : Nat) (l : List (Int × Int)), e = .returned (.agg (repC k nm t f p q r (.slice a n c)).toArray) ∧ nm.length ≤ 5 ∧ l.length ≤ 2 ∧ (∀ x ∈ l, I64 x.1 ∧ I64 x.2) ∧ PairsIn w'.heap.size w' (.slice a n c) l ∧ (∀ g, (Value.slice a n c).ownBlock = some g → g ≠ b) ∧ St w B b w'
set_option maxHeartbeats 16000000 in
set_option maxRecDepth 100000 in
theorem obs_ok (B b : Nat) (w : World) (h : CodesIs w B b) : Calls Tryz.prog 9 #[.pointer (some ⟨b, 0, none⟩)] w (ObsIs B b w) := by
  have HO : Hid (OB w B b w.heap.size (w.alloc (.cells #[.int .i64 0, .string ⟨#[]⟩, .int .i64 0, .int .i64 0, .int .i64 0, .int .i64 0, .int .i64 0, .slice none 0 0] 29))) :=
    ⟨(St.start h).alloc _, RowAt.new w Z8 (by simp [Z8]) _ rfl, by have := h.lt; omega, Nat.le_refl _, h.lt, h.le⟩
  clear h
  go_enter Tryz.func9, Tryz.ntmps9
  go_wp2_with fail
  generalize hr : w.heap.size = r at HO ⊢
  generalize w.alloc _ = w2 at HO ⊢
  have O0 := Lib.hid (HO.out.new (Below.refl w2.heap.size w2).drew)
  clear HO
  refine region_cut (fun a W => ∃ (x : Nat) (nm : List UInt8) (t : Int) (u4 u5 u6 u7 u8 u9 u10 u11 u12 u13 u14 u15 u16 u17 u18 : Value), a = ⟨#[.pointer (some ⟨b, 0, none⟩), undef, .pointer (some ⟨r, 0, none⟩), .pointer (some ⟨x, 0, none⟩), u4, u5, u6, u7, u8, u9, u10, u11, u12, u13, u14, u15, u16, u17, u18, undef, undef, undef, undef, undef, undef, undef, undef, undef, undef, undef, undef, undef, undef, undef, undef, undef, undef, undef, undef, undef, undef, undef, undef, undef, undef, undef, undef, undef, undef, undef, undef, undef, undef, undef, undef, undef, undef, undef, undef, undef], []⟩ ∧ nm.length ≤ 5 ∧ -1000 ≤ t ∧ t ≤ 5000 ∧ x ≠ b ∧ w.heap.size ≤ x ∧ x ≠ r ∧ OB w B b r W ∧ RowAt W x (repC 1 nm t 0 0 0 0 (.slice none 0 0))) ?_ ?_
  · refine wp_region_tree (by kernel_rfl) (fun _ => True) 16 (.q 1 0 (.q 5 0 (.q 9 0 (.fork (.e 0 (.fork (.e 2 (.q 3 0 (.fork (.e 4 (.fork (.e 6 (.q 7 0 (.q 8 0 (.fork (.e 10 (.q 11 0 (.q 12 0 (.q 13 0 (.q 14 0 (.e 15 (.e 16 (.nil)))))))) (.e 15 (.e 10 (.q 11 0 (.q 12 0 (.q 13 0 (.q 14 0 (.e 16 (.nil)))))))))))) (.e 15 (.e 6 (.q 7 0 (.q 8 0 (.e 10 (.q 11 0 (.q 12 0 (.q 13 0 (.q 14 0 (.e 16 (.nil))))))))))))) (.fork (.e 6 (.q 7 0 (.q 8 0 (.fork (.e 4 (.fork (.e 10 (.q 11 0 (.q 12 0 (.q 13 0 (.q 14 0 (.e 15 (.e 16 (.nil)))))))) (.e 15 (.e 10 (.q 11 0 (.q 12 0 (.q 13 0 (.q 14 0 (.e 16 (.nil)))))))))) (.fork (.e 10 (.q 11 0 (.q 12 0 (.q 13 0 (.fork (.e 4 (.q 14 0 (.e 15 (.e 16 (.nil))))) (.e 15 (.e 4 (.q 14 0 (.e 16 (.nil)))))))))) (.e 15 (.fork (.e 4 (.e 10 (.q 11 0 (.q 12 0 (.q 13 0 (.q 14 0 (.e 16 (.nil)))))))) (.e 10 (.q 11 0 (.q 12 0 (.q 13 0 (.e 4 (.q 14 0 (.e 16 (.nil))))))))))))))) (.e 15 (.fork (.e 4 (.e 6 (.q 7 0 (.q 8 0 (.e 10 (.q 11 0 (.q 12 0 (.q 13 0 (.q 14 0 (.e 16 (.nil))))))))))) (.e 6 (.q 7 0 (.q 8 0 (.fork (.e 4 (.e 10 (.q 11 0 (.q 12 0 (.q 13 0 (.q 14 0 (.e 16 (.nil)))))))) (.e 10 (.q 11 0 (.q 12 0 (.q 13 0 (.e 4 (.q 14 0 (.e 16 (.nil)))))))))))))))))) (.e 15 (.e 2 (.q 3 0 (.fork (.e 4 (.e 6 (.q 7 0 (.q 8 0 (.e 10 (.q 11 0 (.q 12 0 (.q 13 0 (.q 14 0 (.e 16 (.nil))))))))))) (.e 6 (.q 7 0 (.q 8 0 (.fork (.e 4 (.e 10 (.q 11 0 (.q 12 0 (.q 13 0 (.q 14 0 (.e 16 (.nil)))))))) (.e 10 (.q 11 0 (.q 12 0 (.q 13 0 (.e 4 (.q 14 0 (.e 16 (.nil)))))))))))))))))) (.e 15 (.e 0 (.e 2 (.q 3 0 (.fork (.e 4 (.e 6 (.q 7 0 (.q 8 0 (.e 10 (.q 11 0 (.q 12 0 (.q 13 0 (.q 14 0 (.e 16 (.nil))))))))))) (.e 6 (.q 7 0 (.q 8 0 (.fork (.e 4 (.e 10 (.q 11 0 (.q 12 0 (.q 13 0 (.q 14 0 (.e 16 (.nil)))))))) (.e 10 (.q 11 0 (.q 12 0 (.q 13 0 (.e 4 (.q 14 0 (.e 16 (.nil))))))))))))))))))))) (by kernel_rfl) (trivial) ?_
    refine tr_q (d := some 5) rfl rfl rfl (.pointer (some ⟨b, 0, none⟩)) (fun w => rfl) ?_
    simp only [Act.put, List.setIfInBounds_toArray, List.set_cons_zero, List.set_cons_succ]
    refine tr_q (d := some 9) rfl rfl rfl (.pointer (some ⟨b, 0, none⟩)) (fun w => rfl) ?_
    simp only [Act.put, List.setIfInBounds_toArray, List.set_cons_zero, List.set_cons_succ]
    refine tr_q (d := some 13) rfl rfl rfl (.pointer (some ⟨b, 0, none⟩)) (fun w => rfl) ?_
    simp only [Act.put, List.setIfInBounds_toArray, List.set_cons_zero, List.set_cons_succ]
    refine tr_fork ?_ ?_
    · refine tr_call (d := some 4) rfl rfl rfl ⟨_, Tryz.func29, by kernel_rfl, by kernel_rfl⟩ _ _ _ rfl rfl [] rfl (land_any w2.drew) ?_
      rintro e y1 ⟨rfl, hst, hb⟩
      have hXb : w2.drew.heap.size ≠ b := by have := O0.out.lt; omega
      obtain ⟨X, hX⟩ : ∃ X, X = w2.drew.heap.size := ⟨_, rfl⟩
      rw [← hX] at hst hXb ⊢
      have hs : St w2.drew B b y1 := ⟨O0.out.st.1.below hb O0.out.st.1.lt, But.of_below hb⟩
      have O_1 := Lib.hid (O0.out.call hs)
      have N0 : Hid (StrsAt y1 X lands) := hst
      clear hs hb
      refine ⟨_, rfl, fun _ => trivial, ?_⟩
      simp only [Act.put, List.setIfInBounds_toArray, List.set_cons_zero, List.set_cons_succ]
      refine tr_fork ?_ ?_
      · refine tr_call (d := some 6) rfl rfl rfl ⟨_, Tryz.func7, by kernel_rfl, by kernel_rfl⟩ _ _ _ rfl rfl [.pointer (some ⟨b, 0, none⟩), .int .i64 4] rfl (next_ok B b 4 y1 O_1.out.st.1 (by omega) (by omega)) ?_
        rintro e y2 ⟨x, x0, x1, rfl, hs⟩
        obtain ⟨j, rfl⟩ := Int.eq_ofNat_of_zero_le x0
        have O_2 := Lib.hid (O_1.out.call hs)
        have N_2 := Lib.hid (N0.out.but hs.2 hXb)
        clear hs
        refine ⟨_, rfl, fun _ => trivial, ?_⟩
        simp only [Act.put, List.setIfInBounds_toArray, List.set_cons_zero, List.set_cons_succ]
        refine tr_q (d := some 7) rfl rfl rfl (.pointer (some ⟨X, j, none⟩)) (fun w => by simp [execOp, Act.eval, go_sem]; omega) ?_
        simp only [Act.put, List.setIfInBounds_toArray, List.set_cons_zero, List.set_cons_succ]
        refine tr_fork ?_ ?_
        · have hnm := N_2.out.cell (i := j) (by simp [lands]; omega)
          refine tr_run (d := some 8) rfl rfl rfl (strV (lands.getD j [])) y2 (by simp [execOp, Act.eval, go_sem, hnm, strV]) (fun _ => trivial) ?_
          simp only [Act.put, List.setIfInBounds_toArray, List.set_cons_zero, List.set_cons_succ]
          clear hnm
          refine tr_fork ?_ ?_
          · refine tr_call (d := some 10) rfl rfl rfl ⟨_, Tryz.func7, by kernel_rfl, by kernel_rfl⟩ _ _ _ rfl rfl [.pointer (some ⟨b, 0, none⟩), .int .i64 4] rfl (next_ok B b 4 y2 O_2.out.st.1 (by omega) (by omega)) ?_
            rintro e y3 ⟨p, p0, p1, rfl, hs⟩
            have O_3 := Lib.hid (O_2.out.call hs)
            have N_3 := Lib.hid (N_2.out.but hs.2 hXb)
            clear hs
            refine ⟨_, rfl, fun _ => trivial, ?_⟩
            simp only [Act.put, List.setIfInBounds_toArray, List.set_cons_zero, List.set_cons_succ]
            refine tr_q (d := some 11) rfl rfl rfl (.int .i64 (360 * p)) (fun w => by simp [execOp, Act.eval, go_sem, show IntKind.i64.wrap (360 * p) = 360 * p from IntWalk.i64_in _ (by omega)]) ?_
            simp only [Act.put, List.setIfInBounds_toArray, List.set_cons_zero, List.set_cons_succ]
            refine tr_q (d := some 12) rfl rfl rfl (.int .i64 (240 + 360 * p)) (fun w => by simp [execOp, Act.eval, go_sem, show IntKind.i64.wrap (240 + 360 * p) = 240 + 360 * p from IntWalk.i64_in _ (by omega)]) ?_
            simp only [Act.put, List.setIfInBounds_toArray, List.set_cons_zero, List.set_cons_succ]
            refine tr_fork ?_ ?_
            · refine tr_call (d := some 14) rfl rfl rfl ⟨_, Tryz.func7, by kernel_rfl, by kernel_rfl⟩ _ _ _ rfl rfl [.pointer (some ⟨b, 0, none⟩), .int .i64 9] rfl (next_ok B b 9 y3 O_3.out.st.1 (by omega) (by omega)) ?_
              rintro e y4 ⟨q, q0, q1, rfl, hs⟩
              have O_4 := Lib.hid (O_3.out.call hs)
              have N_4 := Lib.hid (N_3.out.but hs.2 hXb)
              clear hs
              refine ⟨_, rfl, fun _ => trivial, ?_⟩
              simp only [Act.put, List.setIfInBounds_toArray, List.set_cons_zero, List.set_cons_succ]
              refine tr_q (d := some 15) rfl rfl rfl (.int .i64 (q - 4)) (fun w => by simp [execOp, Act.eval, go_sem, show IntKind.i64.wrap (q - 4) = q - 4 from IntWalk.i64_in _ (by omega)]) ?_
              simp only [Act.put, List.setIfInBounds_toArray, List.set_cons_zero, List.set_cons_succ]
              refine tr_q (d := some 16) rfl rfl rfl (.int .i64 (30 * (q - 4))) (fun w => by simp [execOp, Act.eval, go_sem, show IntKind.i64.wrap (30 * (q - 4)) = 30 * (q - 4) from IntWalk.i64_in _ (by omega)]) ?_
              simp only [Act.put, List.setIfInBounds_toArray, List.set_cons_zero, List.set_cons_succ]
              refine tr_q (d := some 17) rfl rfl rfl (.int .i64 (240 + 360 * p + 30 * (q - 4))) (fun w => by simp [execOp, Act.eval, go_sem, show IntKind.i64.wrap (240 + 360 * p + 30 * (q - 4)) = 240 + 360 * p + 30 * (q - 4) from IntWalk.i64_in _ (by omega)]) ?_
              simp only [Act.put, List.setIfInBounds_toArray, List.set_cons_zero, List.set_cons_succ]
              refine tr_q (d := some 18) rfl rfl rfl (.agg (repC 1 (lands.getD j []) (240 + 360 * p + 30 * (q - 4)) 0 0 0 0 (.slice none 0 0)).toArray) (fun w => by simp [execOp, Act.eval, Instr.build, go_sem, repC, strV]) ?_
              simp only [Act.put, List.setIfInBounds_toArray, List.set_cons_zero, List.set_cons_succ]
              obtain ⟨y5, hnw⟩ : ∃ y, y = y4.alloc (.cells Z8.toArray 29) := ⟨_, rfl⟩
              obtain ⟨x, hx⟩ : ∃ x, x = y4.heap.size := ⟨_, rfl⟩
              have hb : Below y4.heap.size y4 y5 := by rw [hnw]; exact (Below.refl _ _).alloc (Nat.le_refl _) _
              have hs : St y4 B b y5 := ⟨O_4.out.st.1.below hb O_4.out.st.1.lt, But.of_below hb⟩
              have hxb : x ≠ b := by have := O_4.out.lt; omega
              have hxl : w.heap.size ≤ x := by have := O_4.out.ge; omega
              have hxr : x ≠ r := by have := O_4.out.row.lt; omega
              have O_5 := Lib.hid (O_4.out.call hs)
              have N_5 := Lib.hid (N_4.out.but hs.2 hXb)
              have X0 : Hid (RowAt y5 x Z8) := by unfold Hid; rw [hnw]; exact RowAt.new _ Z8 (by simp [Z8]) _ hx.symm
              refine tr_run (d := some 3) rfl rfl rfl (.pointer (some ⟨x, 0, none⟩)) y5 (by rw [hnw, hx]; simp [execOp, Act.eval, go_sem, Z8]) (fun _ => trivial) ?_
              simp only [Act.put, List.setIfInBounds_toArray, List.set_cons_zero, List.set_cons_succ]
              clear hs hb hnw hx
              refine tr_skip (d := none) rfl rfl rfl (y5.setCells x 0 (repC 1 (lands.getD j []) (240 + 360 * p + 30 * (q - 4)) 0 0 0 0 (.slice none 0 0))) (row_store_run _ _ rfl x rfl Z8 (repC 1 (lands.getD j []) (240 + 360 * p + 30 * (q - 4)) 0 0 0 0 (.slice none 0 0)) rfl X0.out rfl rowT_rep (List.all_eq_true.1 rfl)) (fun _ => trivial) ?_
              simp only [Act.put, List.setIfInBounds_toArray, List.set_cons_zero, List.set_cons_succ]
              refine tr_end ?_
              have hap := apartR_setCells x (repC 1 (lands.getD j []) (240 + 360 * p + 30 * (q - 4)) 0 0 0 0 (.slice none 0 0)) 0 y5
              exact ⟨rfl, x, lands.getD j [], 240 + 360 * p + 30 * (q - 4), _, _, _, _, _, _, _, _, _, _, _, _, _, _, _, rfl, lands_len j, by omega, by omega, hxb, hxl, hxr, O_5.out.apart hap hxl hxb hxr, X0.out.setCells rfl⟩
            · obtain ⟨y4, hnw⟩ : ∃ y, y = y3.alloc (.cells Z8.toArray 29) := ⟨_, rfl⟩
              obtain ⟨x, hx⟩ : ∃ x, x = y3.heap.size := ⟨_, rfl⟩
              have hb : Below y3.heap.size y3 y4 := by rw [hnw]; exact (Below.refl _ _).alloc (Nat.le_refl _) _
              have hs : St y3 B b y4 := ⟨O_3.out.st.1.below hb O_3.out.st.1.lt, But.of_below hb⟩
              have hxb : x ≠ b := by have := O_3.out.lt; omega
              have hxl : w.heap.size ≤ x := by have := O_3.out.ge; omega
              have hxr : x ≠ r := by have := O_3.out.row.lt; omega
              have O_4 := Lib.hid (O_3.out.call hs)
              have N_4 := Lib.hid (N_3.out.but hs.2 hXb)
              have X0 : Hid (RowAt y4 x Z8) := by unfold Hid; rw [hnw]; exact RowAt.new _ Z8 (by simp [Z8]) _ hx.symm
              refine tr_run (d := some 3) rfl rfl rfl (.pointer (some ⟨x, 0, none⟩)) y4 (by rw [hnw, hx]; simp [execOp, Act.eval, go_sem, Z8]) (fun _ => trivial) ?_
              simp only [Act.put, List.setIfInBounds_toArray, List.set_cons_zero, List.set_cons_succ]
              clear hs hb hnw hx
              refine tr_call (d := some 14) rfl rfl rfl ⟨_, Tryz.func7, by kernel_rfl, by kernel_rfl⟩ _ _ _ rfl rfl [.pointer (some ⟨b, 0, none⟩), .int .i64 9] rfl (next_ok B b 9 y4 O_4.out.st.1 (by omega) (by omega)) ?_
              rintro e y5 ⟨q, q0, q1, rfl, hs⟩
              have O_5 := Lib.hid (O_4.out.call hs)
              have N_5 := Lib.hid (N_4.out.but hs.2 hXb)
              have X_5 := Lib.hid (X0.out.but hs.2 hxb)
              clear hs
              refine ⟨_, rfl, fun _ => trivial, ?_⟩
              simp only [Act.put, List.setIfInBounds_toArray, List.set_cons_zero, List.set_cons_succ]
              refine tr_q (d := some 15) rfl rfl rfl (.int .i64 (q - 4)) (fun w => by simp [execOp, Act.eval, go_sem, show IntKind.i64.wrap (q - 4) = q - 4 from IntWalk.i64_in _ (by omega)]) ?_
              simp only [Act.put, List.setIfInBounds_toArray, List.set_cons_zero, List.set_cons_succ]
              refine tr_q (d := some 16) rfl rfl rfl (.int .i64 (30 * (q - 4))) (fun w => by simp [execOp, Act.eval, go_sem, show IntKind.i64.wrap (30 * (q - 4)) = 30 * (q - 4) from IntWalk.i64_in _ (by omega)]) ?_
              simp only [Act.put, List.setIfInBounds_toArray, List.set_cons_zero, List.set_cons_succ]
              refine tr_q (d := some 17) rfl rfl rfl (.int .i64 (240 + 360 * p + 30 * (q - 4))) (fun w => by simp [execOp, Act.eval, go_sem, show IntKind.i64.wrap (240 + 360 * p + 30 * (q - 4)) = 240 + 360 * p + 30 * (q - 4) from IntWalk.i64_in _ (by omega)]) ?_
              simp only [Act.put, List.setIfInBounds_toArray, List.set_cons_zero, List.set_cons_succ]
              refine tr_q (d := some 18) rfl rfl rfl (.agg (repC 1 (lands.getD j []) (240 + 360 * p + 30 * (q - 4)) 0 0 0 0 (.slice none 0 0)).toArray) (fun w => by simp [execOp, Act.eval, Instr.build, go_sem, repC, strV]) ?_
              simp only [Act.put, List.setIfInBounds_toArray, List.set_cons_zero, List.set_cons_succ]
              refine tr_skip (d := none) rfl rfl rfl (y5.setCells x 0 (repC 1 (lands.getD j []) (240 + 360 * p + 30 * (q - 4)) 0 0 0 0 (.slice none 0 0))) (row_store_run _ _ rfl x rfl Z8 (repC 1 (lands.getD j []) (240 + 360 * p + 30 * (q - 4)) 0 0 0 0 (.slice none 0 0)) rfl X_5.out rfl rowT_rep (List.all_eq_true.1 rfl)) (fun _ => trivial) ?_
              simp only [Act.put, List.setIfInBounds_toArray, List.set_cons_zero, List.set_cons_succ]
              refine tr_end ?_
              have hap := apartR_setCells x (repC 1 (lands.getD j []) (240 + 360 * p + 30 * (q - 4)) 0 0 0 0 (.slice none 0 0)) 0 y5
              exact ⟨rfl, x, lands.getD j [], 240 + 360 * p + 30 * (q - 4), _, _, _, _, _, _, _, _, _, _, _, _, _, _, _, rfl, lands_len j, by omega, by omega, hxb, hxl, hxr, O_5.out.apart hap hxl hxb hxr, X_5.out.setCells rfl⟩
          · obtain ⟨y3, hnw⟩ : ∃ y, y = y2.alloc (.cells Z8.toArray 29) := ⟨_, rfl⟩
            obtain ⟨x, hx⟩ : ∃ x, x = y2.heap.size := ⟨_, rfl⟩
            have hb : Below y2.heap.size y2 y3 := by rw [hnw]; exact (Below.refl _ _).alloc (Nat.le_refl _) _
            have hs : St y2 B b y3 := ⟨O_2.out.st.1.below hb O_2.out.st.1.lt, But.of_below hb⟩
            have hxb : x ≠ b := by have := O_2.out.lt; omega
            have hxl : w.heap.size ≤ x := by have := O_2.out.ge; omega
            have hxr : x ≠ r := by have := O_2.out.row.lt; omega
            have O_3 := Lib.hid (O_2.out.call hs)
            have N_3 := Lib.hid (N_2.out.but hs.2 hXb)
            have X0 : Hid (RowAt y3 x Z8) := by unfold Hid; rw [hnw]; exact RowAt.new _ Z8 (by simp [Z8]) _ hx.symm
            refine tr_run (d := some 3) rfl rfl rfl (.pointer (some ⟨x, 0, none⟩)) y3 (by rw [hnw, hx]; simp [execOp, Act.eval, go_sem, Z8]) (fun _ => trivial) ?_
            simp only [Act.put, List.setIfInBounds_toArray, List.set_cons_zero, List.set_cons_succ]
            clear hs hb hnw hx
            refine tr_call (d := some 10) rfl rfl rfl ⟨_, Tryz.func7, by kernel_rfl, by kernel_rfl⟩ _ _ _ rfl rfl [.pointer (some ⟨b, 0, none⟩), .int .i64 4] rfl (next_ok B b 4 y3 O_3.out.st.1 (by omega) (by omega)) ?_
            rintro e y4 ⟨p, p0, p1, rfl, hs⟩
            have O_4 := Lib.hid (O_3.out.call hs)
            have N_4 := Lib.hid (N_3.out.but hs.2 hXb)
            have X_4 := Lib.hid (X0.out.but hs.2 hxb)
            clear hs
            refine ⟨_, rfl, fun _ => trivial, ?_⟩
            simp only [Act.put, List.setIfInBounds_toArray, List.set_cons_zero, List.set_cons_succ]
            refine tr_q (d := some 11) rfl rfl rfl (.int .i64 (360 * p)) (fun w => by simp [execOp, Act.eval, go_sem, show IntKind.i64.wrap (360 * p) = 360 * p from IntWalk.i64_in _ (by omega)]) ?_
            simp only [Act.put, List.setIfInBounds_toArray, List.set_cons_zero, List.set_cons_succ]
            refine tr_q (d := some 12) rfl rfl rfl (.int .i64 (240 + 360 * p)) (fun w => by simp [execOp, Act.eval, go_sem, show IntKind.i64.wrap (240 + 360 * p) = 240 + 360 * p from IntWalk.i64_in _ (by omega)]) ?_
            simp only [Act.put, List.setIfInBounds_toArray, List.set_cons_zero, List.set_cons_succ]
            refine tr_call (d := some 14) rfl rfl rfl ⟨_, Tryz.func7, by kernel_rfl, by kernel_rfl⟩ _ _ _ rfl rfl [.pointer (some ⟨b, 0, none⟩), .int .i64 9] rfl (next_ok B b 9 y4 O_4.out.st.1 (by omega) (by omega)) ?_
            rintro e y5 ⟨q, q0, q1, rfl, hs⟩
            have O_5 := Lib.hid (O_4.out.call hs)
            have N_5 := Lib.hid (N_4.out.but hs.2 hXb)
            have X_5 := Lib.hid (X_4.out.but hs.2 hxb)
            clear hs
            refine ⟨_, rfl, fun _ => trivial, ?_⟩
            simp only [Act.put, List.setIfInBounds_toArray, List.set_cons_zero, List.set_cons_succ]
            refine tr_q (d := some 15) rfl rfl rfl (.int .i64 (q - 4)) (fun w => by simp [execOp, Act.eval, go_sem, show IntKind.i64.wrap (q - 4) = q - 4 from IntWalk.i64_in _ (by omega)]) ?_
            simp only [Act.put, List.setIfInBounds_toArray, List.set_cons_zero, List.set_cons_succ]
            refine tr_q (d := some 16) rfl rfl rfl (.int .i64 (30 * (q - 4))) (fun w => by simp [execOp, Act.eval, go_sem, show IntKind.i64.wrap (30 * (q - 4)) = 30 * (q - 4) from IntWalk.i64_in _ (by omega)]) ?_
            simp only [Act.put, List.setIfInBounds_toArray, List.set_cons_zero, List.set_cons_succ]
            refine tr_q (d := some 17) rfl rfl rfl (.int .i64 (240 + 360 * p + 30 * (q - 4))) (fun w => by simp [execOp, Act.eval, go_sem, show IntKind.i64.wrap (240 + 360 * p + 30 * (q - 4)) = 240 + 360 * p + 30 * (q - 4) from IntWalk.i64_in _ (by omega)]) ?_
            simp only [Act.put, List.setIfInBounds_toArray, List.set_cons_zero, List.set_cons_succ]
            refine tr_q (d := some 18) rfl rfl rfl (.agg (repC 1 (lands.getD j []) (240 + 360 * p + 30 * (q - 4)) 0 0 0 0 (.slice none 0 0)).toArray) (fun w => by simp [execOp, Act.eval, Instr.build, go_sem, repC, strV]) ?_
            simp only [Act.put, List.setIfInBounds_toArray, List.set_cons_zero, List.set_cons_succ]
            refine tr_skip (d := none) rfl rfl rfl (y5.setCells x 0 (repC 1 (lands.getD j []) (240 + 360 * p + 30 * (q - 4)) 0 0 0 0 (.slice none 0 0))) (row_store_run _ _ rfl x rfl Z8 (repC 1 (lands.getD j []) (240 + 360 * p + 30 * (q - 4)) 0 0 0 0 (.slice none 0 0)) rfl X_5.out rfl rowT_rep (List.all_eq_true.1 rfl)) (fun _ => trivial) ?_
            simp only [Act.put, List.setIfInBounds_toArray, List.set_cons_zero, List.set_cons_succ]
            refine tr_end ?_
            have hap := apartR_setCells x (repC 1 (lands.getD j []) (240 + 360 * p + 30 * (q - 4)) 0 0 0 0 (.slice none 0 0)) 0 y5
            exact ⟨rfl, x, lands.getD j [], 240 + 360 * p + 30 * (q - 4), _, _, _, _, _, _, _, _, _, _, _, _, _, _, _, rfl, lands_len j, by omega, by omega, hxb, hxl, hxr, O_5.out.apart hap hxl hxb hxr, X_5.out.setCells rfl⟩
        refine tr_fork ?_ ?_
        · refine tr_call (d := some 10) rfl rfl rfl ⟨_, Tryz.func7, by kernel_rfl, by kernel_rfl⟩ _ _ _ rfl rfl [.pointer (some ⟨b, 0, none⟩), .int .i64 4] rfl (next_ok B b 4 y2 O_2.out.st.1 (by omega) (by omega)) ?_
          rintro e y3 ⟨p, p0, p1, rfl, hs⟩
          have O_3 := Lib.hid (O_2.out.call hs)
          have N_3 := Lib.hid (N_2.out.but hs.2 hXb)
          clear hs
          refine ⟨_, rfl, fun _ => trivial, ?_⟩
          simp only [Act.put, List.setIfInBounds_toArray, List.set_cons_zero, List.set_cons_succ]
          refine tr_q (d := some 11) rfl rfl rfl (.int .i64 (360 * p)) (fun w => by simp [execOp, Act.eval, go_sem, show IntKind.i64.wrap (360 * p) = 360 * p from IntWalk.i64_in _ (by omega)]) ?_
          simp only [Act.put, List.setIfInBounds_toArray, List.set_cons_zero, List.set_cons_succ]
          refine tr_q (d := some 12) rfl rfl rfl (.int .i64 (240 + 360 * p)) (fun w => by simp [execOp, Act.eval, go_sem, show IntKind.i64.wrap (240 + 360 * p) = 240 + 360 * p from IntWalk.i64_in _ (by omega)]) ?_
          simp only [Act.put, List.setIfInBounds_toArray, List.set_cons_zero, List.set_cons_succ]
          refine tr_fork ?_ ?_
          · have hnm := N_3.out.cell (i := j) (by simp [lands]; omega)
            refine tr_run (d := some 8) rfl rfl rfl (strV (lands.getD j [])) y3 (by simp [execOp, Act.eval, go_sem, hnm, strV]) (fun _ => trivial) ?_
            simp only [Act.put, List.setIfInBounds_toArray, List.set_cons_zero, List.set_cons_succ]
            clear hnm
            refine tr_fork ?_ ?_
            · refine tr_call (d := some 14) rfl rfl rfl ⟨_, Tryz.func7, by kernel_rfl, by kernel_rfl⟩ _ _ _ rfl rfl [.pointer (some ⟨b, 0, none⟩), .int .i64 9] rfl (next_ok B b 9 y3 O_3.out.st.1 (by omega) (by omega)) ?_
              rintro e y4 ⟨q, q0, q1, rfl, hs⟩
              have O_4 := Lib.hid (O_3.out.call hs)
              have N_4 := Lib.hid (N_3.out.but hs.2 hXb)
              clear hs
              refine ⟨_, rfl, fun _ => trivial, ?_⟩
              simp only [Act.put, List.setIfInBounds_toArray, List.set_cons_zero, List.set_cons_succ]
              refine tr_q (d := some 15) rfl rfl rfl (.int .i64 (q - 4)) (fun w => by simp [execOp, Act.eval, go_sem, show IntKind.i64.wrap (q - 4) = q - 4 from IntWalk.i64_in _ (by omega)]) ?_
              simp only [Act.put, List.setIfInBounds_toArray, List.set_cons_zero, List.set_cons_succ]
              refine tr_q (d := some 16) rfl rfl rfl (.int .i64 (30 * (q - 4))) (fun w => by simp [execOp, Act.eval, go_sem, show IntKind.i64.wrap (30 * (q - 4)) = 30 * (q - 4) from IntWalk.i64_in _ (by omega)]) ?_
              simp only [Act.put, List.setIfInBounds_toArray, List.set_cons_zero, List.set_cons_succ]
              refine tr_q (d := some 17) rfl rfl rfl (.int .i64 (240 + 360 * p + 30 * (q - 4))) (fun w => by simp [execOp, Act.eval, go_sem, show IntKind.i64.wrap (240 + 360 * p + 30 * (q - 4)) = 240 + 360 * p + 30 * (q - 4) from IntWalk.i64_in _ (by omega)]) ?_
              simp only [Act.put, List.setIfInBounds_toArray, List.set_cons_zero, List.set_cons_succ]
              refine tr_q (d := some 18) rfl rfl rfl (.agg (repC 1 (lands.getD j []) (240 + 360 * p + 30 * (q - 4)) 0 0 0 0 (.slice none 0 0)).toArray) (fun w => by simp [execOp, Act.eval, Instr.build, go_sem, repC, strV]) ?_
              simp only [Act.put, List.setIfInBounds_toArray, List.set_cons_zero, List.set_cons_succ]
              obtain ⟨y5, hnw⟩ : ∃ y, y = y4.alloc (.cells Z8.toArray 29) := ⟨_, rfl⟩
              obtain ⟨x, hx⟩ : ∃ x, x = y4.heap.size := ⟨_, rfl⟩
              have hb : Below y4.heap.size y4 y5 := by rw [hnw]; exact (Below.refl _ _).alloc (Nat.le_refl _) _
              have hs : St y4 B b y5 := ⟨O_4.out.st.1.below hb O_4.out.st.1.lt, But.of_below hb⟩
              have hxb : x ≠ b := by have := O_4.out.lt; omega
              have hxl : w.heap.size ≤ x := by have := O_4.out.ge; omega
              have hxr : x ≠ r := by have := O_4.out.row.lt; omega
              have O_5 := Lib.hid (O_4.out.call hs)
              have N_5 := Lib.hid (N_4.out.but hs.2 hXb)
              have X0 : Hid (RowAt y5 x Z8) := by unfold Hid; rw [hnw]; exact RowAt.new _ Z8 (by simp [Z8]) _ hx.symm
              refine tr_run (d := some 3) rfl rfl rfl (.pointer (some ⟨x, 0, none⟩)) y5 (by rw [hnw, hx]; simp [execOp, Act.eval, go_sem, Z8]) (fun _ => trivial) ?_
              simp only [Act.put, List.setIfInBounds_toArray, List.set_cons_zero, List.set_cons_succ]
              clear hs hb hnw hx
              refine tr_skip (d := none) rfl rfl rfl (y5.setCells x 0 (repC 1 (lands.getD j []) (240 + 360 * p + 30 * (q - 4)) 0 0 0 0 (.slice none 0 0))) (row_store_run _ _ rfl x rfl Z8 (repC 1 (lands.getD j []) (240 + 360 * p + 30 * (q - 4)) 0 0 0 0 (.slice none 0 0)) rfl X0.out rfl rowT_rep (List.all_eq_true.1 rfl)) (fun _ => trivial) ?_
              simp only [Act.put, List.setIfInBounds_toArray, List.set_cons_zero, List.set_cons_succ]
              refine tr_end ?_
              have hap := apartR_setCells x (repC 1 (lands.getD j []) (240 + 360 * p + 30 * (q - 4)) 0 0 0 0 (.slice none 0 0)) 0 y5
              exact ⟨rfl, x, lands.getD j [], 240 + 360 * p + 30 * (q - 4), _, _, _, _, _, _, _, _, _, _, _, _, _, _, _, rfl, lands_len j, by omega, by omega, hxb, hxl, hxr, O_5.out.apart hap hxl hxb hxr, X0.out.setCells rfl⟩
            · obtain ⟨y4, hnw⟩ : ∃ y, y = y3.alloc (.cells Z8.toArray 29) := ⟨_, rfl⟩
              obtain ⟨x, hx⟩ : ∃ x, x = y3.heap.size := ⟨_, rfl⟩
              have hb : Below y3.heap.size y3 y4 := by rw [hnw]; exact (Below.refl _ _).alloc (Nat.le_refl _) _
              have hs : St y3 B b y4 := ⟨O_3.out.st.1.below hb O_3.out.st.1.lt, But.of_below hb⟩
              have hxb : x ≠ b := by have := O_3.out.lt; omega
              have hxl : w.heap.size ≤ x := by have := O_3.out.ge; omega
              have hxr : x ≠ r := by have := O_3.out.row.lt; omega
              have O_4 := Lib.hid (O_3.out.call hs)
              have N_4 := Lib.hid (N_3.out.but hs.2 hXb)
              have X0 : Hid (RowAt y4 x Z8) := by unfold Hid; rw [hnw]; exact RowAt.new _ Z8 (by simp [Z8]) _ hx.symm
              refine tr_run (d := some 3) rfl rfl rfl (.pointer (some ⟨x, 0, none⟩)) y4 (by rw [hnw, hx]; simp [execOp, Act.eval, go_sem, Z8]) (fun _ => trivial) ?_
              simp only [Act.put, List.setIfInBounds_toArray, List.set_cons_zero, List.set_cons_succ]
              clear hs hb hnw hx
              refine tr_call (d := some 14) rfl rfl rfl ⟨_, Tryz.func7, by kernel_rfl, by kernel_rfl⟩ _ _ _ rfl rfl [.pointer (some ⟨b, 0, none⟩), .int .i64 9] rfl (next_ok B b 9 y4 O_4.out.st.1 (by omega) (by omega)) ?_
              rintro e y5 ⟨q, q0, q1, rfl, hs⟩
              have O_5 := Lib.hid (O_4.out.call hs)
              have N_5 := Lib.hid (N_4.out.but hs.2 hXb)
              have X_5 := Lib.hid (X0.out.but hs.2 hxb)
              clear hs
              refine ⟨_, rfl, fun _ => trivial, ?_⟩
              simp only [Act.put, List.setIfInBounds_toArray, List.set_cons_zero, List.set_cons_succ]
              refine tr_q (d := some 15) rfl rfl rfl (.int .i64 (q - 4)) (fun w => by simp [execOp, Act.eval, go_sem, show IntKind.i64.wrap (q - 4) = q - 4 from IntWalk.i64_in _ (by omega)]) ?_
              simp only [Act.put, List.setIfInBounds_toArray, List.set_cons_zero, List.set_cons_succ]
              refine tr_q (d := some 16) rfl rfl rfl (.int .i64 (30 * (q - 4))) (fun w => by simp [execOp, Act.eval, go_sem, show IntKind.i64.wrap (30 * (q - 4)) = 30 * (q - 4) from IntWalk.i64_in _ (by omega)]) ?_
              simp only [Act.put, List.setIfInBounds_toArray, List.set_cons_zero, List.set_cons_succ]
              refine tr_q (d := some 17) rfl rfl rfl (.int .i64 (240 + 360 * p + 30 * (q - 4))) (fun w => by simp [execOp, Act.eval, go_sem, show IntKind.i64.wrap (240 + 360 * p + 30 * (q - 4)) = 240 + 360 * p + 30 * (q - 4) from IntWalk.i64_in _ (by omega)]) ?_
              simp only [Act.put, List.setIfInBounds_toArray, List.set_cons_zero, List.set_cons_succ]
              refine tr_q (d := some 18) rfl rfl rfl (.agg (repC 1 (lands.getD j []) (240 + 360 * p + 30 * (q - 4)) 0 0 0 0 (.slice none 0 0)).toArray) (fun w => by simp [execOp, Act.eval, Instr.build, go_sem, repC, strV]) ?_
              simp only [Act.put, List.setIfInBounds_toArray, List.set_cons_zero, List.set_cons_succ]
              refine tr_skip (d := none) rfl rfl rfl (y5.setCells x 0 (repC 1 (lands.getD j []) (240 + 360 * p + 30 * (q - 4)) 0 0 0 0 (.slice none 0 0))) (row_store_run _ _ rfl x rfl Z8 (repC 1 (lands.getD j []) (240 + 360 * p + 30 * (q - 4)) 0 0 0 0 (.slice none 0 0)) rfl X_5.out rfl rowT_rep (List.all_eq_true.1 rfl)) (fun _ => trivial) ?_
              simp only [Act.put, List.setIfInBounds_toArray, List.set_cons_zero, List.set_cons_succ]
              refine tr_end ?_
              have hap := apartR_setCells x (repC 1 (lands.getD j []) (240 + 360 * p + 30 * (q - 4)) 0 0 0 0 (.slice none 0 0)) 0 y5
              exact ⟨rfl, x, lands.getD j [], 240 + 360 * p + 30 * (q - 4), _, _, _, _, _, _, _, _, _, _, _, _, _, _, _, rfl, lands_len j, by omega, by omega, hxb, hxl, hxr, O_5.out.apart hap hxl hxb hxr, X_5.out.setCells rfl⟩
          refine tr_fork ?_ ?_
          · refine tr_call (d := some 14) rfl rfl rfl ⟨_, Tryz.func7, by kernel_rfl, by kernel_rfl⟩ _ _ _ rfl rfl [.pointer (some ⟨b, 0, none⟩), .int .i64 9] rfl (next_ok B b 9 y3 O_3.out.st.1 (by omega) (by omega)) ?_
            rintro e y4 ⟨q, q0, q1, rfl, hs⟩
            have O_4 := Lib.hid (O_3.out.call hs)
            have N_4 := Lib.hid (N_3.out.but hs.2 hXb)
            clear hs
            refine ⟨_, rfl, fun _ => trivial, ?_⟩
            simp only [Act.put, List.setIfInBounds_toArray, List.set_cons_zero, List.set_cons_succ]
            refine tr_q (d := some 15) rfl rfl rfl (.int .i64 (q - 4)) (fun w => by simp [execOp, Act.eval, go_sem, show IntKind.i64.wrap (q - 4) = q - 4 from IntWalk.i64_in _ (by omega)]) ?_
            simp only [Act.put, List.setIfInBounds_toArray, List.set_cons_zero, List.set_cons_succ]
            refine tr_q (d := some 16) rfl rfl rfl (.int .i64 (30 * (q - 4))) (fun w => by simp [execOp, Act.eval, go_sem, show IntKind.i64.wrap (30 * (q - 4)) = 30 * (q - 4) from IntWalk.i64_in _ (by omega)]) ?_
            simp only [Act.put, List.setIfInBounds_toArray, List.set_cons_zero, List.set_cons_succ]
            refine tr_q (d := some 17) rfl rfl rfl (.int .i64 (240 + 360 * p + 30 * (q - 4))) (fun w => by simp [execOp, Act.eval, go_sem, show IntKind.i64.wrap (240 + 360 * p + 30 * (q - 4)) = 240 + 360 * p + 30 * (q - 4) from IntWalk.i64_in _ (by omega)]) ?_
            simp only [Act.put, List.setIfInBounds_toArray, List.set_cons_zero, List.set_cons_succ]
            refine tr_fork ?_ ?_
            · have hnm := N_4.out.cell (i := j) (by simp [lands]; omega)
              refine tr_run (d := some 8) rfl rfl rfl (strV (lands.getD j [])) y4 (by simp [execOp, Act.eval, go_sem, hnm, strV]) (fun _ => trivial) ?_
              simp only [Act.put, List.setIfInBounds_toArray, List.set_cons_zero, List.set_cons_succ]
              clear hnm
              refine tr_q (d := some 18) rfl rfl rfl (.agg (repC 1 (lands.getD j []) (240 + 360 * p + 30 * (q - 4)) 0 0 0 0 (.slice none 0 0)).toArray) (fun w => by simp [execOp, Act.eval, Instr.build, go_sem, repC, strV]) ?_
              simp only [Act.put, List.setIfInBounds_toArray, List.set_cons_zero, List.set_cons_succ]
              obtain ⟨y5, hnw⟩ : ∃ y, y = y4.alloc (.cells Z8.toArray 29) := ⟨_, rfl⟩
              obtain ⟨x, hx⟩ : ∃ x, x = y4.heap.size := ⟨_, rfl⟩
              have hb : Below y4.heap.size y4 y5 := by rw [hnw]; exact (Below.refl _ _).alloc (Nat.le_refl _) _
              have hs : St y4 B b y5 := ⟨O_4.out.st.1.below hb O_4.out.st.1.lt, But.of_below hb⟩
              have hxb : x ≠ b := by have := O_4.out.lt; omega
              have hxl : w.heap.size ≤ x := by have := O_4.out.ge; omega
              have hxr : x ≠ r := by have := O_4.out.row.lt; omega
              have O_5 := Lib.hid (O_4.out.call hs)
              have N_5 := Lib.hid (N_4.out.but hs.2 hXb)
              have X0 : Hid (RowAt y5 x Z8) := by unfold Hid; rw [hnw]; exact RowAt.new _ Z8 (by simp [Z8]) _ hx.symm
              refine tr_run (d := some 3) rfl rfl rfl (.pointer (some ⟨x, 0, none⟩)) y5 (by rw [hnw, hx]; simp [execOp, Act.eval, go_sem, Z8]) (fun _ => trivial) ?_
              simp only [Act.put, List.setIfInBounds_toArray, List.set_cons_zero, List.set_cons_succ]
              clear hs hb hnw hx
              refine tr_skip (d := none) rfl rfl rfl (y5.setCells x 0 (repC 1 (lands.getD j []) (240 + 360 * p + 30 * (q - 4)) 0 0 0 0 (.slice none 0 0))) (row_store_run _ _ rfl x rfl Z8 (repC 1 (lands.getD j []) (240 + 360 * p + 30 * (q - 4)) 0 0 0 0 (.slice none 0 0)) rfl X0.out rfl rowT_rep (List.all_eq_true.1 rfl)) (fun _ => trivial) ?_
              simp only [Act.put, List.setIfInBounds_toArray, List.set_cons_zero, List.set_cons_succ]
              refine tr_end ?_
              have hap := apartR_setCells x (repC 1 (lands.getD j []) (240 + 360 * p + 30 * (q - 4)) 0 0 0 0 (.slice none 0 0)) 0 y5
              exact ⟨rfl, x, lands.getD j [], 240 + 360 * p + 30 * (q - 4), _, _, _, _, _, _, _, _, _, _, _, _, _, _, _, rfl, lands_len j, by omega, by omega, hxb, hxl, hxr, O_5.out.apart hap hxl hxb hxr, X0.out.setCells rfl⟩
            · obtain ⟨y5, hnw⟩ : ∃ y, y = y4.alloc (.cells Z8.toArray 29) := ⟨_, rfl⟩
              obtain ⟨x, hx⟩ : ∃ x, x = y4.heap.size := ⟨_, rfl⟩
              have hb : Below y4.heap.size y4 y5 := by rw [hnw]; exact (Below.refl _ _).alloc (Nat.le_refl _) _
              have hs : St y4 B b y5 := ⟨O_4.out.st.1.below hb O_4.out.st.1.lt, But.of_below hb⟩
              have hxb : x ≠ b := by have := O_4.out.lt; omega
              have hxl : w.heap.size ≤ x := by have := O_4.out.ge; omega
              have hxr : x ≠ r := by have := O_4.out.row.lt; omega
              have O_5 := Lib.hid (O_4.out.call hs)
              have N_5 := Lib.hid (N_4.out.but hs.2 hXb)
              have X0 : Hid (RowAt y5 x Z8) := by unfold Hid; rw [hnw]; exact RowAt.new _ Z8 (by simp [Z8]) _ hx.symm
              refine tr_run (d := some 3) rfl rfl rfl (.pointer (some ⟨x, 0, none⟩)) y5 (by rw [hnw, hx]; simp [execOp, Act.eval, go_sem, Z8]) (fun _ => trivial) ?_
              simp only [Act.put, List.setIfInBounds_toArray, List.set_cons_zero, List.set_cons_succ]
              clear hs hb hnw hx
              have hnm := N_5.out.cell (i := j) (by simp [lands]; omega)
              refine tr_run (d := some 8) rfl rfl rfl (strV (lands.getD j [])) y5 (by simp [execOp, Act.eval, go_sem, hnm, strV]) (fun _ => trivial) ?_
              simp only [Act.put, List.setIfInBounds_toArray, List.set_cons_zero, List.set_cons_succ]
              clear hnm
              refine tr_q (d := some 18) rfl rfl rfl (.agg (repC 1 (lands.getD j []) (240 + 360 * p + 30 * (q - 4)) 0 0 0 0 (.slice none 0 0)).toArray) (fun w => by simp [execOp, Act.eval, Instr.build, go_sem, repC, strV]) ?_
              simp only [Act.put, List.setIfInBounds_toArray, List.set_cons_zero, List.set_cons_succ]
              refine tr_skip (d := none) rfl rfl rfl (y5.setCells x 0 (repC 1 (lands.getD j []) (240 + 360 * p + 30 * (q - 4)) 0 0 0 0 (.slice none 0 0))) (row_store_run _ _ rfl x rfl Z8 (repC 1 (lands.getD j []) (240 + 360 * p + 30 * (q - 4)) 0 0 0 0 (.slice none 0 0)) rfl X0.out rfl rowT_rep (List.all_eq_true.1 rfl)) (fun _ => trivial) ?_
              simp only [Act.put, List.setIfInBounds_toArray, List.set_cons_zero, List.set_cons_succ]
              refine tr_end ?_
              have hap := apartR_setCells x (repC 1 (lands.getD j []) (240 + 360 * p + 30 * (q - 4)) 0 0 0 0 (.slice none 0 0)) 0 y5
              exact ⟨rfl, x, lands.getD j [], 240 + 360 * p + 30 * (q - 4), _, _, _, _, _, _, _, _, _, _, _, _, _, _, _, rfl, lands_len j, by omega, by omega, hxb, hxl, hxr, O_5.out.apart hap hxl hxb hxr, X0.out.setCells rfl⟩
          · obtain ⟨y4, hnw⟩ : ∃ y, y = y3.alloc (.cells Z8.toArray 29) := ⟨_, rfl⟩
            obtain ⟨x, hx⟩ : ∃ x, x = y3.heap.size := ⟨_, rfl⟩
            have hb : Below y3.heap.size y3 y4 := by rw [hnw]; exact (Below.refl _ _).alloc (Nat.le_refl _) _
            have hs : St y3 B b y4 := ⟨O_3.out.st.1.below hb O_3.out.st.1.lt, But.of_below hb⟩
            have hxb : x ≠ b := by have := O_3.out.lt; omega
            have hxl : w.heap.size ≤ x := by have := O_3.out.ge; omega
            have hxr : x ≠ r := by have := O_3.out.row.lt; omega
            have O_4 := Lib.hid (O_3.out.call hs)
            have N_4 := Lib.hid (N_3.out.but hs.2 hXb)
            have X0 : Hid (RowAt y4 x Z8) := by unfold Hid; rw [hnw]; exact RowAt.new _ Z8 (by simp [Z8]) _ hx.symm
            refine tr_run (d := some 3) rfl rfl rfl (.pointer (some ⟨x, 0, none⟩)) y4 (by rw [hnw, hx]; simp [execOp, Act.eval, go_sem, Z8]) (fun _ => trivial) ?_
            simp only [Act.put, List.setIfInBounds_toArray, List.set_cons_zero, List.set_cons_succ]
            clear hs hb hnw hx
            refine tr_fork ?_ ?_
            · have hnm := N_4.out.cell (i := j) (by simp [lands]; omega)
              refine tr_run (d := some 8) rfl rfl rfl (strV (lands.getD j [])) y4 (by simp [execOp, Act.eval, go_sem, hnm, strV]) (fun _ => trivial) ?_
              simp only [Act.put, List.setIfInBounds_toArray, List.set_cons_zero, List.set_cons_succ]
              clear hnm
              refine tr_call (d := some 14) rfl rfl rfl ⟨_, Tryz.func7, by kernel_rfl, by kernel_rfl⟩ _ _ _ rfl rfl [.pointer (some ⟨b, 0, none⟩), .int .i64 9] rfl (next_ok B b 9 y4 O_4.out.st.1 (by omega) (by omega)) ?_
              rintro e y5 ⟨q, q0, q1, rfl, hs⟩
              have O_5 := Lib.hid (O_4.out.call hs)
              have N_5 := Lib.hid (N_4.out.but hs.2 hXb)
              have X_5 := Lib.hid (X0.out.but hs.2 hxb)
              clear hs
              refine ⟨_, rfl, fun _ => trivial, ?_⟩
              simp only [Act.put, List.setIfInBounds_toArray, List.set_cons_zero, List.set_cons_succ]
              refine tr_q (d := some 15) rfl rfl rfl (.int .i64 (q - 4)) (fun w => by simp [execOp, Act.eval, go_sem, show IntKind.i64.wrap (q - 4) = q - 4 from IntWalk.i64_in _ (by omega)]) ?_
              simp only [Act.put, List.setIfInBounds_toArray, List.set_cons_zero, List.set_cons_succ]
              refine tr_q (d := some 16) rfl rfl rfl (.int .i64 (30 * (q - 4))) (fun w => by simp [execOp, Act.eval, go_sem, show IntKind.i64.wrap (30 * (q - 4)) = 30 * (q - 4) from IntWalk.i64_in _ (by omega)]) ?_
              simp only [Act.put, List.setIfInBounds_toArray, List.set_cons_zero, List.set_cons_succ]
              refine tr_q (d := some 17) rfl rfl rfl (.int .i64 (240 + 360 * p + 30 * (q - 4))) (fun w => by simp [execOp, Act.eval, go_sem, show IntKind.i64.wrap (240 + 360 * p + 30 * (q - 4)) = 240 + 360 * p + 30 * (q - 4) from IntWalk.i64_in _ (by omega)]) ?_
              simp only [Act.put, List.setIfInBounds_toArray, List.set_cons_zero, List.set_cons_succ]
              refine tr_q (d := some 18) rfl rfl rfl (.agg (repC 1 (lands.getD j []) (240 + 360 * p + 30 * (q - 4)) 0 0 0 0 (.slice none 0 0)).toArray) (fun w => by simp [execOp, Act.eval, Instr.build, go_sem, repC, strV]) ?_
              simp only [Act.put, List.setIfInBounds_toArray, List.set_cons_zero, List.set_cons_succ]
              refine tr_skip (d := none) rfl rfl rfl (y5.setCells x 0 (repC 1 (lands.getD j []) (240 + 360 * p + 30 * (q - 4)) 0 0 0 0 (.slice none 0 0))) (row_store_run _ _ rfl x rfl Z8 (repC 1 (lands.getD j []) (240 + 360 * p + 30 * (q - 4)) 0 0 0 0 (.slice none 0 0)) rfl X_5.out rfl rowT_rep (List.all_eq_true.1 rfl)) (fun _ => trivial) ?_
              simp only [Act.put, List.setIfInBounds_toArray, List.set_cons_zero, List.set_cons_succ]
              refine tr_end ?_
              have hap := apartR_setCells x (repC 1 (lands.getD j []) (240 + 360 * p + 30 * (q - 4)) 0 0 0 0 (.slice none 0 0)) 0 y5
              exact ⟨rfl, x, lands.getD j [], 240 + 360 * p + 30 * (q - 4), _, _, _, _, _, _, _, _, _, _, _, _, _, _, _, rfl, lands_len j, by omega, by omega, hxb, hxl, hxr, O_5.out.apart hap hxl hxb hxr, X_5.out.setCells rfl⟩
            · refine tr_call (d := some 14) rfl rfl rfl ⟨_, Tryz.func7, by kernel_rfl, by kernel_rfl⟩ _ _ _ rfl rfl [.pointer (some ⟨b, 0, none⟩), .int .i64 9] rfl (next_ok B b 9 y4 O_4.out.st.1 (by omega) (by omega)) ?_
              rintro e y5 ⟨q, q0, q1, rfl, hs⟩
              have O_5 := Lib.hid (O_4.out.call hs)
              have N_5 := Lib.hid (N_4.out.but hs.2 hXb)
              have X_5 := Lib.hid (X0.out.but hs.2 hxb)
              clear hs
              refine ⟨_, rfl, fun _ => trivial, ?_⟩
              simp only [Act.put, List.setIfInBounds_toArray, List.set_cons_zero, List.set_cons_succ]
              refine tr_q (d := some 15) rfl rfl rfl (.int .i64 (q - 4)) (fun w => by simp [execOp, Act.eval, go_sem, show IntKind.i64.wrap (q - 4) = q - 4 from IntWalk.i64_in _ (by omega)]) ?_
              simp only [Act.put, List.setIfInBounds_toArray, List.set_cons_zero, List.set_cons_succ]
              refine tr_q (d := some 16) rfl rfl rfl (.int .i64 (30 * (q - 4))) (fun w => by simp [execOp, Act.eval, go_sem, show IntKind.i64.wrap (30 * (q - 4)) = 30 * (q - 4) from IntWalk.i64_in _ (by omega)]) ?_
              simp only [Act.put, List.setIfInBounds_toArray, List.set_cons_zero, List.set_cons_succ]
              refine tr_q (d := some 17) rfl rfl rfl (.int .i64 (240 + 360 * p + 30 * (q - 4))) (fun w => by simp [execOp, Act.eval, go_sem, show IntKind.i64.wrap (240 + 360 * p + 30 * (q - 4)) = 240 + 360 * p + 30 * (q - 4) from IntWalk.i64_in _ (by omega)]) ?_
              simp only [Act.put, List.setIfInBounds_toArray, List.set_cons_zero, List.set_cons_succ]
              have hnm := N_5.out.cell (i := j) (by simp [lands]; omega)
              refine tr_run (d := some 8) rfl rfl rfl (strV (lands.getD j [])) y5 (by simp [execOp, Act.eval, go_sem, hnm, strV]) (fun _ => trivial) ?_
              simp only [Act.put, List.setIfInBounds_toArray, List.set_cons_zero, List.set_cons_succ]
              clear hnm
              refine tr_q (d := some 18) rfl rfl rfl (.agg (repC 1 (lands.getD j []) (240 + 360 * p + 30 * (q - 4)) 0 0 0 0 (.slice none 0 0)).toArray) (fun w => by simp [execOp, Act.eval, Instr.build, go_sem, repC, strV]) ?_
              simp only [Act.put, List.setIfInBounds_toArray, List.set_cons_zero, List.set_cons_succ]
              refine tr_skip (d := none) rfl rfl rfl (y5.setCells x 0 (repC 1 (lands.getD j []) (240 + 360 * p + 30 * (q - 4)) 0 0 0 0 (.slice none 0 0))) (row_store_run _ _ rfl x rfl Z8 (repC 1 (lands.getD j []) (240 + 360 * p + 30 * (q - 4)) 0 0 0 0 (.slice none 0 0)) rfl X_5.out rfl rowT_rep (List.all_eq_true.1 rfl)) (fun _ => trivial) ?_
              simp only [Act.put, List.setIfInBounds_toArray, List.set_cons_zero, List.set_cons_succ]
              refine tr_end ?_
              have hap := apartR_setCells x (repC 1 (lands.getD j []) (240 + 360 * p + 30 * (q - 4)) 0 0 0 0 (.slice none 0 0)) 0 y5
              exact ⟨rfl, x, lands.getD j [], 240 + 360 * p + 30 * (q - 4), _, _, _, _, _, _, _, _, _, _, _, _, _, _, _, rfl, lands_len j, by omega, by omega, hxb, hxl, hxr, O_5.out.apart hap hxl hxb hxr, X_5.out.setCells rfl⟩
        · obtain ⟨y3, hnw⟩ : ∃ y, y = y2.alloc (.cells Z8.toArray 29) := ⟨_, rfl⟩
          obtain ⟨x, hx⟩ : ∃ x, x = y2.heap.size := ⟨_, rfl⟩
          have hb : Below y2.heap.size y2 y3 := by rw [hnw]; exact (Below.refl _ _).alloc (Nat.le_refl _) _
          have hs : St y2 B b y3 := ⟨O_2.out.st.1.below hb O_2.out.st.1.lt, But.of_below hb⟩
          have hxb : x ≠ b := by have := O_2.out.lt; omega
          have hxl : w.heap.size ≤ x := by have := O_2.out.ge; omega
          have hxr : x ≠ r := by have := O_2.out.row.lt; omega
          have O_3 := Lib.hid (O_2.out.call hs)
          have N_3 := Lib.hid (N_2.out.but hs.2 hXb)
          have X0 : Hid (RowAt y3 x Z8) := by unfold Hid; rw [hnw]; exact RowAt.new _ Z8 (by simp [Z8]) _ hx.symm
          refine tr_run (d := some 3) rfl rfl rfl (.pointer (some ⟨x, 0, none⟩)) y3 (by rw [hnw, hx]; simp [execOp, Act.eval, go_sem, Z8]) (fun _ => trivial) ?_
          simp only [Act.put, List.setIfInBounds_toArray, List.set_cons_zero, List.set_cons_succ]
          clear hs hb hnw hx
          refine tr_fork ?_ ?_
          · have hnm := N_3.out.cell (i := j) (by simp [lands]; omega)
            refine tr_run (d := some 8) rfl rfl rfl (strV (lands.getD j [])) y3 (by simp [execOp, Act.eval, go_sem, hnm, strV]) (fun _ => trivial) ?_
            simp only [Act.put, List.setIfInBounds_toArray, List.set_cons_zero, List.set_cons_succ]
            clear hnm
            refine tr_call (d := some 10) rfl rfl rfl ⟨_, Tryz.func7, by kernel_rfl, by kernel_rfl⟩ _ _ _ rfl rfl [.pointer (some ⟨b, 0, none⟩), .int .i64 4] rfl (next_ok B b 4 y3 O_3.out.st.1 (by omega) (by omega)) ?_
            rintro e y4 ⟨p, p0, p1, rfl, hs⟩
            have O_4 := Lib.hid (O_3.out.call hs)
            have N_4 := Lib.hid (N_3.out.but hs.2 hXb)
            have X_4 := Lib.hid (X0.out.but hs.2 hxb)
            clear hs
            refine ⟨_, rfl, fun _ => trivial, ?_⟩
            simp only [Act.put, List.setIfInBounds_toArray, List.set_cons_zero, List.set_cons_succ]
            refine tr_q (d := some 11) rfl rfl rfl (.int .i64 (360 * p)) (fun w => by simp [execOp, Act.eval, go_sem, show IntKind.i64.wrap (360 * p) = 360 * p from IntWalk.i64_in _ (by omega)]) ?_
            simp only [Act.put, List.setIfInBounds_toArray, List.set_cons_zero, List.set_cons_succ]
            refine tr_q (d := some 12) rfl rfl rfl (.int .i64 (240 + 360 * p)) (fun w => by simp [execOp, Act.eval, go_sem, show IntKind.i64.wrap (240 + 360 * p) = 240 + 360 * p from IntWalk.i64_in _ (by omega)]) ?_
            simp only [Act.put, List.setIfInBounds_toArray, List.set_cons_zero, List.set_cons_succ]
            refine tr_call (d := some 14) rfl rfl rfl ⟨_, Tryz.func7, by kernel_rfl, by kernel_rfl⟩ _ _ _ rfl rfl [.pointer (some ⟨b, 0, none⟩), .int .i64 9] rfl (next_ok B b 9 y4 O_4.out.st.1 (by omega) (by omega)) ?_
            rintro e y5 ⟨q, q0, q1, rfl, hs⟩
            have O_5 := Lib.hid (O_4.out.call hs)
            have N_5 := Lib.hid (N_4.out.but hs.2 hXb)
            have X_5 := Lib.hid (X_4.out.but hs.2 hxb)
            clear hs
            refine ⟨_, rfl, fun _ => trivial, ?_⟩
            simp only [Act.put, List.setIfInBounds_toArray, List.set_cons_zero, List.set_cons_succ]
            refine tr_q (d := some 15) rfl rfl rfl (.int .i64 (q - 4)) (fun w => by simp [execOp, Act.eval, go_sem, show IntKind.i64.wrap (q - 4) = q - 4 from IntWalk.i64_in _ (by omega)]) ?_
            simp only [Act.put, List.setIfInBounds_toArray, List.set_cons_zero, List.set_cons_succ]
            refine tr_q (d := some 16) rfl rfl rfl (.int .i64 (30 * (q - 4))) (fun w => by simp [execOp, Act.eval, go_sem, show IntKind.i64.wrap (30 * (q - 4)) = 30 * (q - 4) from IntWalk.i64_in _ (by omega)]) ?_
            simp only [Act.put, List.setIfInBounds_toArray, List.set_cons_zero, List.set_cons_succ]
            refine tr_q (d := some 17) rfl rfl rfl (.int .i64 (240 + 360 * p + 30 * (q - 4))) (fun w => by simp [execOp, Act.eval, go_sem, show IntKind.i64.wrap (240 + 360 * p + 30 * (q - 4)) = 240 + 360 * p + 30 * (q - 4) from IntWalk.i64_in _ (by omega)]) ?_
            simp only [Act.put, List.setIfInBounds_toArray, List.set_cons_zero, List.set_cons_succ]
            refine tr_q (d := some 18) rfl rfl rfl (.agg (repC 1 (lands.getD j []) (240 + 360 * p + 30 * (q - 4)) 0 0 0 0 (.slice none 0 0)).toArray) (fun w => by simp [execOp, Act.eval, Instr.build, go_sem, repC, strV]) ?_
            simp only [Act.put, List.setIfInBounds_toArray, List.set_cons_zero, List.set_cons_succ]
            refine tr_skip (d := none) rfl rfl rfl (y5.setCells x 0 (repC 1 (lands.getD j []) (240 + 360 * p + 30 * (q - 4)) 0 0 0 0 (.slice none 0 0))) (row_store_run _ _ rfl x rfl Z8 (repC 1 (lands.getD j []) (240 + 360 * p + 30 * (q - 4)) 0 0 0 0 (.slice none 0 0)) rfl X_5.out rfl rowT_rep (List.all_eq_true.1 rfl)) (fun _ => trivial) ?_
            simp only [Act.put, List.setIfInBounds_toArray, List.set_cons_zero, List.set_cons_succ]
            refine tr_end ?_
            have hap := apartR_setCells x (repC 1 (lands.getD j []) (240 + 360 * p + 30 * (q - 4)) 0 0 0 0 (.slice none 0 0)) 0 y5
            exact ⟨rfl, x, lands.getD j [], 240 + 360 * p + 30 * (q - 4), _, _, _, _, _, _, _, _, _, _, _, _, _, _, _, rfl, lands_len j, by omega, by omega, hxb, hxl, hxr, O_5.out.apart hap hxl hxb hxr, X_5.out.setCells rfl⟩
          · refine tr_call (d := some 10) rfl rfl rfl ⟨_, Tryz.func7, by kernel_rfl, by kernel_rfl⟩ _ _ _ rfl rfl [.pointer (some ⟨b, 0, none⟩), .int .i64 4] rfl (next_ok B b 4 y3 O_3.out.st.1 (by omega) (by omega)) ?_
            rintro e y4 ⟨p, p0, p1, rfl, hs⟩
            have O_4 := Lib.hid (O_3.out.call hs)
            have N_4 := Lib.hid (N_3.out.but hs.2 hXb)
            have X_4 := Lib.hid (X0.out.but hs.2 hxb)
            clear hs
            refine ⟨_, rfl, fun _ => trivial, ?_⟩
            simp only [Act.put, List.setIfInBounds_toArray, List.set_cons_zero, List.set_cons_succ]
            refine tr_q (d := some 11) rfl rfl rfl (.int .i64 (360 * p)) (fun w => by simp [execOp, Act.eval, go_sem, show IntKind.i64.wrap (360 * p) = 360 * p from IntWalk.i64_in _ (by omega)]) ?_
            simp only [Act.put, List.setIfInBounds_toArray, List.set_cons_zero, List.set_cons_succ]
            refine tr_q (d := some 12) rfl rfl rfl (.int .i64 (240 + 360 * p)) (fun w => by simp [execOp, Act.eval, go_sem, show IntKind.i64.wrap (240 + 360 * p) = 240 + 360 * p from IntWalk.i64_in _ (by omega)]) ?_
            simp only [Act.put, List.setIfInBounds_toArray, List.set_cons_zero, List.set_cons_succ]
            refine tr_fork ?_ ?_
            · have hnm := N_4.out.cell (i := j) (by simp [lands]; omega)
              refine tr_run (d := some 8) rfl rfl rfl (strV (lands.getD j [])) y4 (by simp [execOp, Act.eval, go_sem, hnm, strV]) (fun _ => trivial) ?_
              simp only [Act.put, List.setIfInBounds_toArray, List.set_cons_zero, List.set_cons_succ]
              clear hnm
              refine tr_call (d := some 14) rfl rfl rfl ⟨_, Tryz.func7, by kernel_rfl, by kernel_rfl⟩ _ _ _ rfl rfl [.pointer (some ⟨b, 0, none⟩), .int .i64 9] rfl (next_ok B b 9 y4 O_4.out.st.1 (by omega) (by omega)) ?_
              rintro e y5 ⟨q, q0, q1, rfl, hs⟩
              have O_5 := Lib.hid (O_4.out.call hs)
              have N_5 := Lib.hid (N_4.out.but hs.2 hXb)
              have X_5 := Lib.hid (X_4.out.but hs.2 hxb)
              clear hs
              refine ⟨_, rfl, fun _ => trivial, ?_⟩
              simp only [Act.put, List.setIfInBounds_toArray, List.set_cons_zero, List.set_cons_succ]
              refine tr_q (d := some 15) rfl rfl rfl (.int .i64 (q - 4)) (fun w => by simp [execOp, Act.eval, go_sem, show IntKind.i64.wrap (q - 4) = q - 4 from IntWalk.i64_in _ (by omega)]) ?_
              simp only [Act.put, List.setIfInBounds_toArray, List.set_cons_zero, List.set_cons_succ]
              refine tr_q (d := some 16) rfl rfl rfl (.int .i64 (30 * (q - 4))) (fun w => by simp [execOp, Act.eval, go_sem, show IntKind.i64.wrap (30 * (q - 4)) = 30 * (q - 4) from IntWalk.i64_in _ (by omega)]) ?_
              simp only [Act.put, List.setIfInBounds_toArray, List.set_cons_zero, List.set_cons_succ]
              refine tr_q (d := some 17) rfl rfl rfl (.int .i64 (240 + 360 * p + 30 * (q - 4))) (fun w => by simp [execOp, Act.eval, go_sem, show IntKind.i64.wrap (240 + 360 * p + 30 * (q - 4)) = 240 + 360 * p + 30 * (q - 4) from IntWalk.i64_in _ (by omega)]) ?_
              simp only [Act.put, List.setIfInBounds_toArray, List.set_cons_zero, List.set_cons_succ]
              refine tr_q (d := some 18) rfl rfl rfl (.agg (repC 1 (lands.getD j []) (240 + 360 * p + 30 * (q - 4)) 0 0 0 0 (.slice none 0 0)).toArray) (fun w => by simp [execOp, Act.eval, Instr.build, go_sem, repC, strV]) ?_
              simp only [Act.put, List.setIfInBounds_toArray, List.set_cons_zero, List.set_cons_succ]
              refine tr_skip (d := none) rfl rfl rfl (y5.setCells x 0 (repC 1 (lands.getD j []) (240 + 360 * p + 30 * (q - 4)) 0 0 0 0 (.slice none 0 0))) (row_store_run _ _ rfl x rfl Z8 (repC 1 (lands.getD j []) (240 + 360 * p + 30 * (q - 4)) 0 0 0 0 (.slice none 0 0)) rfl X_5.out rfl rowT_rep (List.all_eq_true.1 rfl)) (fun _ => trivial) ?_
              simp only [Act.put, List.setIfInBounds_toArray, List.set_cons_zero, List.set_cons_succ]
              refine tr_end ?_
              have hap := apartR_setCells x (repC 1 (lands.getD j []) (240 + 360 * p + 30 * (q - 4)) 0 0 0 0 (.slice none 0 0)) 0 y5
              exact ⟨rfl, x, lands.getD j [], 240 + 360 * p + 30 * (q - 4), _, _, _, _, _, _, _, _, _, _, _, _, _, _, _, rfl, lands_len j, by omega, by omega, hxb, hxl, hxr, O_5.out.apart hap hxl hxb hxr, X_5.out.setCells rfl⟩
            · refine tr_call (d := some 14) rfl rfl rfl ⟨_, Tryz.func7, by kernel_rfl, by kernel_rfl⟩ _ _ _ rfl rfl [.pointer (some ⟨b, 0, none⟩), .int .i64 9] rfl (next_ok B b 9 y4 O_4.out.st.1 (by omega) (by omega)) ?_
              rintro e y5 ⟨q, q0, q1, rfl, hs⟩
              have O_5 := Lib.hid (O_4.out.call hs)
              have N_5 := Lib.hid (N_4.out.but hs.2 hXb)
              have X_5 := Lib.hid (X_4.out.but hs.2 hxb)
              clear hs
              refine ⟨_, rfl, fun _ => trivial, ?_⟩
              simp only [Act.put, List.setIfInBounds_toArray, List.set_cons_zero, List.set_cons_succ]
              refine tr_q (d := some 15) rfl rfl rfl (.int .i64 (q - 4)) (fun w => by simp [execOp, Act.eval, go_sem, show IntKind.i64.wrap (q - 4) = q - 4 from IntWalk.i64_in _ (by omega)]) ?_
              simp only [Act.put, List.setIfInBounds_toArray, List.set_cons_zero, List.set_cons_succ]
              refine tr_q (d := some 16) rfl rfl rfl (.int .i64 (30 * (q - 4))) (fun w => by simp [execOp, Act.eval, go_sem, show IntKind.i64.wrap (30 * (q - 4)) = 30 * (q - 4) from IntWalk.i64_in _ (by omega)]) ?_
              simp only [Act.put, List.setIfInBounds_toArray, List.set_cons_zero, List.set_cons_succ]
              refine tr_q (d := some 17) rfl rfl rfl (.int .i64 (240 + 360 * p + 30 * (q - 4))) (fun w => by simp [execOp, Act.eval, go_sem, show IntKind.i64.wrap (240 + 360 * p + 30 * (q - 4)) = 240 + 360 * p + 30 * (q - 4) from IntWalk.i64_in _ (by omega)]) ?_
              simp only [Act.put, List.setIfInBounds_toArray, List.set_cons_zero, List.set_cons_succ]
              have hnm := N_5.out.cell (i := j) (by simp [lands]; omega)
              refine tr_run (d := some 8) rfl rfl rfl (strV (lands.getD j [])) y5 (by simp [execOp, Act.eval, go_sem, hnm, strV]) (fun _ => trivial) ?_
              simp only [Act.put, List.setIfInBounds_toArray, List.set_cons_zero, List.set_cons_succ]
              clear hnm
              refine tr_q (d := some 18) rfl rfl rfl (.agg (repC 1 (lands.getD j []) (240 + 360 * p + 30 * (q - 4)) 0 0 0 0 (.slice none 0 0)).toArray) (fun w => by simp [execOp, Act.eval, Instr.build, go_sem, repC, strV]) ?_
              simp only [Act.put, List.setIfInBounds_toArray, List.set_cons_zero, List.set_cons_succ]
              refine tr_skip (d := none) rfl rfl rfl (y5.setCells x 0 (repC 1 (lands.getD j []) (240 + 360 * p + 30 * (q - 4)) 0 0 0 0 (.slice none 0 0))) (row_store_run _ _ rfl x rfl Z8 (repC 1 (lands.getD j []) (240 + 360 * p + 30 * (q - 4)) 0 0 0 0 (.slice none 0 0)) rfl X_5.out rfl rowT_rep (List.all_eq_true.1 rfl)) (fun _ => trivial) ?_
              simp only [Act.put, List.setIfInBounds_toArray, List.set_cons_zero, List.set_cons_succ]
              refine tr_end ?_
              have hap := apartR_setCells x (repC 1 (lands.getD j []) (240 + 360 * p + 30 * (q - 4)) 0 0 0 0 (.slice none 0 0)) 0 y5
              exact ⟨rfl, x, lands.getD j [], 240 + 360 * p + 30 * (q - 4), _, _, _, _, _, _, _, _, _, _, _, _, _, _, _, rfl, lands_len j, by omega, by omega, hxb, hxl, hxr, O_5.out.apart hap hxl hxb hxr, X_5.out.setCells rfl⟩
      · obtain ⟨y2, hnw⟩ : ∃ y, y = y1.alloc (.cells Z8.toArray 29) := ⟨_, rfl⟩
        obtain ⟨x, hx⟩ : ∃ x, x = y1.heap.size := ⟨_, rfl⟩
        have hb : Below y1.heap.size y1 y2 := by rw [hnw]; exact (Below.refl _ _).alloc (Nat.le_refl _) _
        have hs : St y1 B b y2 := ⟨O_1.out.st.1.below hb O_1.out.st.1.lt, But.of_below hb⟩
        have hxb : x ≠ b := by have := O_1.out.lt; omega
        have hxl : w.heap.size ≤ x := by have := O_1.out.ge; omega
        have hxr : x ≠ r := by have := O_1.out.row.lt; omega
        have O_2 := Lib.hid (O_1.out.call hs)
        have N_2 := Lib.hid (N0.out.but hs.2 hXb)
        have X0 : Hid (RowAt y2 x Z8) := by unfold Hid; rw [hnw]; exact RowAt.new _ Z8 (by simp [Z8]) _ hx.symm
        refine tr_run (d := some 3) rfl rfl rfl (.pointer (some ⟨x, 0, none⟩)) y2 (by rw [hnw, hx]; simp [execOp, Act.eval, go_sem, Z8]) (fun _ => trivial) ?_
        simp only [Act.put, List.setIfInBounds_toArray, List.set_cons_zero, List.set_cons_succ]
        clear hs hb hnw hx
        refine tr_call (d := some 6) rfl rfl rfl ⟨_, Tryz.func7, by kernel_rfl, by kernel_rfl⟩ _ _ _ rfl rfl [.pointer (some ⟨b, 0, none⟩), .int .i64 4] rfl (next_ok B b 4 y2 O_2.out.st.1 (by omega) (by omega)) ?_
        rintro e y3 ⟨x, x0, x1, rfl, hs⟩
        obtain ⟨j, rfl⟩ := Int.eq_ofNat_of_zero_le x0
        have O_3 := Lib.hid (O_2.out.call hs)
        have N_3 := Lib.hid (N_2.out.but hs.2 hXb)
        have X_3 := Lib.hid (X0.out.but hs.2 hxb)
        clear hs
        refine ⟨_, rfl, fun _ => trivial, ?_⟩
        simp only [Act.put, List.setIfInBounds_toArray, List.set_cons_zero, List.set_cons_succ]
        refine tr_q (d := some 7) rfl rfl rfl (.pointer (some ⟨X, j, none⟩)) (fun w => by simp [execOp, Act.eval, go_sem]; omega) ?_
        simp only [Act.put, List.setIfInBounds_toArray, List.set_cons_zero, List.set_cons_succ]
        refine tr_fork ?_ ?_
        · have hnm := N_3.out.cell (i := j) (by simp [lands]; omega)
          refine tr_run (d := some 8) rfl rfl rfl (strV (lands.getD j [])) y3 (by simp [execOp, Act.eval, go_sem, hnm, strV]) (fun _ => trivial) ?_
          simp only [Act.put, List.setIfInBounds_toArray, List.set_cons_zero, List.set_cons_succ]
          clear hnm
          refine tr_call (d := some 10) rfl rfl rfl ⟨_, Tryz.func7, by kernel_rfl, by kernel_rfl⟩ _ _ _ rfl rfl [.pointer (some ⟨b, 0, none⟩), .int .i64 4] rfl (next_ok B b 4 y3 O_3.out.st.1 (by omega) (by omega)) ?_
          rintro e y4 ⟨p, p0, p1, rfl, hs⟩
          have O_4 := Lib.hid (O_3.out.call hs)
          have N_4 := Lib.hid (N_3.out.but hs.2 hXb)
          have X_4 := Lib.hid (X_3.out.but hs.2 hxb)
          clear hs
          refine ⟨_, rfl, fun _ => trivial, ?_⟩
          simp only [Act.put, List.setIfInBounds_toArray, List.set_cons_zero, List.set_cons_succ]
          refine tr_q (d := some 11) rfl rfl rfl (.int .i64 (360 * p)) (fun w => by simp [execOp, Act.eval, go_sem, show IntKind.i64.wrap (360 * p) = 360 * p from IntWalk.i64_in _ (by omega)]) ?_
          simp only [Act.put, List.setIfInBounds_toArray, List.set_cons_zero, List.set_cons_succ]
          refine tr_q (d := some 12) rfl rfl rfl (.int .i64 (240 + 360 * p)) (fun w => by simp [execOp, Act.eval, go_sem, show IntKind.i64.wrap (240 + 360 * p) = 240 + 360 * p from IntWalk.i64_in _ (by omega)]) ?_
          simp only [Act.put, List.setIfInBounds_toArray, List.set_cons_zero, List.set_cons_succ]
          refine tr_call (d := some 14) rfl rfl rfl ⟨_, Tryz.func7, by kernel_rfl, by kernel_rfl⟩ _ _ _ rfl rfl [.pointer (some ⟨b, 0, none⟩), .int .i64 9] rfl (next_ok B b 9 y4 O_4.out.st.1 (by omega) (by omega)) ?_
          rintro e y5 ⟨q, q0, q1, rfl, hs⟩
          have O_5 := Lib.hid (O_4.out.call hs)
          have N_5 := Lib.hid (N_4.out.but hs.2 hXb)
          have X_5 := Lib.hid (X_4.out.but hs.2 hxb)
          clear hs
          refine ⟨_, rfl, fun _ => trivial, ?_⟩
          simp only [Act.put, List.setIfInBounds_toArray, List.set_cons_zero, List.set_cons_succ]
          refine tr_q (d := some 15) rfl rfl rfl (.int .i64 (q - 4)) (fun w => by simp [execOp, Act.eval, go_sem, show IntKind.i64.wrap (q - 4) = q - 4 from IntWalk.i64_in _ (by omega)]) ?_
          simp only [Act.put, List.setIfInBounds_toArray, List.set_cons_zero, List.set_cons_succ]
          refine tr_q (d := some 16) rfl rfl rfl (.int .i64 (30 * (q - 4))) (fun w => by simp [execOp, Act.eval, go_sem, show IntKind.i64.wrap (30 * (q - 4)) = 30 * (q - 4) from IntWalk.i64_in _ (by omega)]) ?_
          simp only [Act.put, List.setIfInBounds_toArray, List.set_cons_zero, List.set_cons_succ]
          refine tr_q (d := some 17) rfl rfl rfl (.int .i64 (240 + 360 * p + 30 * (q - 4))) (fun w => by simp [execOp, Act.eval, go_sem, show IntKind.i64.wrap (240 + 360 * p + 30 * (q - 4)) = 240 + 360 * p + 30 * (q - 4) from IntWalk.i64_in _ (by omega)]) ?_
          simp only [Act.put, List.setIfInBounds_toArray, List.set_cons_zero, List.set_cons_succ]
          refine tr_q (d := some 18) rfl rfl rfl (.agg (repC 1 (lands.getD j []) (240 + 360 * p + 30 * (q - 4)) 0 0 0 0 (.slice none 0 0)).toArray) (fun w => by simp [execOp, Act.eval, Instr.build, go_sem, repC, strV]) ?_
          simp only [Act.put, List.setIfInBounds_toArray, List.set_cons_zero, List.set_cons_succ]
          refine tr_skip (d := none) rfl rfl rfl (y5.setCells x 0 (repC 1 (lands.getD j []) (240 + 360 * p + 30 * (q - 4)) 0 0 0 0 (.slice none 0 0))) (row_store_run _ _ rfl x rfl Z8 (repC 1 (lands.getD j []) (240 + 360 * p + 30 * (q - 4)) 0 0 0 0 (.slice none 0 0)) rfl X_5.out rfl rowT_rep (List.all_eq_true.1 rfl)) (fun _ => trivial) ?_
          simp only [Act.put, List.setIfInBounds_toArray, List.set_cons_zero, List.set_cons_succ]
          refine tr_end ?_
          have hap := apartR_setCells x (repC 1 (lands.getD j []) (240 + 360 * p + 30 * (q - 4)) 0 0 0 0 (.slice none 0 0)) 0 y5
          exact ⟨rfl, x, lands.getD j [], 240 + 360 * p + 30 * (q - 4), _, _, _, _, _, _, _, _, _, _, _, _, _, _, _, rfl, lands_len j, by omega, by omega, hxb, hxl, hxr, O_5.out.apart hap hxl hxb hxr, X_5.out.setCells rfl⟩
        · refine tr_call (d := some 10) rfl rfl rfl ⟨_, Tryz.func7, by kernel_rfl, by kernel_rfl⟩ _ _ _ rfl rfl [.pointer (some ⟨b, 0, none⟩), .int .i64 4] rfl (next_ok B b 4 y3 O_3.out.st.1 (by omega) (by omega)) ?_
          rintro e y4 ⟨p, p0, p1, rfl, hs⟩
          have O_4 := Lib.hid (O_3.out.call hs)
          have N_4 := Lib.hid (N_3.out.but hs.2 hXb)
          have X_4 := Lib.hid (X_3.out.but hs.2 hxb)
          clear hs
          refine ⟨_, rfl, fun _ => trivial, ?_⟩
          simp only [Act.put, List.setIfInBounds_toArray, List.set_cons_zero, List.set_cons_succ]
          refine tr_q (d := some 11) rfl rfl rfl (.int .i64 (360 * p)) (fun w => by simp [execOp, Act.eval, go_sem, show IntKind.i64.wrap (360 * p) = 360 * p from IntWalk.i64_in _ (by omega)]) ?_
          simp only [Act.put, List.setIfInBounds_toArray, List.set_cons_zero, List.set_cons_succ]
          refine tr_q (d := some 12) rfl rfl rfl (.int .i64 (240 + 360 * p)) (fun w => by simp [execOp, Act.eval, go_sem, show IntKind.i64.wrap (240 + 360 * p) = 240 + 360 * p from IntWalk.i64_in _ (by omega)]) ?_
          simp only [Act.put, List.setIfInBounds_toArray, List.set_cons_zero, List.set_cons_succ]
          refine tr_fork ?_ ?_
          · have hnm := N_4.out.cell (i := j) (by simp [lands]; omega)
            refine tr_run (d := some 8) rfl rfl rfl (strV (lands.getD j [])) y4 (by simp [execOp, Act.eval, go_sem, hnm, strV]) (fun _ => trivial) ?_
            simp only [Act.put, List.setIfInBounds_toArray, List.set_cons_zero, List.set_cons_succ]
            clear hnm
            refine tr_call (d := some 14) rfl rfl rfl ⟨_, Tryz.func7, by kernel_rfl, by kernel_rfl⟩ _ _ _ rfl rfl [.pointer (some ⟨b, 0, none⟩), .int .i64 9] rfl (next_ok B b 9 y4 O_4.out.st.1 (by omega) (by omega)) ?_
            rintro e y5 ⟨q, q0, q1, rfl, hs⟩
            have O_5 := Lib.hid (O_4.out.call hs)
            have N_5 := Lib.hid (N_4.out.but hs.2 hXb)
            have X_5 := Lib.hid (X_4.out.but hs.2 hxb)
            clear hs
            refine ⟨_, rfl, fun _ => trivial, ?_⟩
            simp only [Act.put, List.setIfInBounds_toArray, List.set_cons_zero, List.set_cons_succ]
            refine tr_q (d := some 15) rfl rfl rfl (.int .i64 (q - 4)) (fun w => by simp [execOp, Act.eval, go_sem, show IntKind.i64.wrap (q - 4) = q - 4 from IntWalk.i64_in _ (by omega)]) ?_
            simp only [Act.put, List.setIfInBounds_toArray, List.set_cons_zero, List.set_cons_succ]
            refine tr_q (d := some 16) rfl rfl rfl (.int .i64 (30 * (q - 4))) (fun w => by simp [execOp, Act.eval, go_sem, show IntKind.i64.wrap (30 * (q - 4)) = 30 * (q - 4) from IntWalk.i64_in _ (by omega)]) ?_
            simp only [Act.put, List.setIfInBounds_toArray, List.set_cons_zero, List.set_cons_succ]
            refine tr_q (d := some 17) rfl rfl rfl (.int .i64 (240 + 360 * p + 30 * (q - 4))) (fun w => by simp [execOp, Act.eval, go_sem, show IntKind.i64.wrap (240 + 360 * p + 30 * (q - 4)) = 240 + 360 * p + 30 * (q - 4) from IntWalk.i64_in _ (by omega)]) ?_
            simp only [Act.put, List.setIfInBounds_toArray, List.set_cons_zero, List.set_cons_succ]
            refine tr_q (d := some 18) rfl rfl rfl (.agg (repC 1 (lands.getD j []) (240 + 360 * p + 30 * (q - 4)) 0 0 0 0 (.slice none 0 0)).toArray) (fun w => by simp [execOp, Act.eval, Instr.build, go_sem, repC, strV]) ?_
            simp only [Act.put, List.setIfInBounds_toArray, List.set_cons_zero, List.set_cons_succ]
            refine tr_skip (d := none) rfl rfl rfl (y5.setCells x 0 (repC 1 (lands.getD j []) (240 + 360 * p + 30 * (q - 4)) 0 0 0 0 (.slice none 0 0))) (row_store_run _ _ rfl x rfl Z8 (repC 1 (lands.getD j []) (240 + 360 * p + 30 * (q - 4)) 0 0 0 0 (.slice none 0 0)) rfl X_5.out rfl rowT_rep (List.all_eq_true.1 rfl)) (fun _ => trivial) ?_
            simp only [Act.put, List.setIfInBounds_toArray, List.set_cons_zero, List.set_cons_succ]
            refine tr_end ?_
            have hap := apartR_setCells x (repC 1 (lands.getD j []) (240 + 360 * p + 30 * (q - 4)) 0 0 0 0 (.slice none 0 0)) 0 y5
            exact ⟨rfl, x, lands.getD j [], 240 + 360 * p + 30 * (q - 4), _, _, _, _, _, _, _, _, _, _, _, _, _, _, _, rfl, lands_len j, by omega, by omega, hxb, hxl, hxr, O_5.out.apart hap hxl hxb hxr, X_5.out.setCells rfl⟩
          · refine tr_call (d := some 14) rfl rfl rfl ⟨_, Tryz.func7, by kernel_rfl, by kernel_rfl⟩ _ _ _ rfl rfl [.pointer (some ⟨b, 0, none⟩), .int .i64 9] rfl (next_ok B b 9 y4 O_4.out.st.1 (by omega) (by omega)) ?_
            rintro e y5 ⟨q, q0, q1, rfl, hs⟩
            have O_5 := Lib.hid (O_4.out.call hs)
            have N_5 := Lib.hid (N_4.out.but hs.2 hXb)
            have X_5 := Lib.hid (X_4.out.but hs.2 hxb)
            clear hs
            refine ⟨_, rfl, fun _ => trivial, ?_⟩
            simp only [Act.put, List.setIfInBounds_toArray, List.set_cons_zero, List.set_cons_succ]
            refine tr_q (d := some 15) rfl rfl rfl (.int .i64 (q - 4)) (fun w => by simp [execOp, Act.eval, go_sem, show IntKind.i64.wrap (q - 4) = q - 4 from IntWalk.i64_in _ (by omega)]) ?_
            simp only [Act.put, List.setIfInBounds_toArray, List.set_cons_zero, List.set_cons_succ]
            refine tr_q (d := some 16) rfl rfl rfl (.int .i64 (30 * (q - 4))) (fun w => by simp [execOp, Act.eval, go_sem, show IntKind.i64.wrap (30 * (q - 4)) = 30 * (q - 4) from IntWalk.i64_in _ (by omega)]) ?_
            simp only [Act.put, List.setIfInBounds_toArray, List.set_cons_zero, List.set_cons_succ]
            refine tr_q (d := some 17) rfl rfl rfl (.int .i64 (240 + 360 * p + 30 * (q - 4))) (fun w => by simp [execOp, Act.eval, go_sem, show IntKind.i64.wrap (240 + 360 * p + 30 * (q - 4)) = 240 + 360 * p + 30 * (q - 4) from IntWalk.i64_in _ (by omega)]) ?_
            simp only [Act.put, List.setIfInBounds_toArray, List.set_cons_zero, List.set_cons_succ]
            have hnm := N_5.out.cell (i := j) (by simp [lands]; omega)
            refine tr_run (d := some 8) rfl rfl rfl (strV (lands.getD j [])) y5 (by simp [execOp, Act.eval, go_sem, hnm, strV]) (fun _ => trivial) ?_
            simp only [Act.put, List.setIfInBounds_toArray, List.set_cons_zero, List.set_cons_succ]
            clear hnm
            refine tr_q (d := some 18) rfl rfl rfl (.agg (repC 1 (lands.getD j []) (240 + 360 * p + 30 * (q - 4)) 0 0 0 0 (.slice none 0 0)).toArray) (fun w => by simp [execOp, Act.eval, Instr.build, go_sem, repC, strV]) ?_
            simp only [Act.put, List.setIfInBounds_toArray, List.set_cons_zero, List.set_cons_succ]
            refine tr_skip (d := none) rfl rfl rfl (y5.setCells x 0 (repC 1 (lands.getD j []) (240 + 360 * p + 30 * (q - 4)) 0 0 0 0 (.slice none 0 0))) (row_store_run _ _ rfl x rfl Z8 (repC 1 (lands.getD j []) (240 + 360 * p + 30 * (q - 4)) 0 0 0 0 (.slice none 0 0)) rfl X_5.out rfl rowT_rep (List.all_eq_true.1 rfl)) (fun _ => trivial) ?_
            simp only [Act.put, List.setIfInBounds_toArray, List.set_cons_zero, List.set_cons_succ]
            refine tr_end ?_
            have hap := apartR_setCells x (repC 1 (lands.getD j []) (240 + 360 * p + 30 * (q - 4)) 0 0 0 0 (.slice none 0 0)) 0 y5
            exact ⟨rfl, x, lands.getD j [], 240 + 360 * p + 30 * (q - 4), _, _, _, _, _, _, _, _, _, _, _, _, _, _, _, rfl, lands_len j, by omega, by omega, hxb, hxl, hxr, O_5.out.apart hap hxl hxb hxr, X_5.out.setCells rfl⟩
    · obtain ⟨y1, hnw⟩ : ∃ y, y = w2.drew.alloc (.cells Z8.toArray 29) := ⟨_, rfl⟩
      obtain ⟨x, hx⟩ : ∃ x, x = w2.drew.heap.size := ⟨_, rfl⟩
      have hb : Below w2.drew.heap.size w2.drew y1 := by rw [hnw]; exact (Below.refl _ _).alloc (Nat.le_refl _) _
      have hs : St w2.drew B b y1 := ⟨O0.out.st.1.below hb O0.out.st.1.lt, But.of_below hb⟩
      have hxb : x ≠ b := by have := O0.out.lt; omega
      have hxl : w.heap.size ≤ x := by have := O0.out.ge; omega
      have hxr : x ≠ r := by have := O0.out.row.lt; omega
      have O_1 := Lib.hid (O0.out.call hs)
      have X0 : Hid (RowAt y1 x Z8) := by unfold Hid; rw [hnw]; exact RowAt.new _ Z8 (by simp [Z8]) _ hx.symm
      refine tr_run (d := some 3) rfl rfl rfl (.pointer (some ⟨x, 0, none⟩)) y1 (by rw [hnw, hx]; simp [execOp, Act.eval, go_sem, Z8]) (fun _ => trivial) ?_
      simp only [Act.put, List.setIfInBounds_toArray, List.set_cons_zero, List.set_cons_succ]
      clear hs hb hnw hx
      refine tr_call (d := some 4) rfl rfl rfl ⟨_, Tryz.func29, by kernel_rfl, by kernel_rfl⟩ _ _ _ rfl rfl [] rfl (land_any y1) ?_
      rintro e y2 ⟨rfl, hst, hb⟩
      have hXb : y1.heap.size ≠ b := by have := O_1.out.lt; omega
      obtain ⟨X, hX⟩ : ∃ X, X = y1.heap.size := ⟨_, rfl⟩
      rw [← hX] at hst hXb ⊢
      have hs : St y1 B b y2 := ⟨O_1.out.st.1.below hb O_1.out.st.1.lt, But.of_below hb⟩
      have O_2 := Lib.hid (O_1.out.call hs)
      have X_2 := Lib.hid (X0.out.but hs.2 hxb)
      have N0 : Hid (StrsAt y2 X lands) := hst
      clear hs hb
      refine ⟨_, rfl, fun _ => trivial, ?_⟩
      simp only [Act.put, List.setIfInBounds_toArray, List.set_cons_zero, List.set_cons_succ]
      refine tr_call (d := some 6) rfl rfl rfl ⟨_, Tryz.func7, by kernel_rfl, by kernel_rfl⟩ _ _ _ rfl rfl [.pointer (some ⟨b, 0, none⟩), .int .i64 4] rfl (next_ok B b 4 y2 O_2.out.st.1 (by omega) (by omega)) ?_
      rintro e y3 ⟨x, x0, x1, rfl, hs⟩
      obtain ⟨j, rfl⟩ := Int.eq_ofNat_of_zero_le x0
      have O_3 := Lib.hid (O_2.out.call hs)
      have X_3 := Lib.hid (X_2.out.but hs.2 hxb)
      have N_3 := Lib.hid (N0.out.but hs.2 hXb)
      clear hs
      refine ⟨_, rfl, fun _ => trivial, ?_⟩
      simp only [Act.put, List.setIfInBounds_toArray, List.set_cons_zero, List.set_cons_succ]
      refine tr_q (d := some 7) rfl rfl rfl (.pointer (some ⟨X, j, none⟩)) (fun w => by simp [execOp, Act.eval, go_sem]; omega) ?_
      simp only [Act.put, List.setIfInBounds_toArray, List.set_cons_zero, List.set_cons_succ]
      refine tr_fork ?_ ?_
      · have hnm := N_3.out.cell (i := j) (by simp [lands]; omega)
        refine tr_run (d := some 8) rfl rfl rfl (strV (lands.getD j [])) y3 (by simp [execOp, Act.eval, go_sem, hnm, strV]) (fun _ => trivial) ?_
        simp only [Act.put, List.setIfInBounds_toArray, List.set_cons_zero, List.set_cons_succ]
        clear hnm
        refine tr_call (d := some 10) rfl rfl rfl ⟨_, Tryz.func7, by kernel_rfl, by kernel_rfl⟩ _ _ _ rfl rfl [.pointer (some ⟨b, 0, none⟩), .int .i64 4] rfl (next_ok B b 4 y3 O_3.out.st.1 (by omega) (by omega)) ?_
        rintro e y4 ⟨p, p0, p1, rfl, hs⟩
        have O_4 := Lib.hid (O_3.out.call hs)
        have X_4 := Lib.hid (X_3.out.but hs.2 hxb)
        have N_4 := Lib.hid (N_3.out.but hs.2 hXb)
        clear hs
        refine ⟨_, rfl, fun _ => trivial, ?_⟩
        simp only [Act.put, List.setIfInBounds_toArray, List.set_cons_zero, List.set_cons_succ]
        refine tr_q (d := some 11) rfl rfl rfl (.int .i64 (360 * p)) (fun w => by simp [execOp, Act.eval, go_sem, show IntKind.i64.wrap (360 * p) = 360 * p from IntWalk.i64_in _ (by omega)]) ?_
        simp only [Act.put, List.setIfInBounds_toArray, List.set_cons_zero, List.set_cons_succ]
        refine tr_q (d := some 12) rfl rfl rfl (.int .i64 (240 + 360 * p)) (fun w => by simp [execOp, Act.eval, go_sem, show IntKind.i64.wrap (240 + 360 * p) = 240 + 360 * p from IntWalk.i64_in _ (by omega)]) ?_
        simp only [Act.put, List.setIfInBounds_toArray, List.set_cons_zero, List.set_cons_succ]
        refine tr_call (d := some 14) rfl rfl rfl ⟨_, Tryz.func7, by kernel_rfl, by kernel_rfl⟩ _ _ _ rfl rfl [.pointer (some ⟨b, 0, none⟩), .int .i64 9] rfl (next_ok B b 9 y4 O_4.out.st.1 (by omega) (by omega)) ?_
        rintro e y5 ⟨q, q0, q1, rfl, hs⟩
        have O_5 := Lib.hid (O_4.out.call hs)
        have X_5 := Lib.hid (X_4.out.but hs.2 hxb)
        have N_5 := Lib.hid (N_4.out.but hs.2 hXb)
        clear hs
        refine ⟨_, rfl, fun _ => trivial, ?_⟩
        simp only [Act.put, List.setIfInBounds_toArray, List.set_cons_zero, List.set_cons_succ]
        refine tr_q (d := some 15) rfl rfl rfl (.int .i64 (q - 4)) (fun w => by simp [execOp, Act.eval, go_sem, show IntKind.i64.wrap (q - 4) = q - 4 from IntWalk.i64_in _ (by omega)]) ?_
        simp only [Act.put, List.setIfInBounds_toArray, List.set_cons_zero, List.set_cons_succ]
        refine tr_q (d := some 16) rfl rfl rfl (.int .i64 (30 * (q - 4))) (fun w => by simp [execOp, Act.eval, go_sem, show IntKind.i64.wrap (30 * (q - 4)) = 30 * (q - 4) from IntWalk.i64_in _ (by omega)]) ?_
        simp only [Act.put, List.setIfInBounds_toArray, List.set_cons_zero, List.set_cons_succ]
        refine tr_q (d := some 17) rfl rfl rfl (.int .i64 (240 + 360 * p + 30 * (q - 4))) (fun w => by simp [execOp, Act.eval, go_sem, show IntKind.i64.wrap (240 + 360 * p + 30 * (q - 4)) = 240 + 360 * p + 30 * (q - 4) from IntWalk.i64_in _ (by omega)]) ?_
        simp only [Act.put, List.setIfInBounds_toArray, List.set_cons_zero, List.set_cons_succ]
        refine tr_q (d := some 18) rfl rfl rfl (.agg (repC 1 (lands.getD j []) (240 + 360 * p + 30 * (q - 4)) 0 0 0 0 (.slice none 0 0)).toArray) (fun w => by simp [execOp, Act.eval, Instr.build, go_sem, repC, strV]) ?_
        simp only [Act.put, List.setIfInBounds_toArray, List.set_cons_zero, List.set_cons_succ]
        refine tr_skip (d := none) rfl rfl rfl (y5.setCells x 0 (repC 1 (lands.getD j []) (240 + 360 * p + 30 * (q - 4)) 0 0 0 0 (.slice none 0 0))) (row_store_run _ _ rfl x rfl Z8 (repC 1 (lands.getD j []) (240 + 360 * p + 30 * (q - 4)) 0 0 0 0 (.slice none 0 0)) rfl X_5.out rfl rowT_rep (List.all_eq_true.1 rfl)) (fun _ => trivial) ?_
        simp only [Act.put, List.setIfInBounds_toArray, List.set_cons_zero, List.set_cons_succ]
        refine tr_end ?_
        have hap := apartR_setCells x (repC 1 (lands.getD j []) (240 + 360 * p + 30 * (q - 4)) 0 0 0 0 (.slice none 0 0)) 0 y5
        exact ⟨rfl, x, lands.getD j [], 240 + 360 * p + 30 * (q - 4), _, _, _, _, _, _, _, _, _, _, _, _, _, _, _, rfl, lands_len j, by omega, by omega, hxb, hxl, hxr, O_5.out.apart hap hxl hxb hxr, X_5.out.setCells rfl⟩
      · refine tr_call (d := some 10) rfl rfl rfl ⟨_, Tryz.func7, by kernel_rfl, by kernel_rfl⟩ _ _ _ rfl rfl [.pointer (some ⟨b, 0, none⟩), .int .i64 4] rfl (next_ok B b 4 y3 O_3.out.st.1 (by omega) (by omega)) ?_
        rintro e y4 ⟨p, p0, p1, rfl, hs⟩
        have O_4 := Lib.hid (O_3.out.call hs)
        have X_4 := Lib.hid (X_3.out.but hs.2 hxb)
        have N_4 := Lib.hid (N_3.out.but hs.2 hXb)
        clear hs
        refine ⟨_, rfl, fun _ => trivial, ?_⟩
        simp only [Act.put, List.setIfInBounds_toArray, List.set_cons_zero, List.set_cons_succ]
        refine tr_q (d := some 11) rfl rfl rfl (.int .i64 (360 * p)) (fun w => by simp [execOp, Act.eval, go_sem, show IntKind.i64.wrap (360 * p) = 360 * p from IntWalk.i64_in _ (by omega)]) ?_
        simp only [Act.put, List.setIfInBounds_toArray, List.set_cons_zero, List.set_cons_succ]
        refine tr_q (d := some 12) rfl rfl rfl (.int .i64 (240 + 360 * p)) (fun w => by simp [execOp, Act.eval, go_sem, show IntKind.i64.wrap (240 + 360 * p) = 240 + 360 * p from IntWalk.i64_in _ (by omega)]) ?_
        simp only [Act.put, List.setIfInBounds_toArray, List.set_cons_zero, List.set_cons_succ]
        refine tr_fork ?_ ?_
        · have hnm := N_4.out.cell (i := j) (by simp [lands]; omega)
          refine tr_run (d := some 8) rfl rfl rfl (strV (lands.getD j [])) y4 (by simp [execOp, Act.eval, go_sem, hnm, strV]) (fun _ => trivial) ?_
          simp only [Act.put, List.setIfInBounds_toArray, List.set_cons_zero, List.set_cons_succ]
          clear hnm
          refine tr_call (d := some 14) rfl rfl rfl ⟨_, Tryz.func7, by kernel_rfl, by kernel_rfl⟩ _ _ _ rfl rfl [.pointer (some ⟨b, 0, none⟩), .int .i64 9] rfl (next_ok B b 9 y4 O_4.out.st.1 (by omega) (by omega)) ?_
          rintro e y5 ⟨q, q0, q1, rfl, hs⟩
          have O_5 := Lib.hid (O_4.out.call hs)
          have X_5 := Lib.hid (X_4.out.but hs.2 hxb)
          have N_5 := Lib.hid (N_4.out.but hs.2 hXb)
          clear hs
          refine ⟨_, rfl, fun _ => trivial, ?_⟩
          simp only [Act.put, List.setIfInBounds_toArray, List.set_cons_zero, List.set_cons_succ]
          refine tr_q (d := some 15) rfl rfl rfl (.int .i64 (q - 4)) (fun w => by simp [execOp, Act.eval, go_sem, show IntKind.i64.wrap (q - 4) = q - 4 from IntWalk.i64_in _ (by omega)]) ?_
          simp only [Act.put, List.setIfInBounds_toArray, List.set_cons_zero, List.set_cons_succ]
          refine tr_q (d := some 16) rfl rfl rfl (.int .i64 (30 * (q - 4))) (fun w => by simp [execOp, Act.eval, go_sem, show IntKind.i64.wrap (30 * (q - 4)) = 30 * (q - 4) from IntWalk.i64_in _ (by omega)]) ?_
          simp only [Act.put, List.setIfInBounds_toArray, List.set_cons_zero, List.set_cons_succ]
          refine tr_q (d := some 17) rfl rfl rfl (.int .i64 (240 + 360 * p + 30 * (q - 4))) (fun w => by simp [execOp, Act.eval, go_sem, show IntKind.i64.wrap (240 + 360 * p + 30 * (q - 4)) = 240 + 360 * p + 30 * (q - 4) from IntWalk.i64_in _ (by omega)]) ?_
          simp only [Act.put, List.setIfInBounds_toArray, List.set_cons_zero, List.set_cons_succ]
          refine tr_q (d := some 18) rfl rfl rfl (.agg (repC 1 (lands.getD j []) (240 + 360 * p + 30 * (q - 4)) 0 0 0 0 (.slice none 0 0)).toArray) (fun w => by simp [execOp, Act.eval, Instr.build, go_sem, repC, strV]) ?_
          simp only [Act.put, List.setIfInBounds_toArray, List.set_cons_zero, List.set_cons_succ]
          refine tr_skip (d := none) rfl rfl rfl (y5.setCells x 0 (repC 1 (lands.getD j []) (240 + 360 * p + 30 * (q - 4)) 0 0 0 0 (.slice none 0 0))) (row_store_run _ _ rfl x rfl Z8 (repC 1 (lands.getD j []) (240 + 360 * p + 30 * (q - 4)) 0 0 0 0 (.slice none 0 0)) rfl X_5.out rfl rowT_rep (List.all_eq_true.1 rfl)) (fun _ => trivial) ?_
          simp only [Act.put, List.setIfInBounds_toArray, List.set_cons_zero, List.set_cons_succ]
          refine tr_end ?_
          have hap := apartR_setCells x (repC 1 (lands.getD j []) (240 + 360 * p + 30 * (q - 4)) 0 0 0 0 (.slice none 0 0)) 0 y5
          exact ⟨rfl, x, lands.getD j [], 240 + 360 * p + 30 * (q - 4), _, _, _, _, _, _, _, _, _, _, _, _, _, _, _, rfl, lands_len j, by omega, by omega, hxb, hxl, hxr, O_5.out.apart hap hxl hxb hxr, X_5.out.setCells rfl⟩
        · refine tr_call (d := some 14) rfl rfl rfl ⟨_, Tryz.func7, by kernel_rfl, by kernel_rfl⟩ _ _ _ rfl rfl [.pointer (some ⟨b, 0, none⟩), .int .i64 9] rfl (next_ok B b 9 y4 O_4.out.st.1 (by omega) (by omega)) ?_
          rintro e y5 ⟨q, q0, q1, rfl, hs⟩
          have O_5 := Lib.hid (O_4.out.call hs)
          have X_5 := Lib.hid (X_4.out.but hs.2 hxb)
          have N_5 := Lib.hid (N_4.out.but hs.2 hXb)
          clear hs
          refine ⟨_, rfl, fun _ => trivial, ?_⟩
          simp only [Act.put, List.setIfInBounds_toArray, List.set_cons_zero, List.set_cons_succ]
          refine tr_q (d := some 15) rfl rfl rfl (.int .i64 (q - 4)) (fun w => by simp [execOp, Act.eval, go_sem, show IntKind.i64.wrap (q - 4) = q - 4 from IntWalk.i64_in _ (by omega)]) ?_
          simp only [Act.put, List.setIfInBounds_toArray, List.set_cons_zero, List.set_cons_succ]
          refine tr_q (d := some 16) rfl rfl rfl (.int .i64 (30 * (q - 4))) (fun w => by simp [execOp, Act.eval, go_sem, show IntKind.i64.wrap (30 * (q - 4)) = 30 * (q - 4) from IntWalk.i64_in _ (by omega)]) ?_
          simp only [Act.put, List.setIfInBounds_toArray, List.set_cons_zero, List.set_cons_succ]
          refine tr_q (d := some 17) rfl rfl rfl (.int .i64 (240 + 360 * p + 30 * (q - 4))) (fun w => by simp [execOp, Act.eval, go_sem, show IntKind.i64.wrap (240 + 360 * p + 30 * (q - 4)) = 240 + 360 * p + 30 * (q - 4) from IntWalk.i64_in _ (by omega)]) ?_
          simp only [Act.put, List.setIfInBounds_toArray, List.set_cons_zero, List.set_cons_succ]
          have hnm := N_5.out.cell (i := j) (by simp [lands]; omega)
          refine tr_run (d := some 8) rfl rfl rfl (strV (lands.getD j [])) y5 (by simp [execOp, Act.eval, go_sem, hnm, strV]) (fun _ => trivial) ?_
          simp only [Act.put, List.setIfInBounds_toArray, List.set_cons_zero, List.set_cons_succ]
          clear hnm
          refine tr_q (d := some 18) rfl rfl rfl (.agg (repC 1 (lands.getD j []) (240 + 360 * p + 30 * (q - 4)) 0 0 0 0 (.slice none 0 0)).toArray) (fun w => by simp [execOp, Act.eval, Instr.build, go_sem, repC, strV]) ?_
          simp only [Act.put, List.setIfInBounds_toArray, List.set_cons_zero, List.set_cons_succ]
          refine tr_skip (d := none) rfl rfl rfl (y5.setCells x 0 (repC 1 (lands.getD j []) (240 + 360 * p + 30 * (q - 4)) 0 0 0 0 (.slice none 0 0))) (row_store_run _ _ rfl x rfl Z8 (repC 1 (lands.getD j []) (240 + 360 * p + 30 * (q - 4)) 0 0 0 0 (.slice none 0 0)) rfl X_5.out rfl rowT_rep (List.all_eq_true.1 rfl)) (fun _ => trivial) ?_
          simp only [Act.put, List.setIfInBounds_toArray, List.set_cons_zero, List.set_cons_succ]
          refine tr_end ?_
          have hap := apartR_setCells x (repC 1 (lands.getD j []) (240 + 360 * p + 30 * (q - 4)) 0 0 0 0 (.slice none 0 0)) 0 y5
          exact ⟨rfl, x, lands.getD j [], 240 + 360 * p + 30 * (q - 4), _, _, _, _, _, _, _, _, _, _, _, _, _, _, _, rfl, lands_len j, by omega, by omega, hxb, hxl, hxr, O_5.out.apart hap hxl hxb hxr, X_5.out.setCells rfl⟩
  rintro a W ⟨x, nm, t, u4, u5, u6, u7, u8, u9, u10, u11, u12, u13, u14, u15, u16, u17, u18, rfl, hnm, ht0, ht1, hxb, hxl, hxr, hO, hX⟩
  have HO1 := Lib.hid hO
  have HX1 := Lib.hid hX
  clear hO hX O0
  go_wp2_with fail
  refine (next_ok B b 9 W HO1.out.st.1 (by omega) (by omega)).mono ?_
  rintro e W3 ⟨z, z0, z1, rfl, hs⟩
  have O3a := Lib.hid (HO1.out.call hs)
  have X3a := Lib.hid (HX1.out.but hs.2 hxb)
  clear hs HO1 HX1
  rcases (show z = 8 ∨ z ≠ 8 by omega) with hz | hz
  case' inl =>
    subst hz
    go_wp2_with fail
    have O3 := Lib.hid (O3a.out.new (Below.refl W3.heap.size W3).drew)
    have X3 := Lib.hid (X3a.out.below (Below.refl W3.heap.size W3).drew)
    clear O3a X3a
    refine region_cut (fun a W => ∃ (kk : Int) (nn : List UInt8) (pf pp pq pr : Int) (u22 u23 u24 u25 u26 u27 u28 u29 u30 u31 u32 u33 u34 : Value), a = ⟨#[.pointer (some ⟨b, 0, none⟩), undef, .pointer (some ⟨r, 0, none⟩), .pointer (some ⟨x, 0, none⟩), u4, u5, u6, u7, u8, u9, u10, u11, u12, u13, u14, u15, u16, u17, u18, .pointer (some ⟨b, 0, none⟩), .int .i64 8, .bool true, u22, u23, u24, u25, u26, u27, u28, u29, u30, u31, u32, u33, u34, undef, undef, undef, undef, undef, undef, undef, undef, undef, undef, undef, undef, undef, undef, undef, undef, undef, undef, undef, undef, undef, undef, undef, undef, undef], []⟩ ∧ nn.length ≤ 5 ∧ OB w B b r W ∧ RowAt W x (repC kk nn t pf pp pq pr (.slice none 0 0))) ?_ ?_
    · refine wp_region_tree (by kernel_rfl) (fun _ => True) 15 (.q 0 0 (.q 4 0 (.q 8 0 (.fork (.e 1 (.q 2 0 (.q 10 0 (.fork (.e 3 (.e 5 (.q 6 0 (.fork (.e 7 (.e 9 (.e 11 (.q 12 0 (.e 13 (.q 14 0 (.e 15 (.nil)))))))) (.e 9 (.fork (.e 7 (.e 11 (.q 12 0 (.e 13 (.q 14 0 (.e 15 (.nil))))))) (.e 11 (.e 7 (.q 12 0 (.e 13 (.q 14 0 (.e 15 (.nil))))))))))))) (.e 5 (.fork (.e 3 (.q 6 0 (.fork (.e 7 (.e 9 (.e 11 (.q 12 0 (.e 13 (.q 14 0 (.e 15 (.nil)))))))) (.e 9 (.fork (.e 7 (.e 11 (.q 12 0 (.e 13 (.q 14 0 (.e 15 (.nil))))))) (.e 11 (.e 7 (.q 12 0 (.e 13 (.q 14 0 (.e 15 (.nil)))))))))))) (.e 9 (.fork (.e 3 (.q 6 0 (.fork (.e 7 (.e 11 (.q 12 0 (.e 13 (.q 14 0 (.e 15 (.nil))))))) (.e 11 (.e 7 (.q 12 0 (.e 13 (.q 14 0 (.e 15 (.nil)))))))))) (.e 11 (.e 3 (.q 6 0 (.e 7 (.q 12 0 (.e 13 (.q 14 0 (.e 15 (.nil))))))))))))))))) (.e 3 (.e 1 (.q 2 0 (.q 10 0 (.e 5 (.q 6 0 (.fork (.e 7 (.e 9 (.e 11 (.q 12 0 (.e 13 (.q 14 0 (.e 15 (.nil)))))))) (.e 9 (.fork (.e 7 (.e 11 (.q 12 0 (.e 13 (.q 14 0 (.e 15 (.nil))))))) (.e 11 (.e 7 (.q 12 0 (.e 13 (.q 14 0 (.e 15 (.nil)))))))))))))))))))) (by kernel_rfl) (trivial) ?_
      refine tr_q (d := some 22) rfl rfl rfl (.pointer (some ⟨b, 0, none⟩)) (fun w => rfl) ?_
      simp only [Act.put, List.setIfInBounds_toArray, List.set_cons_zero, List.set_cons_succ]
      refine tr_q (d := some 26) rfl rfl rfl (.pointer (some ⟨b, 0, none⟩)) (fun w => rfl) ?_
      simp only [Act.put, List.setIfInBounds_toArray, List.set_cons_zero, List.set_cons_succ]
      refine tr_q (d := some 30) rfl rfl rfl (.pointer (some ⟨b, 0, none⟩)) (fun w => rfl) ?_
      simp only [Act.put, List.setIfInBounds_toArray, List.set_cons_zero, List.set_cons_succ]
      refine tr_fork ?_ ?_
      · refine tr_call (d := some 23) rfl rfl rfl ⟨_, Tryz.func7, by kernel_rfl, by kernel_rfl⟩ _ _ _ rfl rfl [.pointer (some ⟨b, 0, none⟩), .int .i64 2] rfl (next_ok B b 2 W3.drew O3.out.st.1 (by omega) (by omega)) ?_
        rintro e y1 ⟨k2, k20, k21, rfl, hs⟩
        have O_1 := Lib.hid (O3.out.call hs)
        have X_1 := Lib.hid (X3.out.but hs.2 hxb)
        clear hs
        refine ⟨_, rfl, fun _ => trivial, ?_⟩
        simp only [Act.put, List.setIfInBounds_toArray, List.set_cons_zero, List.set_cons_succ]
        refine tr_q (d := some 24) rfl rfl rfl (.int .i64 (2 + k2)) (fun w => by simp [execOp, Act.eval, go_sem, show IntKind.i64.wrap (2 + k2) = 2 + k2 from IntWalk.i64_in _ (by omega)]) ?_
        simp only [Act.put, List.setIfInBounds_toArray, List.set_cons_zero, List.set_cons_succ]
        refine tr_q (d := some 32) rfl rfl rfl (.pointer (some ⟨x, 0, none⟩)) (fun w => by go_simp) ?_
        simp only [Act.put, List.setIfInBounds_toArray, List.set_cons_zero, List.set_cons_succ]
        refine tr_fork ?_ ?_
        · obtain ⟨y2, hnw⟩ : ∃ y, y = y1.alloc (.cells #[.string ⟨#[83, 72, 73, 80, 49]⟩, .string ⟨#[83, 72, 73, 80, 50]⟩, .string ⟨#[66, 85, 79, 89, 49]⟩] 9) := ⟨_, rfl⟩
          obtain ⟨Y, hY⟩ : ∃ x, x = y1.heap.size := ⟨_, rfl⟩
          have hb : Below y1.heap.size y1 y2 := by rw [hnw]; exact (Below.refl _ _).alloc (Nat.le_refl _) _
          have hs : St y1 B b y2 := ⟨O_1.out.st.1.below hb O_1.out.st.1.lt, But.of_below hb⟩
          have hYb : Y ≠ b := by have := O_1.out.lt; omega
          have hYx : Y ≠ x := by have := X_1.out.lt; omega
          have O_2 := Lib.hid (O_1.out.call hs)
          have X_2 := Lib.hid (X_1.out.but hs.2 hxb)
          have N0 : Hid (StrsAt y2 Y ships) := by unfold Hid; rw [hnw]; exact strs_lit _ ships rfl hY.symm
          refine tr_run (d := some 25) rfl rfl rfl (.slice (some ⟨Y, 0, none⟩) 3 3) y2 (by rw [hnw, hY]; simp [execOp, Act.eval, go_sem]) (fun _ => trivial) ?_
          simp only [Act.put, List.setIfInBounds_toArray, List.set_cons_zero, List.set_cons_succ]
          clear hs hb hnw hY
          refine tr_call (d := some 27) rfl rfl rfl ⟨_, Tryz.func7, by kernel_rfl, by kernel_rfl⟩ _ _ _ rfl rfl [.pointer (some ⟨b, 0, none⟩), .int .i64 3] rfl (next_ok B b 3 y2 O_2.out.st.1 (by omega) (by omega)) ?_
          rintro e y3 ⟨x, x0, x1, rfl, hs⟩
          obtain ⟨j, rfl⟩ := Int.eq_ofNat_of_zero_le x0
          have O_3 := Lib.hid (O_2.out.call hs)
          have X_3 := Lib.hid (X_2.out.but hs.2 hxb)
          have N_3 := Lib.hid (N0.out.but hs.2 hYb)
          clear hs
          refine ⟨_, rfl, fun _ => trivial, ?_⟩
          simp only [Act.put, List.setIfInBounds_toArray, List.set_cons_zero, List.set_cons_succ]
          refine tr_q (d := some 28) rfl rfl rfl (.pointer (some ⟨Y, j, none⟩)) (fun w => by simp [execOp, Act.eval, go_sem]; omega) ?_
          simp only [Act.put, List.setIfInBounds_toArray, List.set_cons_zero, List.set_cons_succ]
          refine tr_fork ?_ ?_
          · have hnm := N_3.out.cell (i := j) (by simp [ships]; omega)
            refine tr_run (d := some 29) rfl rfl rfl (strV (ships.getD j [])) y3 (by simp [execOp, Act.eval, go_sem, hnm, strV]) (fun _ => trivial) ?_
            simp only [Act.put, List.setIfInBounds_toArray, List.set_cons_zero, List.set_cons_succ]
            clear hnm
            refine tr_call (d := some 31) rfl rfl rfl ⟨_, Tryz.func30, by kernel_rfl, by kernel_rfl⟩ _ _ _ rfl rfl [.pointer (some ⟨b, 0, none⟩)] rfl (inner_ok B b y3 O_3.out.st.1) ?_
            rintro e y4 ⟨pf, pp, pq, pr, rfl, hs⟩
            have O_4 := Lib.hid (O_3.out.call hs)
            have X_4 := Lib.hid (X_3.out.but hs.2 hxb)
            have N_4 := Lib.hid (N_3.out.but hs.2 hYb)
            clear hs
            refine ⟨_, rfl, fun _ => trivial, ?_⟩
            simp only [Act.put, List.setIfInBounds_toArray, List.set_cons_zero, List.set_cons_succ]
            obtain ⟨y5, hnw⟩ : ∃ y, y = y4.setCell ⟨x, 0, none⟩ (.int .i64 (2 + k2)) := ⟨_, rfl⟩
            have hap : ApartR x y4 y5 := by rw [hnw]; exact (ApartR.refl x y4).setCell 0 _
            have hc := X_4.out.at 0 (v := .int .i64 1) rfl
            have hf := X_4.out.2.2 0 (by simp [repC])
            have O_5 := Lib.hid (O_4.out.apart hap hxl hxb hxr)
            have X_5 : Hid (RowAt y5 x (repC (2 + k2) nm t 0 0 0 0 (.slice none 0 0))) := by unfold Hid; rw [hnw]; exact X_4.out.set 0 (by simp [repC]) _
            have N_5 := Lib.hid (N_4.out.apart hap hYx)
            refine tr_skip (d := none) rfl rfl rfl y5 (by rw [hnw]; exact (by simp [execOp, Act.eval, go_sem, hc, hf, strV])) (fun _ => trivial) ?_
            simp only [Act.put, List.setIfInBounds_toArray, List.set_cons_zero, List.set_cons_succ]
            clear hap hnw
            refine tr_q (d := some 33) rfl rfl rfl (.pointer (some ⟨x, 1, none⟩)) (fun w => by go_simp) ?_
            simp only [Act.put, List.setIfInBounds_toArray, List.set_cons_zero, List.set_cons_succ]
            obtain ⟨y6, hnw⟩ : ∃ y, y = y5.setCell ⟨x, 1, none⟩ (strV (ships.getD j [])) := ⟨_, rfl⟩
            have hap : ApartR x y5 y6 := by rw [hnw]; exact (ApartR.refl x y5).setCell 1 _
            have hc := X_5.out.at 1 (v := strV nm) rfl
            have hf := X_5.out.2.2 1 (by simp [repC])
            have O_6 := Lib.hid (O_5.out.apart hap hxl hxb hxr)
            have X_6 : Hid (RowAt y6 x (repC (2 + k2) (ships.getD j []) t 0 0 0 0 (.slice none 0 0))) := by unfold Hid; rw [hnw]; exact X_5.out.set 1 (by simp [repC]) _
            have N_6 := Lib.hid (N_5.out.apart hap hYx)
            refine tr_skip (d := none) rfl rfl rfl y6 (by rw [hnw]; exact (by simp [execOp, Act.eval, go_sem, hc, hf, strV])) (fun _ => trivial) ?_
            simp only [Act.put, List.setIfInBounds_toArray, List.set_cons_zero, List.set_cons_succ]
            clear hap hnw
            refine tr_q (d := some 34) rfl rfl rfl (.pointer (some ⟨x, 3, none⟩)) (fun w => by go_simp) ?_
            simp only [Act.put, List.setIfInBounds_toArray, List.set_cons_zero, List.set_cons_succ]
            obtain ⟨y7, hnw⟩ : ∃ y, y = y6.setCells x 3 [.int .i64 pf, .int .i64 pp, .int .i64 pq, .int .i64 pr] := ⟨_, rfl⟩
            have hap : ApartR x y6 y7 := by rw [hnw]; exact apartR_setCells x _ 3 y6
            have O_7 := Lib.hid (O_6.out.apart hap hxl hxb hxr)
            have X_7 : Hid (RowAt y7 x (repC (2 + k2) (ships.getD j []) t pf pp pq pr (.slice none 0 0))) := by unfold Hid; rw [hnw]; exact row_mid4 X_6.out 3 (by simp [repC]) _ _ _ _
            have N_7 := Lib.hid (N_6.out.apart hap hYx)
            refine tr_skip (d := none) rfl rfl rfl y7 (by rw [hnw]; exact mid_store_run _ _ rfl x 3 rfl (repC (2 + k2) (ships.getD j []) t 0 0 0 0 (.slice none 0 0)) [.int .i64 pf, .int .i64 pp, .int .i64 pq, .int .i64 pr] rfl X_6.out (by simp [repC]) rowT_pl (List.all_eq_true.1 rfl)) (fun _ => trivial) ?_
            simp only [Act.put, List.setIfInBounds_toArray, List.set_cons_zero, List.set_cons_succ]
            clear hap hnw
            refine tr_end ?_
            exact ⟨rfl, 2 + k2, ships.getD j [], pf, pp, pq, pr, _, _, _, _, _, _, _, _, _, _, _, _, _, rfl, ships_len j, O_7.out, X_7.out⟩
          · refine tr_call (d := some 31) rfl rfl rfl ⟨_, Tryz.func30, by kernel_rfl, by kernel_rfl⟩ _ _ _ rfl rfl [.pointer (some ⟨b, 0, none⟩)] rfl (inner_ok B b y3 O_3.out.st.1) ?_
            rintro e y4 ⟨pf, pp, pq, pr, rfl, hs⟩
            have O_4 := Lib.hid (O_3.out.call hs)
            have X_4 := Lib.hid (X_3.out.but hs.2 hxb)
            have N_4 := Lib.hid (N_3.out.but hs.2 hYb)
            clear hs
            refine ⟨_, rfl, fun _ => trivial, ?_⟩
            simp only [Act.put, List.setIfInBounds_toArray, List.set_cons_zero, List.set_cons_succ]
            refine tr_fork ?_ ?_
            · have hnm := N_4.out.cell (i := j) (by simp [ships]; omega)
              refine tr_run (d := some 29) rfl rfl rfl (strV (ships.getD j [])) y4 (by simp [execOp, Act.eval, go_sem, hnm, strV]) (fun _ => trivial) ?_
              simp only [Act.put, List.setIfInBounds_toArray, List.set_cons_zero, List.set_cons_succ]
              clear hnm
              obtain ⟨y5, hnw⟩ : ∃ y, y = y4.setCell ⟨x, 0, none⟩ (.int .i64 (2 + k2)) := ⟨_, rfl⟩
              have hap : ApartR x y4 y5 := by rw [hnw]; exact (ApartR.refl x y4).setCell 0 _
              have hc := X_4.out.at 0 (v := .int .i64 1) rfl
              have hf := X_4.out.2.2 0 (by simp [repC])
              have O_5 := Lib.hid (O_4.out.apart hap hxl hxb hxr)
              have X_5 : Hid (RowAt y5 x (repC (2 + k2) nm t 0 0 0 0 (.slice none 0 0))) := by unfold Hid; rw [hnw]; exact X_4.out.set 0 (by simp [repC]) _
              have N_5 := Lib.hid (N_4.out.apart hap hYx)
              refine tr_skip (d := none) rfl rfl rfl y5 (by rw [hnw]; exact (by simp [execOp, Act.eval, go_sem, hc, hf, strV])) (fun _ => trivial) ?_
              simp only [Act.put, List.setIfInBounds_toArray, List.set_cons_zero, List.set_cons_succ]
              clear hap hnw
              refine tr_q (d := some 33) rfl rfl rfl (.pointer (some ⟨x, 1, none⟩)) (fun w => by go_simp) ?_
              simp only [Act.put, List.setIfInBounds_toArray, List.set_cons_zero, List.set_cons_succ]
              obtain ⟨y6, hnw⟩ : ∃ y, y = y5.setCell ⟨x, 1, none⟩ (strV (ships.getD j [])) := ⟨_, rfl⟩
              have hap : ApartR x y5 y6 := by rw [hnw]; exact (ApartR.refl x y5).setCell 1 _
              have hc := X_5.out.at 1 (v := strV nm) rfl
              have hf := X_5.out.2.2 1 (by simp [repC])
              have O_6 := Lib.hid (O_5.out.apart hap hxl hxb hxr)
              have X_6 : Hid (RowAt y6 x (repC (2 + k2) (ships.getD j []) t 0 0 0 0 (.slice none 0 0))) := by unfold Hid; rw [hnw]; exact X_5.out.set 1 (by simp [repC]) _
              have N_6 := Lib.hid (N_5.out.apart hap hYx)
              refine tr_skip (d := none) rfl rfl rfl y6 (by rw [hnw]; exact (by simp [execOp, Act.eval, go_sem, hc, hf, strV])) (fun _ => trivial) ?_
              simp only [Act.put, List.setIfInBounds_toArray, List.set_cons_zero, List.set_cons_succ]
              clear hap hnw
              refine tr_q (d := some 34) rfl rfl rfl (.pointer (some ⟨x, 3, none⟩)) (fun w => by go_simp) ?_
              simp only [Act.put, List.setIfInBounds_toArray, List.set_cons_zero, List.set_cons_succ]
              obtain ⟨y7, hnw⟩ : ∃ y, y = y6.setCells x 3 [.int .i64 pf, .int .i64 pp, .int .i64 pq, .int .i64 pr] := ⟨_, rfl⟩
              have hap : ApartR x y6 y7 := by rw [hnw]; exact apartR_setCells x _ 3 y6
              have O_7 := Lib.hid (O_6.out.apart hap hxl hxb hxr)
              have X_7 : Hid (RowAt y7 x (repC (2 + k2) (ships.getD j []) t pf pp pq pr (.slice none 0 0))) := by unfold Hid; rw [hnw]; exact row_mid4 X_6.out 3 (by simp [repC]) _ _ _ _
              have N_7 := Lib.hid (N_6.out.apart hap hYx)
              refine tr_skip (d := none) rfl rfl rfl y7 (by rw [hnw]; exact mid_store_run _ _ rfl x 3 rfl (repC (2 + k2) (ships.getD j []) t 0 0 0 0 (.slice none 0 0)) [.int .i64 pf, .int .i64 pp, .int .i64 pq, .int .i64 pr] rfl X_6.out (by simp [repC]) rowT_pl (List.all_eq_true.1 rfl)) (fun _ => trivial) ?_
              simp only [Act.put, List.setIfInBounds_toArray, List.set_cons_zero, List.set_cons_succ]
              clear hap hnw
              refine tr_end ?_
              exact ⟨rfl, 2 + k2, ships.getD j [], pf, pp, pq, pr, _, _, _, _, _, _, _, _, _, _, _, _, _, rfl, ships_len j, O_7.out, X_7.out⟩
            · obtain ⟨y5, hnw⟩ : ∃ y, y = y4.setCell ⟨x, 0, none⟩ (.int .i64 (2 + k2)) := ⟨_, rfl⟩
              have hap : ApartR x y4 y5 := by rw [hnw]; exact (ApartR.refl x y4).setCell 0 _
              have hc := X_4.out.at 0 (v := .int .i64 1) rfl
              have hf := X_4.out.2.2 0 (by simp [repC])
              have O_5 := Lib.hid (O_4.out.apart hap hxl hxb hxr)
              have X_5 : Hid (RowAt y5 x (repC (2 + k2) nm t 0 0 0 0 (.slice none 0 0))) := by unfold Hid; rw [hnw]; exact X_4.out.set 0 (by simp [repC]) _
              have N_5 := Lib.hid (N_4.out.apart hap hYx)
              refine tr_skip (d := none) rfl rfl rfl y5 (by rw [hnw]; exact (by simp [execOp, Act.eval, go_sem, hc, hf, strV])) (fun _ => trivial) ?_
              simp only [Act.put, List.setIfInBounds_toArray, List.set_cons_zero, List.set_cons_succ]
              clear hap hnw
              have hnm := N_5.out.cell (i := j) (by simp [ships]; omega)
              refine tr_run (d := some 29) rfl rfl rfl (strV (ships.getD j [])) y5 (by simp [execOp, Act.eval, go_sem, hnm, strV]) (fun _ => trivial) ?_
              simp only [Act.put, List.setIfInBounds_toArray, List.set_cons_zero, List.set_cons_succ]
              clear hnm
              refine tr_q (d := some 33) rfl rfl rfl (.pointer (some ⟨x, 1, none⟩)) (fun w => by go_simp) ?_
              simp only [Act.put, List.setIfInBounds_toArray, List.set_cons_zero, List.set_cons_succ]
              obtain ⟨y6, hnw⟩ : ∃ y, y = y5.setCell ⟨x, 1, none⟩ (strV (ships.getD j [])) := ⟨_, rfl⟩
              have hap : ApartR x y5 y6 := by rw [hnw]; exact (ApartR.refl x y5).setCell 1 _
              have hc := X_5.out.at 1 (v := strV nm) rfl
              have hf := X_5.out.2.2 1 (by simp [repC])
              have O_6 := Lib.hid (O_5.out.apart hap hxl hxb hxr)
              have X_6 : Hid (RowAt y6 x (repC (2 + k2) (ships.getD j []) t 0 0 0 0 (.slice none 0 0))) := by unfold Hid; rw [hnw]; exact X_5.out.set 1 (by simp [repC]) _
              have N_6 := Lib.hid (N_5.out.apart hap hYx)
              refine tr_skip (d := none) rfl rfl rfl y6 (by rw [hnw]; exact (by simp [execOp, Act.eval, go_sem, hc, hf, strV])) (fun _ => trivial) ?_
              simp only [Act.put, List.setIfInBounds_toArray, List.set_cons_zero, List.set_cons_succ]
              clear hap hnw
              refine tr_q (d := some 34) rfl rfl rfl (.pointer (some ⟨x, 3, none⟩)) (fun w => by go_simp) ?_
              simp only [Act.put, List.setIfInBounds_toArray, List.set_cons_zero, List.set_cons_succ]
              obtain ⟨y7, hnw⟩ : ∃ y, y = y6.setCells x 3 [.int .i64 pf, .int .i64 pp, .int .i64 pq, .int .i64 pr] := ⟨_, rfl⟩
              have hap : ApartR x y6 y7 := by rw [hnw]; exact apartR_setCells x _ 3 y6
              have O_7 := Lib.hid (O_6.out.apart hap hxl hxb hxr)
              have X_7 : Hid (RowAt y7 x (repC (2 + k2) (ships.getD j []) t pf pp pq pr (.slice none 0 0))) := by unfold Hid; rw [hnw]; exact row_mid4 X_6.out 3 (by simp [repC]) _ _ _ _
              have N_7 := Lib.hid (N_6.out.apart hap hYx)
              refine tr_skip (d := none) rfl rfl rfl y7 (by rw [hnw]; exact mid_store_run _ _ rfl x 3 rfl (repC (2 + k2) (ships.getD j []) t 0 0 0 0 (.slice none 0 0)) [.int .i64 pf, .int .i64 pp, .int .i64 pq, .int .i64 pr] rfl X_6.out (by simp [repC]) rowT_pl (List.all_eq_true.1 rfl)) (fun _ => trivial) ?_
              simp only [Act.put, List.setIfInBounds_toArray, List.set_cons_zero, List.set_cons_succ]
              clear hap hnw
              refine tr_end ?_
              exact ⟨rfl, 2 + k2, ships.getD j [], pf, pp, pq, pr, _, _, _, _, _, _, _, _, _, _, _, _, _, rfl, ships_len j, O_7.out, X_7.out⟩
        · refine tr_call (d := some 27) rfl rfl rfl ⟨_, Tryz.func7, by kernel_rfl, by kernel_rfl⟩ _ _ _ rfl rfl [.pointer (some ⟨b, 0, none⟩), .int .i64 3] rfl (next_ok B b 3 y1 O_1.out.st.1 (by omega) (by omega)) ?_
          rintro e y2 ⟨x, x0, x1, rfl, hs⟩
          obtain ⟨j, rfl⟩ := Int.eq_ofNat_of_zero_le x0
          have O_2 := Lib.hid (O_1.out.call hs)
          have X_2 := Lib.hid (X_1.out.but hs.2 hxb)
          clear hs
          refine ⟨_, rfl, fun _ => trivial, ?_⟩
          simp only [Act.put, List.setIfInBounds_toArray, List.set_cons_zero, List.set_cons_succ]
          refine tr_fork ?_ ?_
          · obtain ⟨y3, hnw⟩ : ∃ y, y = y2.alloc (.cells #[.string ⟨#[83, 72, 73, 80, 49]⟩, .string ⟨#[83, 72, 73, 80, 50]⟩, .string ⟨#[66, 85, 79, 89, 49]⟩] 9) := ⟨_, rfl⟩
            obtain ⟨Y, hY⟩ : ∃ x, x = y2.heap.size := ⟨_, rfl⟩
            have hb : Below y2.heap.size y2 y3 := by rw [hnw]; exact (Below.refl _ _).alloc (Nat.le_refl _) _
            have hs : St y2 B b y3 := ⟨O_2.out.st.1.below hb O_2.out.st.1.lt, But.of_below hb⟩
            have hYb : Y ≠ b := by have := O_2.out.lt; omega
            have hYx : Y ≠ x := by have := X_2.out.lt; omega
            have O_3 := Lib.hid (O_2.out.call hs)
            have X_3 := Lib.hid (X_2.out.but hs.2 hxb)
            have N0 : Hid (StrsAt y3 Y ships) := by unfold Hid; rw [hnw]; exact strs_lit _ ships rfl hY.symm
            refine tr_run (d := some 25) rfl rfl rfl (.slice (some ⟨Y, 0, none⟩) 3 3) y3 (by rw [hnw, hY]; simp [execOp, Act.eval, go_sem]) (fun _ => trivial) ?_
            simp only [Act.put, List.setIfInBounds_toArray, List.set_cons_zero, List.set_cons_succ]
            clear hs hb hnw hY
            refine tr_q (d := some 28) rfl rfl rfl (.pointer (some ⟨Y, j, none⟩)) (fun w => by simp [execOp, Act.eval, go_sem]; omega) ?_
            simp only [Act.put, List.setIfInBounds_toArray, List.set_cons_zero, List.set_cons_succ]
            refine tr_fork ?_ ?_
            · have hnm := N0.out.cell (i := j) (by simp [ships]; omega)
              refine tr_run (d := some 29) rfl rfl rfl (strV (ships.getD j [])) y3 (by simp [execOp, Act.eval, go_sem, hnm, strV]) (fun _ => trivial) ?_
              simp only [Act.put, List.setIfInBounds_toArray, List.set_cons_zero, List.set_cons_succ]
              clear hnm
              refine tr_call (d := some 31) rfl rfl rfl ⟨_, Tryz.func30, by kernel_rfl, by kernel_rfl⟩ _ _ _ rfl rfl [.pointer (some ⟨b, 0, none⟩)] rfl (inner_ok B b y3 O_3.out.st.1) ?_
              rintro e y4 ⟨pf, pp, pq, pr, rfl, hs⟩
              have O_4 := Lib.hid (O_3.out.call hs)
              have X_4 := Lib.hid (X_3.out.but hs.2 hxb)
              have N_4 := Lib.hid (N0.out.but hs.2 hYb)
              clear hs
              refine ⟨_, rfl, fun _ => trivial, ?_⟩
              simp only [Act.put, List.setIfInBounds_toArray, List.set_cons_zero, List.set_cons_succ]
              obtain ⟨y5, hnw⟩ : ∃ y, y = y4.setCell ⟨x, 0, none⟩ (.int .i64 (2 + k2)) := ⟨_, rfl⟩
              have hap : ApartR x y4 y5 := by rw [hnw]; exact (ApartR.refl x y4).setCell 0 _
              have hc := X_4.out.at 0 (v := .int .i64 1) rfl
              have hf := X_4.out.2.2 0 (by simp [repC])
              have O_5 := Lib.hid (O_4.out.apart hap hxl hxb hxr)
              have X_5 : Hid (RowAt y5 x (repC (2 + k2) nm t 0 0 0 0 (.slice none 0 0))) := by unfold Hid; rw [hnw]; exact X_4.out.set 0 (by simp [repC]) _
              have N_5 := Lib.hid (N_4.out.apart hap hYx)
              refine tr_skip (d := none) rfl rfl rfl y5 (by rw [hnw]; exact (by simp [execOp, Act.eval, go_sem, hc, hf, strV])) (fun _ => trivial) ?_
              simp only [Act.put, List.setIfInBounds_toArray, List.set_cons_zero, List.set_cons_succ]
              clear hap hnw
              refine tr_q (d := some 33) rfl rfl rfl (.pointer (some ⟨x, 1, none⟩)) (fun w => by go_simp) ?_
              simp only [Act.put, List.setIfInBounds_toArray, List.set_cons_zero, List.set_cons_succ]
              obtain ⟨y6, hnw⟩ : ∃ y, y = y5.setCell ⟨x, 1, none⟩ (strV (ships.getD j [])) := ⟨_, rfl⟩
              have hap : ApartR x y5 y6 := by rw [hnw]; exact (ApartR.refl x y5).setCell 1 _
              have hc := X_5.out.at 1 (v := strV nm) rfl
              have hf := X_5.out.2.2 1 (by simp [repC])
              have O_6 := Lib.hid (O_5.out.apart hap hxl hxb hxr)
              have X_6 : Hid (RowAt y6 x (repC (2 + k2) (ships.getD j []) t 0 0 0 0 (.slice none 0 0))) := by unfold Hid; rw [hnw]; exact X_5.out.set 1 (by simp [repC]) _
              have N_6 := Lib.hid (N_5.out.apart hap hYx)
              refine tr_skip (d := none) rfl rfl rfl y6 (by rw [hnw]; exact (by simp [execOp, Act.eval, go_sem, hc, hf, strV])) (fun _ => trivial) ?_
              simp only [Act.put, List.setIfInBounds_toArray, List.set_cons_zero, List.set_cons_succ]
              clear hap hnw
              refine tr_q (d := some 34) rfl rfl rfl (.pointer (some ⟨x, 3, none⟩)) (fun w => by go_simp) ?_
              simp only [Act.put, List.setIfInBounds_toArray, List.set_cons_zero, List.set_cons_succ]
              obtain ⟨y7, hnw⟩ : ∃ y, y = y6.setCells x 3 [.int .i64 pf, .int .i64 pp, .int .i64 pq, .int .i64 pr] := ⟨_, rfl⟩
              have hap : ApartR x y6 y7 := by rw [hnw]; exact apartR_setCells x _ 3 y6
              have O_7 := Lib.hid (O_6.out.apart hap hxl hxb hxr)
              have X_7 : Hid (RowAt y7 x (repC (2 + k2) (ships.getD j []) t pf pp pq pr (.slice none 0 0))) := by unfold Hid; rw [hnw]; exact row_mid4 X_6.out 3 (by simp [repC]) _ _ _ _
              have N_7 := Lib.hid (N_6.out.apart hap hYx)
              refine tr_skip (d := none) rfl rfl rfl y7 (by rw [hnw]; exact mid_store_run _ _ rfl x 3 rfl (repC (2 + k2) (ships.getD j []) t 0 0 0 0 (.slice none 0 0)) [.int .i64 pf, .int .i64 pp, .int .i64 pq, .int .i64 pr] rfl X_6.out (by simp [repC]) rowT_pl (List.all_eq_true.1 rfl)) (fun _ => trivial) ?_
              simp only [Act.put, List.setIfInBounds_toArray, List.set_cons_zero, List.set_cons_succ]
              clear hap hnw
              refine tr_end ?_
              exact ⟨rfl, 2 + k2, ships.getD j [], pf, pp, pq, pr, _, _, _, _, _, _, _, _, _, _, _, _, _, rfl, ships_len j, O_7.out, X_7.out⟩
            · refine tr_call (d := some 31) rfl rfl rfl ⟨_, Tryz.func30, by kernel_rfl, by kernel_rfl⟩ _ _ _ rfl rfl [.pointer (some ⟨b, 0, none⟩)] rfl (inner_ok B b y3 O_3.out.st.1) ?_
              rintro e y4 ⟨pf, pp, pq, pr, rfl, hs⟩
              have O_4 := Lib.hid (O_3.out.call hs)
              have X_4 := Lib.hid (X_3.out.but hs.2 hxb)
              have N_4 := Lib.hid (N0.out.but hs.2 hYb)
              clear hs
              refine ⟨_, rfl, fun _ => trivial, ?_⟩
              simp only [Act.put, List.setIfInBounds_toArray, List.set_cons_zero, List.set_cons_succ]
              refine tr_fork ?_ ?_
              · have hnm := N_4.out.cell (i := j) (by simp [ships]; omega)
                refine tr_run (d := some 29) rfl rfl rfl (strV (ships.getD j [])) y4 (by simp [execOp, Act.eval, go_sem, hnm, strV]) (fun _ => trivial) ?_
                simp only [Act.put, List.setIfInBounds_toArray, List.set_cons_zero, List.set_cons_succ]
                clear hnm
                obtain ⟨y5, hnw⟩ : ∃ y, y = y4.setCell ⟨x, 0, none⟩ (.int .i64 (2 + k2)) := ⟨_, rfl⟩
                have hap : ApartR x y4 y5 := by rw [hnw]; exact (ApartR.refl x y4).setCell 0 _
                have hc := X_4.out.at 0 (v := .int .i64 1) rfl
                have hf := X_4.out.2.2 0 (by simp [repC])
                have O_5 := Lib.hid (O_4.out.apart hap hxl hxb hxr)
                have X_5 : Hid (RowAt y5 x (repC (2 + k2) nm t 0 0 0 0 (.slice none 0 0))) := by unfold Hid; rw [hnw]; exact X_4.out.set 0 (by simp [repC]) _
                have N_5 := Lib.hid (N_4.out.apart hap hYx)
                refine tr_skip (d := none) rfl rfl rfl y5 (by rw [hnw]; exact (by simp [execOp, Act.eval, go_sem, hc, hf, strV])) (fun _ => trivial) ?_
                simp only [Act.put, List.setIfInBounds_toArray, List.set_cons_zero, List.set_cons_succ]
                clear hap hnw
                refine tr_q (d := some 33) rfl rfl rfl (.pointer (some ⟨x, 1, none⟩)) (fun w => by go_simp) ?_
                simp only [Act.put, List.setIfInBounds_toArray, List.set_cons_zero, List.set_cons_succ]
                obtain ⟨y6, hnw⟩ : ∃ y, y = y5.setCell ⟨x, 1, none⟩ (strV (ships.getD j [])) := ⟨_, rfl⟩
                have hap : ApartR x y5 y6 := by rw [hnw]; exact (ApartR.refl x y5).setCell 1 _
                have hc := X_5.out.at 1 (v := strV nm) rfl
                have hf := X_5.out.2.2 1 (by simp [repC])
                have O_6 := Lib.hid (O_5.out.apart hap hxl hxb hxr)
                have X_6 : Hid (RowAt y6 x (repC (2 + k2) (ships.getD j []) t 0 0 0 0 (.slice none 0 0))) := by unfold Hid; rw [hnw]; exact X_5.out.set 1 (by simp [repC]) _
                have N_6 := Lib.hid (N_5.out.apart hap hYx)
                refine tr_skip (d := none) rfl rfl rfl y6 (by rw [hnw]; exact (by simp [execOp, Act.eval, go_sem, hc, hf, strV])) (fun _ => trivial) ?_
                simp only [Act.put, List.setIfInBounds_toArray, List.set_cons_zero, List.set_cons_succ]
                clear hap hnw
                refine tr_q (d := some 34) rfl rfl rfl (.pointer (some ⟨x, 3, none⟩)) (fun w => by go_simp) ?_
                simp only [Act.put, List.setIfInBounds_toArray, List.set_cons_zero, List.set_cons_succ]
                obtain ⟨y7, hnw⟩ : ∃ y, y = y6.setCells x 3 [.int .i64 pf, .int .i64 pp, .int .i64 pq, .int .i64 pr] := ⟨_, rfl⟩
                have hap : ApartR x y6 y7 := by rw [hnw]; exact apartR_setCells x _ 3 y6
                have O_7 := Lib.hid (O_6.out.apart hap hxl hxb hxr)
                have X_7 : Hid (RowAt y7 x (repC (2 + k2) (ships.getD j []) t pf pp pq pr (.slice none 0 0))) := by unfold Hid; rw [hnw]; exact row_mid4 X_6.out 3 (by simp [repC]) _ _ _ _
                have N_7 := Lib.hid (N_6.out.apart hap hYx)
                refine tr_skip (d := none) rfl rfl rfl y7 (by rw [hnw]; exact mid_store_run _ _ rfl x 3 rfl (repC (2 + k2) (ships.getD j []) t 0 0 0 0 (.slice none 0 0)) [.int .i64 pf, .int .i64 pp, .int .i64 pq, .int .i64 pr] rfl X_6.out (by simp [repC]) rowT_pl (List.all_eq_true.1 rfl)) (fun _ => trivial) ?_
                simp only [Act.put, List.setIfInBounds_toArray, List.set_cons_zero, List.set_cons_succ]
                clear hap hnw
                refine tr_end ?_
                exact ⟨rfl, 2 + k2, ships.getD j [], pf, pp, pq, pr, _, _, _, _, _, _, _, _, _, _, _, _, _, rfl, ships_len j, O_7.out, X_7.out⟩
              · obtain ⟨y5, hnw⟩ : ∃ y, y = y4.setCell ⟨x, 0, none⟩ (.int .i64 (2 + k2)) := ⟨_, rfl⟩
                have hap : ApartR x y4 y5 := by rw [hnw]; exact (ApartR.refl x y4).setCell 0 _
                have hc := X_4.out.at 0 (v := .int .i64 1) rfl
                have hf := X_4.out.2.2 0 (by simp [repC])
                have O_5 := Lib.hid (O_4.out.apart hap hxl hxb hxr)
                have X_5 : Hid (RowAt y5 x (repC (2 + k2) nm t 0 0 0 0 (.slice none 0 0))) := by unfold Hid; rw [hnw]; exact X_4.out.set 0 (by simp [repC]) _
                have N_5 := Lib.hid (N_4.out.apart hap hYx)
                refine tr_skip (d := none) rfl rfl rfl y5 (by rw [hnw]; exact (by simp [execOp, Act.eval, go_sem, hc, hf, strV])) (fun _ => trivial) ?_
                simp only [Act.put, List.setIfInBounds_toArray, List.set_cons_zero, List.set_cons_succ]
                clear hap hnw
                have hnm := N_5.out.cell (i := j) (by simp [ships]; omega)
                refine tr_run (d := some 29) rfl rfl rfl (strV (ships.getD j [])) y5 (by simp [execOp, Act.eval, go_sem, hnm, strV]) (fun _ => trivial) ?_
                simp only [Act.put, List.setIfInBounds_toArray, List.set_cons_zero, List.set_cons_succ]
                clear hnm
                refine tr_q (d := some 33) rfl rfl rfl (.pointer (some ⟨x, 1, none⟩)) (fun w => by go_simp) ?_
                simp only [Act.put, List.setIfInBounds_toArray, List.set_cons_zero, List.set_cons_succ]
                obtain ⟨y6, hnw⟩ : ∃ y, y = y5.setCell ⟨x, 1, none⟩ (strV (ships.getD j [])) := ⟨_, rfl⟩
                have hap : ApartR x y5 y6 := by rw [hnw]; exact (ApartR.refl x y5).setCell 1 _
                have hc := X_5.out.at 1 (v := strV nm) rfl
                have hf := X_5.out.2.2 1 (by simp [repC])
                have O_6 := Lib.hid (O_5.out.apart hap hxl hxb hxr)
                have X_6 : Hid (RowAt y6 x (repC (2 + k2) (ships.getD j []) t 0 0 0 0 (.slice none 0 0))) := by unfold Hid; rw [hnw]; exact X_5.out.set 1 (by simp [repC]) _
                have N_6 := Lib.hid (N_5.out.apart hap hYx)
                refine tr_skip (d := none) rfl rfl rfl y6 (by rw [hnw]; exact (by simp [execOp, Act.eval, go_sem, hc, hf, strV])) (fun _ => trivial) ?_
                simp only [Act.put, List.setIfInBounds_toArray, List.set_cons_zero, List.set_cons_succ]
                clear hap hnw
                refine tr_q (d := some 34) rfl rfl rfl (.pointer (some ⟨x, 3, none⟩)) (fun w => by go_simp) ?_
                simp only [Act.put, List.setIfInBounds_toArray, List.set_cons_zero, List.set_cons_succ]
                obtain ⟨y7, hnw⟩ : ∃ y, y = y6.setCells x 3 [.int .i64 pf, .int .i64 pp, .int .i64 pq, .int .i64 pr] := ⟨_, rfl⟩
                have hap : ApartR x y6 y7 := by rw [hnw]; exact apartR_setCells x _ 3 y6
                have O_7 := Lib.hid (O_6.out.apart hap hxl hxb hxr)
                have X_7 : Hid (RowAt y7 x (repC (2 + k2) (ships.getD j []) t pf pp pq pr (.slice none 0 0))) := by unfold Hid; rw [hnw]; exact row_mid4 X_6.out 3 (by simp [repC]) _ _ _ _
                have N_7 := Lib.hid (N_6.out.apart hap hYx)
                refine tr_skip (d := none) rfl rfl rfl y7 (by rw [hnw]; exact mid_store_run _ _ rfl x 3 rfl (repC (2 + k2) (ships.getD j []) t 0 0 0 0 (.slice none 0 0)) [.int .i64 pf, .int .i64 pp, .int .i64 pq, .int .i64 pr] rfl X_6.out (by simp [repC]) rowT_pl (List.all_eq_true.1 rfl)) (fun _ => trivial) ?_
                simp only [Act.put, List.setIfInBounds_toArray, List.set_cons_zero, List.set_cons_succ]
                clear hap hnw
                refine tr_end ?_
                exact ⟨rfl, 2 + k2, ships.getD j [], pf, pp, pq, pr, _, _, _, _, _, _, _, _, _, _, _, _, _, rfl, ships_len j, O_7.out, X_7.out⟩
          · refine tr_call (d := some 31) rfl rfl rfl ⟨_, Tryz.func30, by kernel_rfl, by kernel_rfl⟩ _ _ _ rfl rfl [.pointer (some ⟨b, 0, none⟩)] rfl (inner_ok B b y2 O_2.out.st.1) ?_
            rintro e y3 ⟨pf, pp, pq, pr, rfl, hs⟩
            have O_3 := Lib.hid (O_2.out.call hs)
            have X_3 := Lib.hid (X_2.out.but hs.2 hxb)
            clear hs
            refine ⟨_, rfl, fun _ => trivial, ?_⟩
            simp only [Act.put, List.setIfInBounds_toArray, List.set_cons_zero, List.set_cons_succ]
            refine tr_fork ?_ ?_
            · obtain ⟨y4, hnw⟩ : ∃ y, y = y3.alloc (.cells #[.string ⟨#[83, 72, 73, 80, 49]⟩, .string ⟨#[83, 72, 73, 80, 50]⟩, .string ⟨#[66, 85, 79, 89, 49]⟩] 9) := ⟨_, rfl⟩
              obtain ⟨Y, hY⟩ : ∃ x, x = y3.heap.size := ⟨_, rfl⟩
              have hb : Below y3.heap.size y3 y4 := by rw [hnw]; exact (Below.refl _ _).alloc (Nat.le_refl _) _
              have hs : St y3 B b y4 := ⟨O_3.out.st.1.below hb O_3.out.st.1.lt, But.of_below hb⟩
              have hYb : Y ≠ b := by have := O_3.out.lt; omega
              have hYx : Y ≠ x := by have := X_3.out.lt; omega
              have O_4 := Lib.hid (O_3.out.call hs)
              have X_4 := Lib.hid (X_3.out.but hs.2 hxb)
              have N0 : Hid (StrsAt y4 Y ships) := by unfold Hid; rw [hnw]; exact strs_lit _ ships rfl hY.symm
              refine tr_run (d := some 25) rfl rfl rfl (.slice (some ⟨Y, 0, none⟩) 3 3) y4 (by rw [hnw, hY]; simp [execOp, Act.eval, go_sem]) (fun _ => trivial) ?_
              simp only [Act.put, List.setIfInBounds_toArray, List.set_cons_zero, List.set_cons_succ]
              clear hs hb hnw hY
              refine tr_q (d := some 28) rfl rfl rfl (.pointer (some ⟨Y, j, none⟩)) (fun w => by simp [execOp, Act.eval, go_sem]; omega) ?_
              simp only [Act.put, List.setIfInBounds_toArray, List.set_cons_zero, List.set_cons_succ]
              refine tr_fork ?_ ?_
              · have hnm := N0.out.cell (i := j) (by simp [ships]; omega)
                refine tr_run (d := some 29) rfl rfl rfl (strV (ships.getD j [])) y4 (by simp [execOp, Act.eval, go_sem, hnm, strV]) (fun _ => trivial) ?_
                simp only [Act.put, List.setIfInBounds_toArray, List.set_cons_zero, List.set_cons_succ]
                clear hnm
                obtain ⟨y5, hnw⟩ : ∃ y, y = y4.setCell ⟨x, 0, none⟩ (.int .i64 (2 + k2)) := ⟨_, rfl⟩
                have hap : ApartR x y4 y5 := by rw [hnw]; exact (ApartR.refl x y4).setCell 0 _
                have hc := X_4.out.at 0 (v := .int .i64 1) rfl
                have hf := X_4.out.2.2 0 (by simp [repC])
                have O_5 := Lib.hid (O_4.out.apart hap hxl hxb hxr)
                have X_5 : Hid (RowAt y5 x (repC (2 + k2) nm t 0 0 0 0 (.slice none 0 0))) := by unfold Hid; rw [hnw]; exact X_4.out.set 0 (by simp [repC]) _
                have N_5 := Lib.hid (N0.out.apart hap hYx)
                refine tr_skip (d := none) rfl rfl rfl y5 (by rw [hnw]; exact (by simp [execOp, Act.eval, go_sem, hc, hf, strV])) (fun _ => trivial) ?_
                simp only [Act.put, List.setIfInBounds_toArray, List.set_cons_zero, List.set_cons_succ]
                clear hap hnw
                refine tr_q (d := some 33) rfl rfl rfl (.pointer (some ⟨x, 1, none⟩)) (fun w => by go_simp) ?_
                simp only [Act.put, List.setIfInBounds_toArray, List.set_cons_zero, List.set_cons_succ]
                obtain ⟨y6, hnw⟩ : ∃ y, y = y5.setCell ⟨x, 1, none⟩ (strV (ships.getD j [])) := ⟨_, rfl⟩
                have hap : ApartR x y5 y6 := by rw [hnw]; exact (ApartR.refl x y5).setCell 1 _
                have hc := X_5.out.at 1 (v := strV nm) rfl
                have hf := X_5.out.2.2 1 (by simp [repC])
                have O_6 := Lib.hid (O_5.out.apart hap hxl hxb hxr)
                have X_6 : Hid (RowAt y6 x (repC (2 + k2) (ships.getD j []) t 0 0 0 0 (.slice none 0 0))) := by unfold Hid; rw [hnw]; exact X_5.out.set 1 (by simp [repC]) _
                have N_6 := Lib.hid (N_5.out.apart hap hYx)
                refine tr_skip (d := none) rfl rfl rfl y6 (by rw [hnw]; exact (by simp [execOp, Act.eval, go_sem, hc, hf, strV])) (fun _ => trivial) ?_
                simp only [Act.put, List.setIfInBounds_toArray, List.set_cons_zero, List.set_cons_succ]
                clear hap hnw
                refine tr_q (d := some 34) rfl rfl rfl (.pointer (some ⟨x, 3, none⟩)) (fun w => by go_simp) ?_
                simp only [Act.put, List.setIfInBounds_toArray, List.set_cons_zero, List.set_cons_succ]
                obtain ⟨y7, hnw⟩ : ∃ y, y = y6.setCells x 3 [.int .i64 pf, .int .i64 pp, .int .i64 pq, .int .i64 pr] := ⟨_, rfl⟩
                have hap : ApartR x y6 y7 := by rw [hnw]; exact apartR_setCells x _ 3 y6
                have O_7 := Lib.hid (O_6.out.apart hap hxl hxb hxr)
                have X_7 : Hid (RowAt y7 x (repC (2 + k2) (ships.getD j []) t pf pp pq pr (.slice none 0 0))) := by unfold Hid; rw [hnw]; exact row_mid4 X_6.out 3 (by simp [repC]) _ _ _ _
                have N_7 := Lib.hid (N_6.out.apart hap hYx)
                refine tr_skip (d := none) rfl rfl rfl y7 (by rw [hnw]; exact mid_store_run _ _ rfl x 3 rfl (repC (2 + k2) (ships.getD j []) t 0 0 0 0 (.slice none 0 0)) [.int .i64 pf, .int .i64 pp, .int .i64 pq, .int .i64 pr] rfl X_6.out (by simp [repC]) rowT_pl (List.all_eq_true.1 rfl)) (fun _ => trivial) ?_
                simp only [Act.put, List.setIfInBounds_toArray, List.set_cons_zero, List.set_cons_succ]
                clear hap hnw
                refine tr_end ?_
                exact ⟨rfl, 2 + k2, ships.getD j [], pf, pp, pq, pr, _, _, _, _, _, _, _, _, _, _, _, _, _, rfl, ships_len j, O_7.out, X_7.out⟩
              · obtain ⟨y5, hnw⟩ : ∃ y, y = y4.setCell ⟨x, 0, none⟩ (.int .i64 (2 + k2)) := ⟨_, rfl⟩
                have hap : ApartR x y4 y5 := by rw [hnw]; exact (ApartR.refl x y4).setCell 0 _
                have hc := X_4.out.at 0 (v := .int .i64 1) rfl
                have hf := X_4.out.2.2 0 (by simp [repC])
                have O_5 := Lib.hid (O_4.out.apart hap hxl hxb hxr)
                have X_5 : Hid (RowAt y5 x (repC (2 + k2) nm t 0 0 0 0 (.slice none 0 0))) := by unfold Hid; rw [hnw]; exact X_4.out.set 0 (by simp [repC]) _
                have N_5 := Lib.hid (N0.out.apart hap hYx)
                refine tr_skip (d := none) rfl rfl rfl y5 (by rw [hnw]; exact (by simp [execOp, Act.eval, go_sem, hc, hf, strV])) (fun _ => trivial) ?_
                simp only [Act.put, List.setIfInBounds_toArray, List.set_cons_zero, List.set_cons_succ]
                clear hap hnw
                have hnm := N_5.out.cell (i := j) (by simp [ships]; omega)
                refine tr_run (d := some 29) rfl rfl rfl (strV (ships.getD j [])) y5 (by simp [execOp, Act.eval, go_sem, hnm, strV]) (fun _ => trivial) ?_
                simp only [Act.put, List.setIfInBounds_toArray, List.set_cons_zero, List.set_cons_succ]
                clear hnm
                refine tr_q (d := some 33) rfl rfl rfl (.pointer (some ⟨x, 1, none⟩)) (fun w => by go_simp) ?_
                simp only [Act.put, List.setIfInBounds_toArray, List.set_cons_zero, List.set_cons_succ]
                obtain ⟨y6, hnw⟩ : ∃ y, y = y5.setCell ⟨x, 1, none⟩ (strV (ships.getD j [])) := ⟨_, rfl⟩
                have hap : ApartR x y5 y6 := by rw [hnw]; exact (ApartR.refl x y5).setCell 1 _
                have hc := X_5.out.at 1 (v := strV nm) rfl
                have hf := X_5.out.2.2 1 (by simp [repC])
                have O_6 := Lib.hid (O_5.out.apart hap hxl hxb hxr)
                have X_6 : Hid (RowAt y6 x (repC (2 + k2) (ships.getD j []) t 0 0 0 0 (.slice none 0 0))) := by unfold Hid; rw [hnw]; exact X_5.out.set 1 (by simp [repC]) _
                have N_6 := Lib.hid (N_5.out.apart hap hYx)
                refine tr_skip (d := none) rfl rfl rfl y6 (by rw [hnw]; exact (by simp [execOp, Act.eval, go_sem, hc, hf, strV])) (fun _ => trivial) ?_
                simp only [Act.put, List.setIfInBounds_toArray, List.set_cons_zero, List.set_cons_succ]
                clear hap hnw
                refine tr_q (d := some 34) rfl rfl rfl (.pointer (some ⟨x, 3, none⟩)) (fun w => by go_simp) ?_
                simp only [Act.put, List.setIfInBounds_toArray, List.set_cons_zero, List.set_cons_succ]
                obtain ⟨y7, hnw⟩ : ∃ y, y = y6.setCells x 3 [.int .i64 pf, .int .i64 pp, .int .i64 pq, .int .i64 pr] := ⟨_, rfl⟩
                have hap : ApartR x y6 y7 := by rw [hnw]; exact apartR_setCells x _ 3 y6
                have O_7 := Lib.hid (O_6.out.apart hap hxl hxb hxr)
                have X_7 : Hid (RowAt y7 x (repC (2 + k2) (ships.getD j []) t pf pp pq pr (.slice none 0 0))) := by unfold Hid; rw [hnw]; exact row_mid4 X_6.out 3 (by simp [repC]) _ _ _ _
                have N_7 := Lib.hid (N_6.out.apart hap hYx)
                refine tr_skip (d := none) rfl rfl rfl y7 (by rw [hnw]; exact mid_store_run _ _ rfl x 3 rfl (repC (2 + k2) (ships.getD j []) t 0 0 0 0 (.slice none 0 0)) [.int .i64 pf, .int .i64 pp, .int .i64 pq, .int .i64 pr] rfl X_6.out (by simp [repC]) rowT_pl (List.all_eq_true.1 rfl)) (fun _ => trivial) ?_
                simp only [Act.put, List.setIfInBounds_toArray, List.set_cons_zero, List.set_cons_succ]
                clear hap hnw
                refine tr_end ?_
                exact ⟨rfl, 2 + k2, ships.getD j [], pf, pp, pq, pr, _, _, _, _, _, _, _, _, _, _, _, _, _, rfl, ships_len j, O_7.out, X_7.out⟩
            · obtain ⟨y4, hnw⟩ : ∃ y, y = y3.setCell ⟨x, 0, none⟩ (.int .i64 (2 + k2)) := ⟨_, rfl⟩
              have hap : ApartR x y3 y4 := by rw [hnw]; exact (ApartR.refl x y3).setCell 0 _
              have hc := X_3.out.at 0 (v := .int .i64 1) rfl
              have hf := X_3.out.2.2 0 (by simp [repC])
              have O_4 := Lib.hid (O_3.out.apart hap hxl hxb hxr)
              have X_4 : Hid (RowAt y4 x (repC (2 + k2) nm t 0 0 0 0 (.slice none 0 0))) := by unfold Hid; rw [hnw]; exact X_3.out.set 0 (by simp [repC]) _
              refine tr_skip (d := none) rfl rfl rfl y4 (by rw [hnw]; exact (by simp [execOp, Act.eval, go_sem, hc, hf, strV])) (fun _ => trivial) ?_
              simp only [Act.put, List.setIfInBounds_toArray, List.set_cons_zero, List.set_cons_succ]
              clear hap hnw
              obtain ⟨y5, hnw⟩ : ∃ y, y = y4.alloc (.cells #[.string ⟨#[83, 72, 73, 80, 49]⟩, .string ⟨#[83, 72, 73, 80, 50]⟩, .string ⟨#[66, 85, 79, 89, 49]⟩] 9) := ⟨_, rfl⟩
              obtain ⟨Y, hY⟩ : ∃ x, x = y4.heap.size := ⟨_, rfl⟩
              have hb : Below y4.heap.size y4 y5 := by rw [hnw]; exact (Below.refl _ _).alloc (Nat.le_refl _) _
              have hs : St y4 B b y5 := ⟨O_4.out.st.1.below hb O_4.out.st.1.lt, But.of_below hb⟩
              have hYb : Y ≠ b := by have := O_4.out.lt; omega
              have hYx : Y ≠ x := by have := X_4.out.lt; omega
              have O_5 := Lib.hid (O_4.out.call hs)
              have X_5 := Lib.hid (X_4.out.but hs.2 hxb)
              have N0 : Hid (StrsAt y5 Y ships) := by unfold Hid; rw [hnw]; exact strs_lit _ ships rfl hY.symm
              refine tr_run (d := some 25) rfl rfl rfl (.slice (some ⟨Y, 0, none⟩) 3 3) y5 (by rw [hnw, hY]; simp [execOp, Act.eval, go_sem]) (fun _ => trivial) ?_
              simp only [Act.put, List.setIfInBounds_toArray, List.set_cons_zero, List.set_cons_succ]
              clear hs hb hnw hY
              refine tr_q (d := some 28) rfl rfl rfl (.pointer (some ⟨Y, j, none⟩)) (fun w => by simp [execOp, Act.eval, go_sem]; omega) ?_
              simp only [Act.put, List.setIfInBounds_toArray, List.set_cons_zero, List.set_cons_succ]
              have hnm := N0.out.cell (i := j) (by simp [ships]; omega)
              refine tr_run (d := some 29) rfl rfl rfl (strV (ships.getD j [])) y5 (by simp [execOp, Act.eval, go_sem, hnm, strV]) (fun _ => trivial) ?_
              simp only [Act.put, List.setIfInBounds_toArray, List.set_cons_zero, List.set_cons_succ]
              clear hnm
              refine tr_q (d := some 33) rfl rfl rfl (.pointer (some ⟨x, 1, none⟩)) (fun w => by go_simp) ?_
              simp only [Act.put, List.setIfInBounds_toArray, List.set_cons_zero, List.set_cons_succ]
              obtain ⟨y6, hnw⟩ : ∃ y, y = y5.setCell ⟨x, 1, none⟩ (strV (ships.getD j [])) := ⟨_, rfl⟩
              have hap : ApartR x y5 y6 := by rw [hnw]; exact (ApartR.refl x y5).setCell 1 _
              have hc := X_5.out.at 1 (v := strV nm) rfl
              have hf := X_5.out.2.2 1 (by simp [repC])
              have O_6 := Lib.hid (O_5.out.apart hap hxl hxb hxr)
              have X_6 : Hid (RowAt y6 x (repC (2 + k2) (ships.getD j []) t 0 0 0 0 (.slice none 0 0))) := by unfold Hid; rw [hnw]; exact X_5.out.set 1 (by simp [repC]) _
              have N_6 := Lib.hid (N0.out.apart hap hYx)
              refine tr_skip (d := none) rfl rfl rfl y6 (by rw [hnw]; exact (by simp [execOp, Act.eval, go_sem, hc, hf, strV])) (fun _ => trivial) ?_
              simp only [Act.put, List.setIfInBounds_toArray, List.set_cons_zero, List.set_cons_succ]
              clear hap hnw
              refine tr_q (d := some 34) rfl rfl rfl (.pointer (some ⟨x, 3, none⟩)) (fun w => by go_simp) ?_
              simp only [Act.put, List.setIfInBounds_toArray, List.set_cons_zero, List.set_cons_succ]
              obtain ⟨y7, hnw⟩ : ∃ y, y = y6.setCells x 3 [.int .i64 pf, .int .i64 pp, .int .i64 pq, .int .i64 pr] := ⟨_, rfl⟩
              have hap : ApartR x y6 y7 := by rw [hnw]; exact apartR_setCells x _ 3 y6
              have O_7 := Lib.hid (O_6.out.apart hap hxl hxb hxr)
              have X_7 : Hid (RowAt y7 x (repC (2 + k2) (ships.getD j []) t pf pp pq pr (.slice none 0 0))) := by unfold Hid; rw [hnw]; exact row_mid4 X_6.out 3 (by simp [repC]) _ _ _ _
              have N_7 := Lib.hid (N_6.out.apart hap hYx)
              refine tr_skip (d := none) rfl rfl rfl y7 (by rw [hnw]; exact mid_store_run _ _ rfl x 3 rfl (repC (2 + k2) (ships.getD j []) t 0 0 0 0 (.slice none 0 0)) [.int .i64 pf, .int .i64 pp, .int .i64 pq, .int .i64 pr] rfl X_6.out (by simp [repC]) rowT_pl (List.all_eq_true.1 rfl)) (fun _ => trivial) ?_
              simp only [Act.put, List.setIfInBounds_toArray, List.set_cons_zero, List.set_cons_succ]
              clear hap hnw
              refine tr_end ?_
              exact ⟨rfl, 2 + k2, ships.getD j [], pf, pp, pq, pr, _, _, _, _, _, _, _, _, _, _, _, _, _, rfl, ships_len j, O_7.out, X_7.out⟩
      · obtain ⟨y1, hnw⟩ : ∃ y, y = W3.drew.alloc (.cells #[.string ⟨#[83, 72, 73, 80, 49]⟩, .string ⟨#[83, 72, 73, 80, 50]⟩, .string ⟨#[66, 85, 79, 89, 49]⟩] 9) := ⟨_, rfl⟩
        obtain ⟨Y, hY⟩ : ∃ x, x = W3.drew.heap.size := ⟨_, rfl⟩
        have hb : Below W3.drew.heap.size W3.drew y1 := by rw [hnw]; exact (Below.refl _ _).alloc (Nat.le_refl _) _
        have hs : St W3.drew B b y1 := ⟨O3.out.st.1.below hb O3.out.st.1.lt, But.of_below hb⟩
        have hYb : Y ≠ b := by have := O3.out.lt; omega
        have hYx : Y ≠ x := by have := X3.out.lt; omega
        have O_1 := Lib.hid (O3.out.call hs)
        have X_1 := Lib.hid (X3.out.but hs.2 hxb)
        have N0 : Hid (StrsAt y1 Y ships) := by unfold Hid; rw [hnw]; exact strs_lit _ ships rfl hY.symm
        refine tr_run (d := some 25) rfl rfl rfl (.slice (some ⟨Y, 0, none⟩) 3 3) y1 (by rw [hnw, hY]; simp [execOp, Act.eval, go_sem]) (fun _ => trivial) ?_
        simp only [Act.put, List.setIfInBounds_toArray, List.set_cons_zero, List.set_cons_succ]
        clear hs hb hnw hY
        refine tr_call (d := some 23) rfl rfl rfl ⟨_, Tryz.func7, by kernel_rfl, by kernel_rfl⟩ _ _ _ rfl rfl [.pointer (some ⟨b, 0, none⟩), .int .i64 2] rfl (next_ok B b 2 y1 O_1.out.st.1 (by omega) (by omega)) ?_
        rintro e y2 ⟨k2, k20, k21, rfl, hs⟩
        have O_2 := Lib.hid (O_1.out.call hs)
        have X_2 := Lib.hid (X_1.out.but hs.2 hxb)
        have N_2 := Lib.hid (N0.out.but hs.2 hYb)
        clear hs
        refine ⟨_, rfl, fun _ => trivial, ?_⟩
        simp only [Act.put, List.setIfInBounds_toArray, List.set_cons_zero, List.set_cons_succ]
        refine tr_q (d := some 24) rfl rfl rfl (.int .i64 (2 + k2)) (fun w => by simp [execOp, Act.eval, go_sem, show IntKind.i64.wrap (2 + k2) = 2 + k2 from IntWalk.i64_in _ (by omega)]) ?_
        simp only [Act.put, List.setIfInBounds_toArray, List.set_cons_zero, List.set_cons_succ]
        refine tr_q (d := some 32) rfl rfl rfl (.pointer (some ⟨x, 0, none⟩)) (fun w => by go_simp) ?_
        simp only [Act.put, List.setIfInBounds_toArray, List.set_cons_zero, List.set_cons_succ]
        refine tr_call (d := some 27) rfl rfl rfl ⟨_, Tryz.func7, by kernel_rfl, by kernel_rfl⟩ _ _ _ rfl rfl [.pointer (some ⟨b, 0, none⟩), .int .i64 3] rfl (next_ok B b 3 y2 O_2.out.st.1 (by omega) (by omega)) ?_
        rintro e y3 ⟨x, x0, x1, rfl, hs⟩
        obtain ⟨j, rfl⟩ := Int.eq_ofNat_of_zero_le x0
        have O_3 := Lib.hid (O_2.out.call hs)
        have X_3 := Lib.hid (X_2.out.but hs.2 hxb)
        have N_3 := Lib.hid (N_2.out.but hs.2 hYb)
        clear hs
        refine ⟨_, rfl, fun _ => trivial, ?_⟩
        simp only [Act.put, List.setIfInBounds_toArray, List.set_cons_zero, List.set_cons_succ]
        refine tr_q (d := some 28) rfl rfl rfl (.pointer (some ⟨Y, j, none⟩)) (fun w => by simp [execOp, Act.eval, go_sem]; omega) ?_
        simp only [Act.put, List.setIfInBounds_toArray, List.set_cons_zero, List.set_cons_succ]
        refine tr_fork ?_ ?_
        · have hnm := N_3.out.cell (i := j) (by simp [ships]; omega)
          refine tr_run (d := some 29) rfl rfl rfl (strV (ships.getD j [])) y3 (by simp [execOp, Act.eval, go_sem, hnm, strV]) (fun _ => trivial) ?_
          simp only [Act.put, List.setIfInBounds_toArray, List.set_cons_zero, List.set_cons_succ]
          clear hnm
          refine tr_call (d := some 31) rfl rfl rfl ⟨_, Tryz.func30, by kernel_rfl, by kernel_rfl⟩ _ _ _ rfl rfl [.pointer (some ⟨b, 0, none⟩)] rfl (inner_ok B b y3 O_3.out.st.1) ?_
          rintro e y4 ⟨pf, pp, pq, pr, rfl, hs⟩
          have O_4 := Lib.hid (O_3.out.call hs)
          have X_4 := Lib.hid (X_3.out.but hs.2 hxb)
          have N_4 := Lib.hid (N_3.out.but hs.2 hYb)
          clear hs
          refine ⟨_, rfl, fun _ => trivial, ?_⟩
          simp only [Act.put, List.setIfInBounds_toArray, List.set_cons_zero, List.set_cons_succ]
          obtain ⟨y5, hnw⟩ : ∃ y, y = y4.setCell ⟨x, 0, none⟩ (.int .i64 (2 + k2)) := ⟨_, rfl⟩
          have hap : ApartR x y4 y5 := by rw [hnw]; exact (ApartR.refl x y4).setCell 0 _
          have hc := X_4.out.at 0 (v := .int .i64 1) rfl
          have hf := X_4.out.2.2 0 (by simp [repC])
          have O_5 := Lib.hid (O_4.out.apart hap hxl hxb hxr)
          have X_5 : Hid (RowAt y5 x (repC (2 + k2) nm t 0 0 0 0 (.slice none 0 0))) := by unfold Hid; rw [hnw]; exact X_4.out.set 0 (by simp [repC]) _
          have N_5 := Lib.hid (N_4.out.apart hap hYx)
          refine tr_skip (d := none) rfl rfl rfl y5 (by rw [hnw]; exact (by simp [execOp, Act.eval, go_sem, hc, hf, strV])) (fun _ => trivial) ?_
          simp only [Act.put, List.setIfInBounds_toArray, List.set_cons_zero, List.set_cons_succ]
          clear hap hnw
          refine tr_q (d := some 33) rfl rfl rfl (.pointer (some ⟨x, 1, none⟩)) (fun w => by go_simp) ?_
          simp only [Act.put, List.setIfInBounds_toArray, List.set_cons_zero, List.set_cons_succ]
          obtain ⟨y6, hnw⟩ : ∃ y, y = y5.setCell ⟨x, 1, none⟩ (strV (ships.getD j [])) := ⟨_, rfl⟩
          have hap : ApartR x y5 y6 := by rw [hnw]; exact (ApartR.refl x y5).setCell 1 _
          have hc := X_5.out.at 1 (v := strV nm) rfl
          have hf := X_5.out.2.2 1 (by simp [repC])
          have O_6 := Lib.hid (O_5.out.apart hap hxl hxb hxr)
          have X_6 : Hid (RowAt y6 x (repC (2 + k2) (ships.getD j []) t 0 0 0 0 (.slice none 0 0))) := by unfold Hid; rw [hnw]; exact X_5.out.set 1 (by simp [repC]) _
          have N_6 := Lib.hid (N_5.out.apart hap hYx)
          refine tr_skip (d := none) rfl rfl rfl y6 (by rw [hnw]; exact (by simp [execOp, Act.eval, go_sem, hc, hf, strV])) (fun _ => trivial) ?_
          simp only [Act.put, List.setIfInBounds_toArray, List.set_cons_zero, List.set_cons_succ]
          clear hap hnw
          refine tr_q (d := some 34) rfl rfl rfl (.pointer (some ⟨x, 3, none⟩)) (fun w => by go_simp) ?_
          simp only [Act.put, List.setIfInBounds_toArray, List.set_cons_zero, List.set_cons_succ]
          obtain ⟨y7, hnw⟩ : ∃ y, y = y6.setCells x 3 [.int .i64 pf, .int .i64 pp, .int .i64 pq, .int .i64 pr] := ⟨_, rfl⟩
          have hap : ApartR x y6 y7 := by rw [hnw]; exact apartR_setCells x _ 3 y6
          have O_7 := Lib.hid (O_6.out.apart hap hxl hxb hxr)
          have X_7 : Hid (RowAt y7 x (repC (2 + k2) (ships.getD j []) t pf pp pq pr (.slice none 0 0))) := by unfold Hid; rw [hnw]; exact row_mid4 X_6.out 3 (by simp [repC]) _ _ _ _
          have N_7 := Lib.hid (N_6.out.apart hap hYx)
          refine tr_skip (d := none) rfl rfl rfl y7 (by rw [hnw]; exact mid_store_run _ _ rfl x 3 rfl (repC (2 + k2) (ships.getD j []) t 0 0 0 0 (.slice none 0 0)) [.int .i64 pf, .int .i64 pp, .int .i64 pq, .int .i64 pr] rfl X_6.out (by simp [repC]) rowT_pl (List.all_eq_true.1 rfl)) (fun _ => trivial) ?_
          simp only [Act.put, List.setIfInBounds_toArray, List.set_cons_zero, List.set_cons_succ]
          clear hap hnw
          refine tr_end ?_
          exact ⟨rfl, 2 + k2, ships.getD j [], pf, pp, pq, pr, _, _, _, _, _, _, _, _, _, _, _, _, _, rfl, ships_len j, O_7.out, X_7.out⟩
        · refine tr_call (d := some 31) rfl rfl rfl ⟨_, Tryz.func30, by kernel_rfl, by kernel_rfl⟩ _ _ _ rfl rfl [.pointer (some ⟨b, 0, none⟩)] rfl (inner_ok B b y3 O_3.out.st.1) ?_
          rintro e y4 ⟨pf, pp, pq, pr, rfl, hs⟩
          have O_4 := Lib.hid (O_3.out.call hs)
          have X_4 := Lib.hid (X_3.out.but hs.2 hxb)
          have N_4 := Lib.hid (N_3.out.but hs.2 hYb)
          clear hs
          refine ⟨_, rfl, fun _ => trivial, ?_⟩
          simp only [Act.put, List.setIfInBounds_toArray, List.set_cons_zero, List.set_cons_succ]
          refine tr_fork ?_ ?_
          · have hnm := N_4.out.cell (i := j) (by simp [ships]; omega)
            refine tr_run (d := some 29) rfl rfl rfl (strV (ships.getD j [])) y4 (by simp [execOp, Act.eval, go_sem, hnm, strV]) (fun _ => trivial) ?_
            simp only [Act.put, List.setIfInBounds_toArray, List.set_cons_zero, List.set_cons_succ]
            clear hnm
            obtain ⟨y5, hnw⟩ : ∃ y, y = y4.setCell ⟨x, 0, none⟩ (.int .i64 (2 + k2)) := ⟨_, rfl⟩
            have hap : ApartR x y4 y5 := by rw [hnw]; exact (ApartR.refl x y4).setCell 0 _
            have hc := X_4.out.at 0 (v := .int .i64 1) rfl
            have hf := X_4.out.2.2 0 (by simp [repC])
            have O_5 := Lib.hid (O_4.out.apart hap hxl hxb hxr)
            have X_5 : Hid (RowAt y5 x (repC (2 + k2) nm t 0 0 0 0 (.slice none 0 0))) := by unfold Hid; rw [hnw]; exact X_4.out.set 0 (by simp [repC]) _
            have N_5 := Lib.hid (N_4.out.apart hap hYx)
            refine tr_skip (d := none) rfl rfl rfl y5 (by rw [hnw]; exact (by simp [execOp, Act.eval, go_sem, hc, hf, strV])) (fun _ => trivial) ?_
            simp only [Act.put, List.setIfInBounds_toArray, List.set_cons_zero, List.set_cons_succ]
            clear hap hnw
            refine tr_q (d := some 33) rfl rfl rfl (.pointer (some ⟨x, 1, none⟩)) (fun w => by go_simp) ?_
            simp only [Act.put, List.setIfInBounds_toArray, List.set_cons_zero, List.set_cons_succ]
            obtain ⟨y6, hnw⟩ : ∃ y, y = y5.setCell ⟨x, 1, none⟩ (strV (ships.getD j [])) := ⟨_, rfl⟩
            have hap : ApartR x y5 y6 := by rw [hnw]; exact (ApartR.refl x y5).setCell 1 _
            have hc := X_5.out.at 1 (v := strV nm) rfl
            have hf := X_5.out.2.2 1 (by simp [repC])
            have O_6 := Lib.hid (O_5.out.apart hap hxl hxb hxr)
            have X_6 : Hid (RowAt y6 x (repC (2 + k2) (ships.getD j []) t 0 0 0 0 (.slice none 0 0))) := by unfold Hid; rw [hnw]; exact X_5.out.set 1 (by simp [repC]) _
            have N_6 := Lib.hid (N_5.out.apart hap hYx)
            refine tr_skip (d := none) rfl rfl rfl y6 (by rw [hnw]; exact (by simp [execOp, Act.eval, go_sem, hc, hf, strV])) (fun _ => trivial) ?_
            simp only [Act.put, List.setIfInBounds_toArray, List.set_cons_zero, List.set_cons_succ]
            clear hap hnw
            refine tr_q (d := some 34) rfl rfl rfl (.pointer (some ⟨x, 3, none⟩)) (fun w => by go_simp) ?_
            simp only [Act.put, List.setIfInBounds_toArray, List.set_cons_zero, List.set_cons_succ]
            obtain ⟨y7, hnw⟩ : ∃ y, y = y6.setCells x 3 [.int .i64 pf, .int .i64 pp, .int .i64 pq, .int .i64 pr] := ⟨_, rfl⟩
            have hap : ApartR x y6 y7 := by rw [hnw]; exact apartR_setCells x _ 3 y6
            have O_7 := Lib.hid (O_6.out.apart hap hxl hxb hxr)
            have X_7 : Hid (RowAt y7 x (repC (2 + k2) (ships.getD j []) t pf pp pq pr (.slice none 0 0))) := by unfold Hid; rw [hnw]; exact row_mid4 X_6.out 3 (by simp [repC]) _ _ _ _
            have N_7 := Lib.hid (N_6.out.apart hap hYx)
            refine tr_skip (d := none) rfl rfl rfl y7 (by rw [hnw]; exact mid_store_run _ _ rfl x 3 rfl (repC (2 + k2) (ships.getD j []) t 0 0 0 0 (.slice none 0 0)) [.int .i64 pf, .int .i64 pp, .int .i64 pq, .int .i64 pr] rfl X_6.out (by simp [repC]) rowT_pl (List.all_eq_true.1 rfl)) (fun _ => trivial) ?_
            simp only [Act.put, List.setIfInBounds_toArray, List.set_cons_zero, List.set_cons_succ]
            clear hap hnw
            refine tr_end ?_
            exact ⟨rfl, 2 + k2, ships.getD j [], pf, pp, pq, pr, _, _, _, _, _, _, _, _, _, _, _, _, _, rfl, ships_len j, O_7.out, X_7.out⟩
          · obtain ⟨y5, hnw⟩ : ∃ y, y = y4.setCell ⟨x, 0, none⟩ (.int .i64 (2 + k2)) := ⟨_, rfl⟩
            have hap : ApartR x y4 y5 := by rw [hnw]; exact (ApartR.refl x y4).setCell 0 _
            have hc := X_4.out.at 0 (v := .int .i64 1) rfl
            have hf := X_4.out.2.2 0 (by simp [repC])
            have O_5 := Lib.hid (O_4.out.apart hap hxl hxb hxr)
            have X_5 : Hid (RowAt y5 x (repC (2 + k2) nm t 0 0 0 0 (.slice none 0 0))) := by unfold Hid; rw [hnw]; exact X_4.out.set 0 (by simp [repC]) _
            have N_5 := Lib.hid (N_4.out.apart hap hYx)
            refine tr_skip (d := none) rfl rfl rfl y5 (by rw [hnw]; exact (by simp [execOp, Act.eval, go_sem, hc, hf, strV])) (fun _ => trivial) ?_
            simp only [Act.put, List.setIfInBounds_toArray, List.set_cons_zero, List.set_cons_succ]
            clear hap hnw
            have hnm := N_5.out.cell (i := j) (by simp [ships]; omega)
            refine tr_run (d := some 29) rfl rfl rfl (strV (ships.getD j [])) y5 (by simp [execOp, Act.eval, go_sem, hnm, strV]) (fun _ => trivial) ?_
            simp only [Act.put, List.setIfInBounds_toArray, List.set_cons_zero, List.set_cons_succ]
            clear hnm
            refine tr_q (d := some 33) rfl rfl rfl (.pointer (some ⟨x, 1, none⟩)) (fun w => by go_simp) ?_
            simp only [Act.put, List.setIfInBounds_toArray, List.set_cons_zero, List.set_cons_succ]
            obtain ⟨y6, hnw⟩ : ∃ y, y = y5.setCell ⟨x, 1, none⟩ (strV (ships.getD j [])) := ⟨_, rfl⟩
            have hap : ApartR x y5 y6 := by rw [hnw]; exact (ApartR.refl x y5).setCell 1 _
            have hc := X_5.out.at 1 (v := strV nm) rfl
            have hf := X_5.out.2.2 1 (by simp [repC])
            have O_6 := Lib.hid (O_5.out.apart hap hxl hxb hxr)
            have X_6 : Hid (RowAt y6 x (repC (2 + k2) (ships.getD j []) t 0 0 0 0 (.slice none 0 0))) := by unfold Hid; rw [hnw]; exact X_5.out.set 1 (by simp [repC]) _
            have N_6 := Lib.hid (N_5.out.apart hap hYx)
            refine tr_skip (d := none) rfl rfl rfl y6 (by rw [hnw]; exact (by simp [execOp, Act.eval, go_sem, hc, hf, strV])) (fun _ => trivial) ?_
            simp only [Act.put, List.setIfInBounds_toArray, List.set_cons_zero, List.set_cons_succ]
            clear hap hnw
            refine tr_q (d := some 34) rfl rfl rfl (.pointer (some ⟨x, 3, none⟩)) (fun w => by go_simp) ?_
            simp only [Act.put, List.setIfInBounds_toArray, List.set_cons_zero, List.set_cons_succ]
            obtain ⟨y7, hnw⟩ : ∃ y, y = y6.setCells x 3 [.int .i64 pf, .int .i64 pp, .int .i64 pq, .int .i64 pr] := ⟨_, rfl⟩
            have hap : ApartR x y6 y7 := by rw [hnw]; exact apartR_setCells x _ 3 y6
            have O_7 := Lib.hid (O_6.out.apart hap hxl hxb hxr)
            have X_7 : Hid (RowAt y7 x (repC (2 + k2) (ships.getD j []) t pf pp pq pr (.slice none 0 0))) := by unfold Hid; rw [hnw]; exact row_mid4 X_6.out 3 (by simp [repC]) _ _ _ _
            have N_7 := Lib.hid (N_6.out.apart hap hYx)
            refine tr_skip (d := none) rfl rfl rfl y7 (by rw [hnw]; exact mid_store_run _ _ rfl x 3 rfl (repC (2 + k2) (ships.getD j []) t 0 0 0 0 (.slice none 0 0)) [.int .i64 pf, .int .i64 pp, .int .i64 pq, .int .i64 pr] rfl X_6.out (by simp [repC]) rowT_pl (List.all_eq_true.1 rfl)) (fun _ => trivial) ?_
            simp only [Act.put, List.setIfInBounds_toArray, List.set_cons_zero, List.set_cons_succ]
            clear hap hnw
            refine tr_end ?_
            exact ⟨rfl, 2 + k2, ships.getD j [], pf, pp, pq, pr, _, _, _, _, _, _, _, _, _, _, _, _, _, rfl, ships_len j, O_7.out, X_7.out⟩
    rintro a W4 ⟨kk, nn, pf, pp, pq, pr, u22, u23, u24, u25, u26, u27, u28, u29, u30, u31, u32, u33, u34, rfl, hnn, hO, hX⟩
    have HO4 := Lib.hid hO
    have HX4 := Lib.hid hX
    clear hO hX O3 X3 hnm nm
  case' inr =>
    have hz0 : (z == 8) = false := by simpa using hz
    have HO4 := O3a
    have HX4 := X3a
    have hnn := hnm
    generalize nm = nn at *
    generalize W3 = W4 at *
    clear O3a X3a hz hnm
  all_goals
    try dsimp only
    obtain ⟨kk, pf, pp, pq, pr, hXX⟩ : ∃ kk pf pp pq pr, RowAt W4 x (repC kk nn t pf pp pq pr (.slice none 0 0)) := ⟨_, _, _, _, _, HX4.out⟩
    have HX4 := Lib.hid hXX
    clear hXX
    go_wp2_with fail
    refine (next_ok B b 60 W4 HO4.out.st.1 (by omega) (by omega)).mono ?_
    rintro e W5 ⟨y1, y10, y11, rfl, hs⟩
    have HO5 := Lib.hid (HO4.out.call hs)
    have HX5 := Lib.hid (HX4.out.but hs.2 hxb)
    clear hs HO4 HX4
    go_wp2_with fail
    refine (next_ok B b 9 W5 HO5.out.st.1 (by omega) (by omega)).mono ?_
    rintro e W6 ⟨y2, y20, y21, rfl, hs⟩
    have HO6 := Lib.hid (HO5.out.call hs)
    have HX6 := Lib.hid (HX5.out.but hs.2 hxb)
    clear hs HO5 HX5
    have f7 : W6.frozen? ⟨x, 7, none⟩ = false := HX6.out.2.2 7 (by simp [repC])
    have c7 : W6.cell? ⟨x, 7, none⟩ = some (.slice none 0 0) := HX6.out.at 7 rfl
    have hxW : x < W6.heap.size := HX6.out.lt
    have hq0 : 0 ≤ y2 / 8 ∧ y2 / 8 ≤ 1 := by omega
    go_wp2_with fail
    have hrW : r < W6.heap.size := HO6.out.row.lt
    have hbW : b < W6.heap.size := HO6.out.lt
    have hsz : ∀ v, (W6.setCell ⟨x, 7, none⟩ v).heap.size = W6.heap.size := fun v => by simp [World.setCell]
    have hap : ∀ v, ApartR x W6 (W6.setCell ⟨x, 7, none⟩ v) := fun v => (ApartR.refl x W6).setCell 7 v
    obtain ⟨H, hH⟩ : ∃ H, H = W6.heap.size := ⟨_, rfl⟩
    obtain ⟨v1, hv1⟩ : ∃ v1, v1 = 10000 + y1 - 30 + 300 * (y2 / 8) := ⟨_, rfl⟩
    rw [← hH, ← hv1]
    have hI1 : I64 v1 := by rw [hv1]; unfold I64; omega
    have HO7 : Hid (OB w B b r ((W6.setCell ⟨x, 7, none⟩ (.slice (some ⟨H, 0, none⟩) 1 1)).alloc (.cells #[.int .i64 1, .int .i64 v1] 78))) :=
      (HO6.out.apart (hap _) hxl hxb hxr).new ((Below.refl _ _).alloc (Nat.le_refl _) _)
    have HX7 := Lib.hid ((HX6.out.set 7 (by simp [repC]) (.slice (some ⟨H, 0, none⟩) 1 1)).alloc (.cells #[.int .i64 1, .int .i64 v1] 78))
    simp only [repC, List.set_cons_succ, List.set_cons_zero] at HX7
    have HR7 : Hid (OwnR ((W6.setCell ⟨x, 7, none⟩ (.slice (some ⟨H, 0, none⟩) 1 1)).alloc (.cells #[.int .i64 1, .int .i64 v1] 78)) H (.slice (some ⟨H, 0, none⟩) 1 1) [(1, v1)]) := by
      have h1 := World.ownsRow_lit (base := H) (e := 78) (size := 2) (W6.setCell ⟨x, 7, none⟩ (.slice (some ⟨H, 0, none⟩) 1 1)) #[.int .i64 1, .int .i64 v1] 1 (by rw [hsz, hH]; exact Nat.le_refl _) (by decide) rfl
      rw [hsz, ← hH] at h1
      exact h1
    rw [← hH] at hxW hrW hbW
    have hHW : H ≤ ((W6.setCell ⟨x, 7, none⟩ (.slice (some ⟨H, 0, none⟩) 1 1)).alloc (.cells #[.int .i64 1, .int .i64 v1] 78)).heap.size := by simp [hsz, ← hH]
    generalize (W6.setCell ⟨x, 7, none⟩ (.slice (some ⟨H, 0, none⟩) 1 1)).alloc _ = W7 at HO7 HX7 HR7 hHW ⊢
    clear HO6 HX6 f7 c7 hsz hap hH hv1
    refine (next_ok B b 3 W7 HO7.out.st.1 (by omega) (by omega)).mono ?_
    rintro e W8 ⟨s3, s30, s31, rfl, hs⟩
    have HO8 := Lib.hid (HO7.out.call hs)
    have HX8 := Lib.hid (HX7.out.but hs.2 hxb)
    have HR8 := Lib.hid (ownsRow_but HR7.out hs.2 hbW)
    have HH8 : Hid (H ≤ W8.heap.size) := Nat.le_trans hHW hs.2.size
    clear hs HO7 HX7 HR7 hHW
    rcases (show s3 = 2 ∨ s3 ≠ 2 by omega) with h3 | h3
    case' inl =>
      subst h3
      go_wp2_with fail
      have HO8d := Lib.hid (HO8.out.new (Below.refl W8.heap.size W8).drew)
      have HX8d := Lib.hid (HX8.out.below (Below.refl W8.heap.size W8).drew)
      have HR8d := Lib.hid (ownsRow_below HR8.out (Below.refl W8.heap.size W8).drew)
      refine wp_region_seqL (by kernel_rfl) (fun w' => RowAt w' x (repC kk nn t pf pp pq pr (.slice (some ⟨H, 0, none⟩) 1 1))) 9 [(0, 0), (1, 1), (2, 0), (3, 2), (4, 0), (5, 0), (6, 2), (7, 2), (8, 0), (9, 2)] (by kernel_rfl) (HX8d.out) ?_
      refine sl_q (d := some 50) rfl rfl rfl (.pointer (some ⟨x, 7, none⟩)) (fun w => by go_simp) ?_
      simp only [Act.put, List.setIfInBounds_toArray, List.set_cons_zero, List.set_cons_succ]
      refine sl_s (d := some 51) rfl rfl rfl (.slice (some ⟨H, 0, none⟩) 1 1) (fun w hw => by have h := hw.at 7 rfl; simp [execOp, Act.eval, go_sem, h]) ?_
      simp only [Act.put, List.setIfInBounds_toArray, List.set_cons_zero, List.set_cons_succ]
      refine sl_q (d := some 52) rfl rfl rfl (.pointer (some ⟨b, 0, none⟩)) (fun w => rfl) ?_
      simp only [Act.put, List.setIfInBounds_toArray, List.set_cons_zero, List.set_cons_succ]
      refine sl_call (d := some 53) rfl rfl rfl ⟨_, Tryz.func7, by kernel_rfl, by kernel_rfl⟩ _ _ _ rfl rfl [.pointer (some ⟨b, 0, none⟩), .int .i64 250] rfl (next_ok B b 250 W8.drew HO8d.out.st.1 (by omega) (by omega)) ?_
      rintro e W9 ⟨y3, y30, y31, rfl, hs⟩
      have HO9 := Lib.hid (HO8d.out.call hs)
      have HX9 := Lib.hid (HX8d.out.but hs.2 hxb)
      have HR9 := Lib.hid (ownsRow_but HR8d.out hs.2 hbW)
      have HH9 : Hid (H ≤ W9.heap.size) := Nat.le_trans HH8.out hs.2.size
      refine ⟨_, rfl, fun _ => HX9.out, ?_⟩
      simp only [Act.put, List.setIfInBounds_toArray, List.set_cons_zero, List.set_cons_succ]
      clear hs HO8d HX8d HR8d
      refine sl_q (d := some 54) rfl rfl rfl (.int .i64 (2700 + y3)) (fun w => by simp [execOp, Act.eval, go_sem, show IntKind.i64.wrap (2700 + y3) = 2700 + y3 from IntWalk.i64_in _ (by omega)]) ?_
      simp only [Act.put, List.setIfInBounds_toArray, List.set_cons_zero, List.set_cons_succ]
      refine sl_q (d := some 55) rfl rfl rfl (.agg #[.int .i64 2, .int .i64 (2700 + y3)]) (fun w => by simp [execOp, Act.eval, Instr.build, go_sem]) ?_
      simp only [Act.put, List.setIfInBounds_toArray, List.set_cons_zero, List.set_cons_succ]
      refine sl_run (d := some 56) rfl rfl rfl (.slice (some ⟨W9.heap.size, 0, none⟩) 1 1) (W9.alloc (.cells #[.int .i64 2, .int .i64 (2700 + y3)] 78)) (by simp [execOp, Act.eval, go_sem]) (fun _ => HX9.out.below ((Below.refl _ _).alloc (Nat.le_refl _) _)) ?_
      simp only [Act.put, List.setIfInBounds_toArray, List.set_cons_zero, List.set_cons_succ]
      obtain ⟨vz, Wa, hrun, hRa, hBa⟩ := append_rd (l := [(1, v1)]) HR9.out (2, 2700 + y3) (by simp) HH9.out 27
      have HXa : Hid (RowAt Wa x (repC kk nn t pf pp pq pr (.slice (some ⟨H, 0, none⟩) 1 1))) := HX9.out.of_block (hBa.block x hxW)
      have HOa : Hid (OB w B b r Wa) := ⟨HO9.out.st.grown hBa hbW (by have := HO9.out.lr; omega), HO9.out.row.of_block (hBa.block r hrW), HO9.out.nr, HO9.out.lr, HO9.out.bb, HO9.out.hB⟩
      have HRa := Lib.hid hRa
      obtain ⟨za, zc, hz9, _, _⟩ := OwnR.pairs hRa
      have hxWa : x < Wa.heap.size := HXa.out.lt
      have hca := HXa.out.at 7 (v := .slice (some ⟨H, 0, none⟩) 1 1) rfl
      have hfa : Wa.frozen? ⟨x, 7, none⟩ = false := HXa.out.2.2 7 (by simp [repC])
      refine sl_run (d := some 57) rfl rfl rfl vz Wa (run_append _ _ _ rfl _ _ rfl rfl hrun) (fun _ => HXa.out) ?_
      simp only [Act.put, List.setIfInBounds_toArray, List.set_cons_zero, List.set_cons_succ]
      clear hrun hRa hBa HO9 HX9 HR9 HH9
      refine sl_q (d := some 58) rfl rfl rfl (.pointer (some ⟨x, 7, none⟩)) (fun w => by go_simp) ?_
      simp only [Act.put, List.setIfInBounds_toArray, List.set_cons_zero, List.set_cons_succ]
      obtain ⟨Wz, hWz⟩ : ∃ y, y = Wa.setCell ⟨x, 7, none⟩ vz := ⟨_, rfl⟩
      have hapz : ApartR x Wa Wz := by rw [hWz]; exact (ApartR.refl x Wa).setCell 7 _
      have HOz := Lib.hid (HOa.out.apart hapz hxl hxb hxr)
      have HXz : Hid (RowAt Wz x (repC kk nn t pf pp pq pr vz)) := by unfold Hid; rw [hWz]; exact HXa.out.set 7 (by simp [repC]) vz
      have HRy : Hid (OwnR Wz H vz ([(1, v1)] ++ [(2, 2700 + y3)])) := ownsRow_of_same HRa.out (fun k hk _ => hapz.2.2.2.2 k (by omega))
      refine sl_skip (d := none) rfl rfl rfl Wz (by rw [hWz]; simp [execOp, Act.eval, go_sem, hca, hfa, hz9]) (fun h => by cases h) ?_
      simp only [Act.put, List.setIfInBounds_toArray, List.set_cons_zero, List.set_cons_succ]
      clear hca hfa hapz hWz HOa HXa HRa
      refine sl_end ?_
      have HRz : Hid (∃ l : List (Int × Int), OwnR Wz H vz l ∧ l.length ≤ 2 ∧ ∀ x ∈ l, I64 x.1 ∧ I64 x.2) := ⟨_, HRy.out, by simp, fun x hx => by simp at hx; rcases hx with rfl | rfl <;> exact ⟨by unfold I64; simp, by first | exact hI1 | (unfold I64; omega)⟩⟩
      clear HRy
    case' inr =>
      have h30 : (s3 == 2) = false := by simpa using h3
      have HOz := Lib.hid HO8.out
      have HXz := Lib.hid HX8.out
      have HRz : Hid (∃ l : List (Int × Int), OwnR W8 H (.slice (some ⟨H, 0, none⟩) 1 1) l ∧ l.length ≤ 2 ∧ ∀ x ∈ l, I64 x.1 ∧ I64 x.2) := ⟨_, HR8.out, by simp, fun x hx => by simp at hx; subst hx; exact ⟨by unfold I64; simp, hI1⟩⟩
      obtain ⟨vz, hvz⟩ : ∃ vz, vz = Value.slice (some ⟨H, 0, none⟩) 1 1 := ⟨_, rfl⟩
      rw [← hvz] at HXz HRz
      clear hvz
      obtain ⟨Wz, hWz⟩ : ∃ Wz, Wz = W8 := ⟨_, rfl⟩
      rw [← hWz] at HOz HXz HRz ⊢
      clear hWz
    all_goals
      clear HO8 HX8 HR8 HH8
      obtain ⟨l, hl1, hl2, hl3⟩ := HRz.out
      obtain ⟨va, vc, hvz, hPz, hgz⟩ := OwnR.pairs hl1
      have hvz1 : vz.oneCell' = true := by rw [hvz]; rfl
      have HPz := Lib.hid hPz
      go_wp2_with (first
        | ((first | with_reducible refine gate_ld ?_ | with_reducible refine gate_ldw ?_)
           refine row_load rfl _ rfl x rfl (repC kk nn t pf pp pq pr vz) HXz.out rowT_rep ?_)
        | ((first | with_reducible refine gate_st ?_ | with_reducible refine gate_stw ?_)
           refine row_store rfl _ _ rfl r rfl Z8 (repC kk nn t pf pp pq pr vz) rfl HOz.out.row rfl rowT_rep (by rw [hvz]; exact List.all_eq_true.1 rfl) ?_
           intro wz HRow Hap)
        | fail)
      subst hvz
      refine ret_row rfl _ _ HRow rowT_rep rfl rfl ⟨kk, nn, t, pf, pp, pq, pr, va, l.length, vc, l, rfl, hnn, hl2, hl3, ?_, fun g hg => by have := hgz g hg; omega, HOz.out.st.apart Hap HOz.out.lr HOz.out.nr (by have := HOz.out.hB; have := HOz.out.bb; have := HOz.out.lr; omega)⟩
      have hl9 := HPz.out
      have hsz9 := Hap.2.2.2.1
      rcases hl9 with ⟨a, c, e1, e2⟩ | ⟨bb, off, cap, e1, hb1, hc1⟩
      · exact .inl ⟨a, c, e1, e2⟩
      · refine .inr ⟨bb, off, cap, e1, by omega, fun j hj => ?_⟩
        have hbr : bb ≠ r := by
          have := hgz bb (by rw [e1]; rfl)
          omega
        have e0 : ∀ o, wz.cell? ⟨bb, o, none⟩ = Wz.cell? ⟨bb, o, none⟩ := fun o => World.cell?_of_block (Hap.2.2.2.2 bb hbr)
        rw [e0, e0]
        exact hc1 j hj
end Go.Proofs.YtmmmebdgannpgaaGreatDoor
