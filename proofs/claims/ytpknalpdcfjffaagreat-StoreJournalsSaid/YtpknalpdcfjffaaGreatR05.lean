/- Part 5 of the proof: laws on memory and what functions of the program return. No conditions but those that each theorem names. -/
import Derived.Test.YtpknalpdcfjffaaGreatR04
import Derived.Laws.BitsLemmas
import Derived.Deep.DeepAppendWide
import Derived.Lib.Hide
import Derived.Deep.DeepCutAuto
import Derived.Deep.CutBlock
import Derived.Laws.StructEq
set_option linter.unusedVariables false
set_option linter.unusedSimpArgs false
/- store.walk, over any walker. Printed by gen_walk.py. -/
namespace Go.Proofs.YtpknalpdcfjffaaGreat
open Go Go.RowKit

/-- An entry's cells. -/
def entCells (x : Ent) (vR vB v0 v1 v2 v3 v4 v5 v6 v7 : Value) : List Value := [.int .i64 x.kind, .int .i64 x.now, .int .i64 x.rep.kind, .string x.rep.name, .int .i64 x.rep.time, .int .i64 x.rep.pl.f, .int .i64 x.rep.pl.a, .int .i64 x.rep.pl.b, .int .i64 x.rep.pl.c, vR, .int .i64 x.corr, .int .i64 x.arr, .int .i64 x.st, .string x.name, .int .i64 x.from_, .bool x.closed, .int .i64 x.pl.f, .int .i64 x.pl.a, .int .i64 x.pl.b, .int .i64 x.pl.c, vB, .int .i64 x.cyc.number, .int .i64 x.cyc.time, .int .i64 x.cyc.cutoff, v0, v1, v2, v3, .int .i64 x.cyc.ana.hi, .int .u64 x.cyc.ana.lo, .int .i64 x.cyc.ana.anchor, .int .i64 x.cyc.ana.radius, .int .i64 x.cyc.ana.rounds, .int .i64 x.cyc.freq, v4, v5, v6, v7]
/-- The parts of an entry. -/
structure EntP (av : Nat → Prop) (w : World) (x : Ent) (vR vB v0 v1 v2 v3 v4 v5 v6 v7 : Value) : Prop where
  kind : I64 x.kind
  now : I64 x.now
  rep : I64 x.rep.kind ∧ x.rep.name.size ≤ 10000000 ∧ I64 x.rep.time ∧ okPla x.rep.pl ∧ RdS rdE av w vR x.rep.rds
  corr : I64 x.corr
  arr : I64 x.arr
  st : I64 x.st
  name : x.name.size ≤ 10000000
  per : I64 x.from_ ∧ okPla x.pl ∧ RdS rdE av w vB x.bias
  cyc : cycE.rep av w (cycCells x.cyc v0 v1 v2 v3 v4 v5 v6 v7) x.cyc
def entE : El Ent := ⟨38, fun av w cs x => ∃ vR vB v0 v1 v2 v3 v4 v5 v6 v7, cs = entCells x vR vB v0 v1 v2 v3 v4 v5 v6 v7 ∧ EntP av w x vR vB v0 v1 v2 v3 v4 v5 v6 v7⟩
theorem EntP.keep {av : Nat → Prop} {w w' : World} {x : Ent} {vR vB v0 v1 v2 v3 v4 v5 v6 v7 : Value} (h : EntP av w x vR vB v0 v1 v2 v3 v4 v5 v6 v7) (hk : Keeps av w w') : EntP av w' x vR vB v0 v1 v2 v3 v4 v5 v6 v7 :=
  ⟨h.kind, h.now, ⟨h.rep.1, h.rep.2.1, h.rep.2.2.1, h.rep.2.2.2.1, h.rep.2.2.2.2.keep rdE_ok hk⟩, h.corr, h.arr, h.st, h.name, ⟨h.per.1, h.per.2.1, h.per.2.2.keep rdE_ok hk⟩, cycE_ok.keep h.cyc hk⟩
theorem EntP.weak {av av' : Nat → Prop} {w : World} {x : Ent} {vR vB v0 v1 v2 v3 v4 v5 v6 v7 : Value} (h : EntP av w x vR vB v0 v1 v2 v3 v4 v5 v6 v7) (hk : ∀ k, av k → k < w.heap.size → av' k) : EntP av' w x vR vB v0 v1 v2 v3 v4 v5 v6 v7 :=
  ⟨h.kind, h.now, ⟨h.rep.1, h.rep.2.1, h.rep.2.2.1, h.rep.2.2.2.1, h.rep.2.2.2.2.weak rdE_ok hk⟩, h.corr, h.arr, h.st, h.name, ⟨h.per.1, h.per.2.1, h.per.2.2.weak rdE_ok hk⟩, cycE_ok.weak h.cyc hk⟩
theorem entCells_eq (x : Ent) (vR vB v0 v1 v2 v3 v4 v5 v6 v7 : Value) : entCells x vR vB v0 v1 v2 v3 v4 v5 v6 v7 = [.int .i64 x.kind, .int .i64 x.now] ++ repCells x.rep vR ++ [.int .i64 x.corr, .int .i64 x.arr, .int .i64 x.st, .string x.name, .int .i64 x.from_, .bool x.closed, .int .i64 x.pl.f, .int .i64 x.pl.a, .int .i64 x.pl.b, .int .i64 x.pl.c, vB] ++ cycCells x.cyc v0 v1 v2 v3 v4 v5 v6 v7 := rfl
theorem entE_ok : entE.OK :=
  ⟨by decide, by rintro _ _ _ _ ⟨vR, vB, v0, v1, v2, v3, v4, v5, v6, v7, rfl, _⟩; rfl, by
    rintro _ _ _ _ ⟨vR, vB, v0, v1, v2, v3, v4, v5, v6, v7, rfl, h⟩ u hu
    rw [entCells_eq] at hu
    rcases List.mem_append.1 hu with hu | hu
    · simp only [repCells, List.cons_append, List.nil_append, List.mem_cons, List.not_mem_nil, or_false] at hu
      rcases hu with rfl | rfl | rfl | rfl | rfl | rfl | rfl | rfl | rfl | rfl | rfl | rfl | rfl | rfl | rfl | rfl | rfl | rfl | rfl | rfl | rfl <;> first | exact h.rep.2.2.2.2.one | exact h.per.2.2.one | rfl
    · exact cycE_ok.one h.cyc u hu,
    fun ⟨vR, vB, v0, v1, v2, v3, v4, v5, v6, v7, e, h⟩ hk => ⟨vR, vB, v0, v1, v2, v3, v4, v5, v6, v7, e, h.keep hk⟩, fun ⟨vR, vB, v0, v1, v2, v3, v4, v5, v6, v7, e, h⟩ hk => ⟨vR, vB, v0, v1, v2, v3, v4, v5, v6, v7, e, h.weak hk⟩⟩
theorem At.of_take {cs m : List Value} {o : Nat} (h : (cs.drop o).take m.length = m) : At cs o m := fun i hi => by
  rw [← h, List.getElem?_take, if_pos hi, List.getElem?_drop]
section
variable (x : Ent) (vR vB v0 v1 v2 v3 v4 v5 v6 v7 : Value)
theorem at_now : At (entCells x vR vB v0 v1 v2 v3 v4 v5 v6 v7) 1 [.int .i64 x.now] := At.of_take rfl
theorem put_now (n : Int) : putL (entCells x vR vB v0 v1 v2 v3 v4 v5 v6 v7) 1 [.int .i64 n] = entCells { x with now := n } vR vB v0 v1 v2 v3 v4 v5 v6 v7 := rfl
theorem at_itm : At (entCells x vR vB v0 v1 v2 v3 v4 v5 v6 v7) 2 (repCells x.rep vR ++ [.int .i64 x.corr, .int .i64 x.arr]) := At.of_take rfl
theorem put_itm (y : Itm) (u : Value) : putL (entCells x vR vB v0 v1 v2 v3 v4 v5 v6 v7) 2 (repCells y.rep u ++ [.int .i64 y.corr, .int .i64 y.arr]) = entCells { x with rep := y.rep, corr := y.corr, arr := y.arr } u vB v0 v1 v2 v3 v4 v5 v6 v7 := rfl
theorem at_st : At (entCells x vR vB v0 v1 v2 v3 v4 v5 v6 v7) 12 [.int .i64 x.st] := At.of_take rfl
theorem put_st (n : Int) : putL (entCells x vR vB v0 v1 v2 v3 v4 v5 v6 v7) 12 [.int .i64 n] = entCells { x with st := n } vR vB v0 v1 v2 v3 v4 v5 v6 v7 := rfl
theorem at_name : At (entCells x vR vB v0 v1 v2 v3 v4 v5 v6 v7) 13 [.string x.name] := At.of_take rfl
theorem put_name (n : ByteArray) : putL (entCells x vR vB v0 v1 v2 v3 v4 v5 v6 v7) 13 [.string n] = entCells { x with name := n } vR vB v0 v1 v2 v3 v4 v5 v6 v7 := rfl
theorem at_per : At (entCells x vR vB v0 v1 v2 v3 v4 v5 v6 v7) 14 [.int .i64 x.from_, .bool x.closed, .int .i64 x.pl.f, .int .i64 x.pl.a, .int .i64 x.pl.b, .int .i64 x.pl.c, vB] := At.of_take rfl
theorem put_per (y : Per) (u : Value) : putL (entCells x vR vB v0 v1 v2 v3 v4 v5 v6 v7) 14 [.int .i64 y.from_, .bool y.closed, .int .i64 y.pl.f, .int .i64 y.pl.a, .int .i64 y.pl.b, .int .i64 y.pl.c, u] = entCells { x with from_ := y.from_, closed := y.closed, pl := y.pl, bias := y.bias } vR u v0 v1 v2 v3 v4 v5 v6 v7 := rfl
theorem at_cyc : At (entCells x vR vB v0 v1 v2 v3 v4 v5 v6 v7) 21 (cycCells x.cyc v0 v1 v2 v3 v4 v5 v6 v7) := At.of_take rfl
theorem put_cyc (y : Cyc) (u0 u1 u2 u3 u4 u5 u6 u7 : Value) : putL (entCells x vR vB v0 v1 v2 v3 v4 v5 v6 v7) 21 (cycCells y u0 u1 u2 u3 u4 u5 u6 u7) = entCells { x with cyc := y } vR vB u0 u1 u2 u3 u4 u5 u6 u7 := rfl
end
theorem EntP.shut {av : Nat → Prop} {w : World} {x : Ent} {vR vB v0 v1 v2 v3 v4 v5 v6 v7 : Value} (h : EntP av w x vR vB v0 v1 v2 v3 v4 v5 v6 v7) : entE.rep av w (entCells x vR vB v0 v1 v2 v3 v4 v5 v6 v7) x := ⟨vR, vB, v0, v1, v2, v3, v4, v5, v6, v7, rfl, h⟩

section
variable {σ : Type} {k : Wk σ}
/-- What store.walk leaves. -/
def Walked (K : WkM k) (q : Option (σ × Ent)) (p : Nat) (s : σ) (cs : List Value) (av : Nat → Prop) (w : World) (e : Ending) (w' : World) : Prop := match q with
  | some q => e = .returned (.bool true) ∧ ∃ es, WS K p q.1 es w w' ∧ entE.rep (fresh av w) w' es q.2
  | none => e = .returned (.bool false) ∧ WS K p s cs w w'
theorem Walked.yes {K : WkM k} {q : Option (σ × Ent)} {s1 : σ} {y : Ent} {p : Nat} {s : σ} {cs es : List Value} {av : Nat → Prop} {w w' : World} (h : q = some (s1, y)) (hw : WS K p s1 es w w') (hr : entE.rep (fresh av w) w' es y) : Walked K q p s cs av w (.returned (.bool true)) w' := by
  subst h
  exact ⟨rfl, es, hw, hr⟩
theorem Walked.no {K : WkM k} {q : Option (σ × Ent)} {p : Nat} {s : σ} {cs : List Value} {av : Nat → Prop} {w w' : World} (h : q = none) (hw : WS K p s cs w w') : Walked K q p s cs av w (.returned (.bool false)) w' := by
  subst h
  exact ⟨rfl, hw⟩

set_option maxHeartbeats 16000000 in
set_option maxRecDepth 100000 in
theorem walk_1 (K : WkM k) (hK : K.OK) (s : σ) (x : Ent) (w : World) (p : Nat) (es : List Value) (av : Nat → Prop) (hk : x.kind = 1) (h1 : K.St s w) (h2 : K.base ≤ p) (h3 : p ≠ K.b) (h4 : PAt w p es) (h6 : entE.rep av w es x) (h7 : ∀ i, av i → i ≠ K.b ∧ i ≠ p) (h8 : ∀ q, k.ent s x = some q → k.sz q.1 ≤ 10000000) :
    Calls Tryz.prog 28 #[K.recv, .pointer (some ⟨p, 0, none⟩)] w (Walked K (k.ent s x) p s es av w) := by
  have HK := Lib.hid hK
  obtain ⟨f_int, m_int, w_int⟩ := hK.int
  have HM_int := Lib.hid m_int
  have HB : Hid (K.b < w.heap.size) := (hK.lt h1).2
  have HPl : Hid (p < w.heap.size) := h4.lt
  have HAv := Lib.hid h7
  obtain ⟨vR, vB, v0, v1, v2, v3, v4, v5, v6, v7, rfl, h6⟩ := h6
  have HE := Lib.hid h6
  have HW0 : Hid (WS K p s (entCells x vR vB v0 v1 v2 v3 v4 v5 v6 v7) w w) := WS.start h1 h4
  have HQ : Hid (k.ent s x = some ((k.int s x.now).1, { x with now := (k.int s x.now).2 })) := by unfold Hid Wk.ent; rw [if_pos hk]
  have HSz : Hid (k.sz ((k.int s x.now).1) ≤ 10000000) := h8 _ HQ.out
  have hc0 : w.cell? ⟨p, 0, none⟩ = some (.int .i64 1) := by rw [← hk]; exact h4.1.at 0 rfl
  clear h1 h4 h6 h7 h8 hK hk
  go_enter Tryz.func28, Tryz.ntmps28
  go_wp2_with fail
  refine wp_region_seq (by kernel_rfl) (fun _ => True) [(0, true), (1, true), (2, true), (3, true), (4, true), (5, true), (6, true), (7, false)] (by kernel_rfl) (trivial) ?_
  refine seq_q (d := some 11) rfl rfl rfl (K.recv) (fun w hw => rfl) ?_
  simp only [Act.put, List.setIfInBounds_toArray, List.set_cons_zero, List.set_cons_succ]
  refine seq_q (d := some 12) rfl rfl rfl (.pointer (some ⟨p, 0, none⟩)) (fun w hw => rfl) ?_
  simp only [Act.put, List.setIfInBounds_toArray, List.set_cons_zero, List.set_cons_succ]
  refine seq_q (d := some 13) rfl rfl rfl (.pointer (some ⟨p, 0, none⟩)) (fun w hw => rfl) ?_
  simp only [Act.put, List.setIfInBounds_toArray, List.set_cons_zero, List.set_cons_succ]
  refine seq_q (d := some 14) rfl rfl rfl (.pointer (some ⟨p, 1, none⟩)) (fun w hw => by go_simp) ?_
  simp only [Act.put, List.setIfInBounds_toArray, List.set_cons_zero, List.set_cons_succ]
  refine seq_q (d := some 15) rfl rfl rfl (.func (.method "synoptic/store.int") #[K.recv] #[]) (fun w hw => run_makeFunc (.tmp 11) rfl (K.recv) rfl w) ?_
  simp only [Act.put, List.setIfInBounds_toArray, List.set_cons_zero, List.set_cons_succ]
  refine seq_q (d := some 16) rfl rfl rfl (.func (.method "synoptic/store.int") #[K.recv] #[]) (fun w hw => run_nilMethod HM_int.out.ahead (.tmp 15) rfl rfl w) ?_
  simp only [Act.put, List.setIfInBounds_toArray, List.set_cons_zero, List.set_cons_succ]
  refine seq_q (d := some 17) rfl rfl rfl (K.recv) (fun w hw => rfl) ?_
  simp only [Act.put, List.setIfInBounds_toArray, List.set_cons_zero, List.set_cons_succ]
  refine seq_invoke (d := some 18) rfl rfl rfl HM_int.out.b _ _ _ rfl rfl [.pointer (some ⟨p, 1, none⟩)] rfl ((HW0.out.drew HK.out).step w_int intE_ok h2 h3 (at_now x vR vB v0 v1 v2 v3 v4 v5 v6 v7) ⟨rfl, HE.out.now⟩ HAv.out HSz.out) ?_
  rintro e w1 ⟨rfl, es1, h1, ⟨rfl, i1⟩, -, hf⟩
  refine ⟨_, rfl, trivial, ?_⟩
  simp only [Act.put, List.setIfInBounds_toArray, List.set_cons_zero, List.set_cons_succ]
  refine seq_end ?_
  rw [put_now] at h1
  have HW1 := Lib.hid h1
  have I1 := Lib.hid i1
  have HEn : Hid (EntP (fresh av w) w1 x vR vB v0 v1 v2 v3 v4 v5 v6 v7) := (HE.out.keep (((Fr.drew w).trans hf).keeps.mono fun i _ hi => HAv.out i hi)).weak fun i hi _ => Or.inl hi
  clear h1 hf i1 HW0
  try go_wp2_with fail
  go_ret
  refine Walked.yes HQ.out HW1.out (EntP.shut ?_)
  exact ⟨HEn.out.kind, I1.out, HEn.out.rep, HEn.out.corr, HEn.out.arr, HEn.out.st, HEn.out.name, HEn.out.per, HEn.out.cyc⟩

set_option maxHeartbeats 16000000 in
set_option maxRecDepth 100000 in
theorem walk_2 (K : WkM k) (hK : K.OK) (s : σ) (x : Ent) (w : World) (p : Nat) (es : List Value) (av : Nat → Prop) (hk : x.kind = 2) (h1 : K.St s w) (h2 : K.base ≤ p) (h3 : p ≠ K.b) (h4 : PAt w p es) (h6 : entE.rep av w es x) (h7 : ∀ i, av i → i ≠ K.b ∧ i ≠ p) (h8 : ∀ q, k.ent s x = some q → k.sz q.1 ≤ 10000000) :
    Calls Tryz.prog 28 #[K.recv, .pointer (some ⟨p, 0, none⟩)] w (Walked K (k.ent s x) p s es av w) := by
  have HK := Lib.hid hK
  have HB : Hid (K.b < w.heap.size) := (hK.lt h1).2
  have HPl : Hid (p < w.heap.size) := h4.lt
  have HAv := Lib.hid h7
  obtain ⟨vR, vB, v0, v1, v2, v3, v4, v5, v6, v7, rfl, h6⟩ := h6
  have HE := Lib.hid h6
  have HW0 : Hid (WS K p s (entCells x vR vB v0 v1 v2 v3 v4 v5 v6 v7) w w) := WS.start h1 h4
  have HQ : Hid (k.ent s x = some ((k.itm s ⟨x.rep, x.corr, x.arr⟩).1, { x with rep := (k.itm s ⟨x.rep, x.corr, x.arr⟩).2.rep, corr := (k.itm s ⟨x.rep, x.corr, x.arr⟩).2.corr, arr := (k.itm s ⟨x.rep, x.corr, x.arr⟩).2.arr })) := by unfold Hid Wk.ent; rw [if_neg (by omega), if_pos hk]; rfl
  have HSz : Hid (k.sz ((k.itm s ⟨x.rep, x.corr, x.arr⟩).1) ≤ 10000000) := h8 _ HQ.out
  have hc0 : w.cell? ⟨p, 0, none⟩ = some (.int .i64 2) := by rw [← hk]; exact h4.1.at 0 rfl
  clear h1 h4 h6 h7 h8 hK hk
  go_enter Tryz.func28, Tryz.ntmps28
  go_wp2_with fail
  have h5 : Hid (itmE.rep av w (repCells x.rep vR ++ [.int .i64 x.corr, .int .i64 x.arr]) ⟨x.rep, x.corr, x.arr⟩) := ⟨vR, rfl, HE.out.rep, HE.out.corr, HE.out.arr⟩
  have h9 := Lib.hid (HW0.out.step (item_walks K HK.out) itmE_ok h2 h3 (at_itm x vR vB v0 v1 v2 v3 v4 v5 v6 v7) h5.out HAv.out HSz.out)
  refine h9.out.mono ?_
  rintro e w1 ⟨rfl, es1, h1, ⟨vR', rfl, g1, g2, g3⟩, -, hf⟩
  rw [put_itm] at h1
  have HW1 := Lib.hid h1
  have G := Lib.hid (And.intro g1 (And.intro g2 g3))
  have HEn : Hid (EntP (fresh av w) w1 x vR vB v0 v1 v2 v3 v4 v5 v6 v7) := (HE.out.keep (hf.keeps.mono fun i _ hi => HAv.out i hi)).weak fun i hi _ => Or.inl hi
  clear h1 hf g1 g2 g3 HW0 h5 h9
  try go_wp2_with fail
  go_ret
  refine Walked.yes HQ.out HW1.out (EntP.shut ?_)
  exact ⟨HEn.out.kind, HEn.out.now, G.out.1, G.out.2.1, G.out.2.2, HEn.out.st, HEn.out.name, HEn.out.per, HEn.out.cyc⟩

set_option maxHeartbeats 16000000 in
set_option maxRecDepth 100000 in
theorem walk_3 (K : WkM k) (hK : K.OK) (s : σ) (x : Ent) (w : World) (p : Nat) (es : List Value) (av : Nat → Prop) (hk : x.kind = 3) (h1 : K.St s w) (h2 : K.base ≤ p) (h3 : p ≠ K.b) (h4 : PAt w p es) (h6 : entE.rep av w es x) (h7 : ∀ i, av i → i ≠ K.b ∧ i ≠ p) (h8 : ∀ q, k.ent s x = some q → k.sz q.1 ≤ 10000000) :
    Calls Tryz.prog 28 #[K.recv, .pointer (some ⟨p, 0, none⟩)] w (Walked K (k.ent s x) p s es av w) := by
  have HK := Lib.hid hK
  obtain ⟨f_int, m_int, w_int⟩ := hK.int
  have HM_int := Lib.hid m_int
  obtain ⟨f_text, m_text, w_text⟩ := hK.text
  have HM_text := Lib.hid m_text
  have HB : Hid (K.b < w.heap.size) := (hK.lt h1).2
  have HPl : Hid (p < w.heap.size) := h4.lt
  have HAv := Lib.hid h7
  obtain ⟨vR, vB, v0, v1, v2, v3, v4, v5, v6, v7, rfl, h6⟩ := h6
  have HE := Lib.hid h6
  have HW0 : Hid (WS K p s (entCells x vR vB v0 v1 v2 v3 v4 v5 v6 v7) w w) := WS.start h1 h4
  have HQ : Hid (k.ent s x = some ((k.per (k.text (k.int s x.st).1 x.name).1 ⟨x.from_, x.closed, x.pl, x.bias⟩).1, { x with st := (k.int s x.st).2, name := (k.text (k.int s x.st).1 x.name).2, from_ := (k.per (k.text (k.int s x.st).1 x.name).1 ⟨x.from_, x.closed, x.pl, x.bias⟩).2.from_, closed := (k.per (k.text (k.int s x.st).1 x.name).1 ⟨x.from_, x.closed, x.pl, x.bias⟩).2.closed, pl := (k.per (k.text (k.int s x.st).1 x.name).1 ⟨x.from_, x.closed, x.pl, x.bias⟩).2.pl, bias := (k.per (k.text (k.int s x.st).1 x.name).1 ⟨x.from_, x.closed, x.pl, x.bias⟩).2.bias })) := by unfold Hid Wk.ent; rw [if_neg (by omega), if_neg (by omega), if_pos hk]; rfl
  have HSz : Hid (k.sz ((k.per (k.text (k.int s x.st).1 x.name).1 ⟨x.from_, x.closed, x.pl, x.bias⟩).1) ≤ 10000000) := h8 _ HQ.out
  have hc0 : w.cell? ⟨p, 0, none⟩ = some (.int .i64 3) := by rw [← hk]; exact h4.1.at 0 rfl
  clear h1 h4 h6 h7 h8 hK hk
  go_enter Tryz.func28, Tryz.ntmps28
  go_wp2_with fail
  refine wp_region_seq (by kernel_rfl) (fun _ => True) [(0, true), (1, true), (2, true), (3, true), (4, true), (5, true), (6, true), (7, false)] (by kernel_rfl) (trivial) ?_
  refine seq_q (d := some 28) rfl rfl rfl (K.recv) (fun w hw => rfl) ?_
  simp only [Act.put, List.setIfInBounds_toArray, List.set_cons_zero, List.set_cons_succ]
  refine seq_q (d := some 29) rfl rfl rfl (.pointer (some ⟨p, 0, none⟩)) (fun w hw => rfl) ?_
  simp only [Act.put, List.setIfInBounds_toArray, List.set_cons_zero, List.set_cons_succ]
  refine seq_q (d := some 30) rfl rfl rfl (.pointer (some ⟨p, 0, none⟩)) (fun w hw => rfl) ?_
  simp only [Act.put, List.setIfInBounds_toArray, List.set_cons_zero, List.set_cons_succ]
  refine seq_q (d := some 31) rfl rfl rfl (.pointer (some ⟨p, 12, none⟩)) (fun w hw => by go_simp) ?_
  simp only [Act.put, List.setIfInBounds_toArray, List.set_cons_zero, List.set_cons_succ]
  refine seq_q (d := some 32) rfl rfl rfl (.func (.method "synoptic/store.int") #[K.recv] #[]) (fun w hw => run_makeFunc (.tmp 28) rfl (K.recv) rfl w) ?_
  simp only [Act.put, List.setIfInBounds_toArray, List.set_cons_zero, List.set_cons_succ]
  refine seq_q (d := some 33) rfl rfl rfl (.func (.method "synoptic/store.int") #[K.recv] #[]) (fun w hw => run_nilMethod HM_int.out.ahead (.tmp 32) rfl rfl w) ?_
  simp only [Act.put, List.setIfInBounds_toArray, List.set_cons_zero, List.set_cons_succ]
  refine seq_q (d := some 34) rfl rfl rfl (K.recv) (fun w hw => rfl) ?_
  simp only [Act.put, List.setIfInBounds_toArray, List.set_cons_zero, List.set_cons_succ]
  refine seq_invoke (d := some 35) rfl rfl rfl HM_int.out.b _ _ _ rfl rfl [.pointer (some ⟨p, 12, none⟩)] rfl ((HW0.out.drew HK.out).step w_int intE_ok h2 h3 (at_st x vR vB v0 v1 v2 v3 v4 v5 v6 v7) ⟨rfl, HE.out.st⟩ HAv.out (Nat.le_trans (HK.out.mono.text _ _) (Nat.le_trans (HK.out.mono.per _ _) HSz.out))) ?_
  rintro e w1 ⟨rfl, es1, h1, ⟨rfl, i1⟩, -, hf⟩
  refine ⟨_, rfl, trivial, ?_⟩
  simp only [Act.put, List.setIfInBounds_toArray, List.set_cons_zero, List.set_cons_succ]
  refine seq_end ?_
  rw [put_st] at h1
  have HW1 := Lib.hid h1
  have I1 := Lib.hid i1
  have HF1 := Lib.hid ((Fr.drew w).trans hf)
  clear h1 hf i1 HW0
  try go_wp2_with fail
  refine wp_region_seq (by kernel_rfl) (fun _ => True) [(0, true), (1, true), (2, true), (3, true), (4, true), (5, true), (6, true), (7, false)] (by kernel_rfl) (trivial) ?_
  refine seq_q (d := some 36) rfl rfl rfl (K.recv) (fun w hw => rfl) ?_
  simp only [Act.put, List.setIfInBounds_toArray, List.set_cons_zero, List.set_cons_succ]
  refine seq_q (d := some 37) rfl rfl rfl (.pointer (some ⟨p, 0, none⟩)) (fun w hw => rfl) ?_
  simp only [Act.put, List.setIfInBounds_toArray, List.set_cons_zero, List.set_cons_succ]
  refine seq_q (d := some 38) rfl rfl rfl (.pointer (some ⟨p, 0, none⟩)) (fun w hw => rfl) ?_
  simp only [Act.put, List.setIfInBounds_toArray, List.set_cons_zero, List.set_cons_succ]
  refine seq_q (d := some 39) rfl rfl rfl (.pointer (some ⟨p, 13, none⟩)) (fun w hw => by go_simp) ?_
  simp only [Act.put, List.setIfInBounds_toArray, List.set_cons_zero, List.set_cons_succ]
  refine seq_q (d := some 40) rfl rfl rfl (.func (.method "synoptic/store.text") #[K.recv] #[]) (fun w hw => run_makeFunc (.tmp 36) rfl (K.recv) rfl w) ?_
  simp only [Act.put, List.setIfInBounds_toArray, List.set_cons_zero, List.set_cons_succ]
  refine seq_q (d := some 41) rfl rfl rfl (.func (.method "synoptic/store.text") #[K.recv] #[]) (fun w hw => run_nilMethod HM_text.out.ahead (.tmp 40) rfl rfl w) ?_
  simp only [Act.put, List.setIfInBounds_toArray, List.set_cons_zero, List.set_cons_succ]
  refine seq_q (d := some 42) rfl rfl rfl (K.recv) (fun w hw => rfl) ?_
  simp only [Act.put, List.setIfInBounds_toArray, List.set_cons_zero, List.set_cons_succ]
  refine seq_invoke (d := some 43) rfl rfl rfl HM_text.out.b _ _ _ rfl rfl [.pointer (some ⟨p, 13, none⟩)] rfl ((HW1.out.drew HK.out).step w_text strE_ok h2 h3 (at_name _ vR vB v0 v1 v2 v3 v4 v5 v6 v7) ⟨rfl, HE.out.name⟩ HAv.out (Nat.le_trans (HK.out.mono.per _ _) HSz.out)) ?_
  rintro e w2 ⟨rfl, es1, h1, ⟨rfl, i1⟩, -, hf⟩
  refine ⟨_, rfl, trivial, ?_⟩
  simp only [Act.put, List.setIfInBounds_toArray, List.set_cons_zero, List.set_cons_succ]
  refine seq_end ?_
  rw [put_name] at h1
  have HW2 := Lib.hid h1
  have I2 := Lib.hid i1
  have HF2 := Lib.hid (HF1.out.trans ((Fr.drew w1).trans hf))
  clear h1 hf i1 HW1 HF1
  go_wp2_with fail
  have h5 : Hid (perE.rep av w ([.int .i64 x.from_, .bool x.closed, .int .i64 x.pl.f, .int .i64 x.pl.a, .int .i64 x.pl.b, .int .i64 x.pl.c, vB]) ⟨x.from_, x.closed, x.pl, x.bias⟩) := ⟨vB, rfl, HE.out.per⟩
  have h9 := Lib.hid (HW2.out.step (period_walks K HK.out) perE_ok h2 h3 (at_per _ vR vB v0 v1 v2 v3 v4 v5 v6 v7) h5.out HAv.out HSz.out)
  refine h9.out.mono ?_
  rintro e w3 ⟨rfl, es1, h1, ⟨vB', rfl, g1⟩, -, hf⟩
  rw [put_per] at h1
  have HW3 := Lib.hid h1
  have G := Lib.hid g1
  have HEn : Hid (EntP (fresh av w) w3 x vR vB v0 v1 v2 v3 v4 v5 v6 v7) := (HE.out.keep ((HF2.out.trans hf).keeps.mono fun i _ hi => HAv.out i hi)).weak fun i hi _ => Or.inl hi
  clear h1 hf g1 HW2 HF2 h5 h9
  try go_wp2_with fail
  go_ret
  refine Walked.yes HQ.out HW3.out (EntP.shut ?_)
  exact ⟨HEn.out.kind, HEn.out.now, HEn.out.rep, HEn.out.corr, HEn.out.arr, I1.out, I2.out, G.out, HEn.out.cyc⟩

set_option maxHeartbeats 16000000 in
set_option maxRecDepth 100000 in
theorem walk_4 (K : WkM k) (hK : K.OK) (s : σ) (x : Ent) (w : World) (p : Nat) (es : List Value) (av : Nat → Prop) (hk : x.kind = 4) (h1 : K.St s w) (h2 : K.base ≤ p) (h3 : p ≠ K.b) (h4 : PAt w p es) (h6 : entE.rep av w es x) (h7 : ∀ i, av i → i ≠ K.b ∧ i ≠ p) (h8 : ∀ q, k.ent s x = some q → k.sz q.1 ≤ 10000000) :
    Calls Tryz.prog 28 #[K.recv, .pointer (some ⟨p, 0, none⟩)] w (Walked K (k.ent s x) p s es av w) := by
  have HK := Lib.hid hK
  have HB : Hid (K.b < w.heap.size) := (hK.lt h1).2
  have HPl : Hid (p < w.heap.size) := h4.lt
  have HAv := Lib.hid h7
  obtain ⟨vR, vB, v0, v1, v2, v3, v4, v5, v6, v7, rfl, h6⟩ := h6
  have HE := Lib.hid h6
  have HW0 : Hid (WS K p s (entCells x vR vB v0 v1 v2 v3 v4 v5 v6 v7) w w) := WS.start h1 h4
  have HQ : Hid (k.ent s x = some ((k.cyc s x.cyc).1, { x with cyc := (k.cyc s x.cyc).2 })) := by unfold Hid Wk.ent; rw [if_neg (by omega), if_neg (by omega), if_neg (by omega), if_pos hk]
  have HSz : Hid (k.sz ((k.cyc s x.cyc).1) ≤ 10000000) := h8 _ HQ.out
  have hc0 : w.cell? ⟨p, 0, none⟩ = some (.int .i64 4) := by rw [← hk]; exact h4.1.at 0 rfl
  clear h1 h4 h6 h7 h8 hK hk
  go_enter Tryz.func28, Tryz.ntmps28
  go_wp2_with fail
  have h5 : Hid (cycE.rep av w (cycCells x.cyc v0 v1 v2 v3 v4 v5 v6 v7) x.cyc) := HE.out.cyc
  have h9 := Lib.hid (HW0.out.step (cycle_walks K HK.out) cycE_ok h2 h3 (at_cyc x vR vB v0 v1 v2 v3 v4 v5 v6 v7) h5.out HAv.out HSz.out)
  refine h9.out.mono ?_
  rintro e w1 ⟨rfl, es1, h1, hr, hl, hf⟩
  obtain ⟨u0, u1, u2, u3, u4, u5, u6, u7, rfl, hr'⟩ := hr
  rw [put_cyc] at h1
  have HW1 := Lib.hid h1
  have G : Hid (cycE.rep (fresh av w) w1 (cycCells (k.cyc s x.cyc).2 u0 u1 u2 u3 u4 u5 u6 u7) (k.cyc s x.cyc).2) := ⟨u0, u1, u2, u3, u4, u5, u6, u7, rfl, hr'⟩
  have HEn : Hid (EntP (fresh av w) w1 x vR vB v0 v1 v2 v3 v4 v5 v6 v7) := (HE.out.keep (hf.keeps.mono fun i _ hi => HAv.out i hi)).weak fun i hi _ => Or.inl hi
  clear h1 hf hr' hl HW0 h5 h9
  try go_wp2_with fail
  go_ret
  refine Walked.yes HQ.out HW1.out (EntP.shut ?_)
  exact ⟨HEn.out.kind, HEn.out.now, HEn.out.rep, HEn.out.corr, HEn.out.arr, HEn.out.st, HEn.out.name, HEn.out.per, G.out⟩

set_option maxHeartbeats 16000000 in
set_option maxRecDepth 100000 in
theorem walk_no (K : WkM k) (hK : K.OK) (s : σ) (x : Ent) (w : World) (p : Nat) (es : List Value) (av : Nat → Prop) (hk : x.kind ≠ 1 ∧ x.kind ≠ 2 ∧ x.kind ≠ 3 ∧ x.kind ≠ 4) (h1 : K.St s w) (h2 : K.base ≤ p) (h3 : p ≠ K.b) (h4 : PAt w p es) (h6 : entE.rep av w es x) (h7 : ∀ i, av i → i ≠ K.b ∧ i ≠ p) (h8 : ∀ q, k.ent s x = some q → k.sz q.1 ≤ 10000000) :
    Calls Tryz.prog 28 #[K.recv, .pointer (some ⟨p, 0, none⟩)] w (Walked K (k.ent s x) p s es av w) := by
  have HK := Lib.hid hK
  have HB : Hid (K.b < w.heap.size) := (hK.lt h1).2
  have HPl : Hid (p < w.heap.size) := h4.lt
  have HAv := Lib.hid h7
  obtain ⟨vR, vB, v0, v1, v2, v3, v4, v5, v6, v7, rfl, h6⟩ := h6
  have HE := Lib.hid h6
  have HW0 : Hid (WS K p s (entCells x vR vB v0 v1 v2 v3 v4 v5 v6 v7) w w) := WS.start h1 h4
  have HQ : Hid (k.ent s x = none) := by unfold Hid Wk.ent; rw [if_neg hk.1, if_neg hk.2.1, if_neg hk.2.2.1, if_neg hk.2.2.2]
  have hc0 : w.cell? ⟨p, 0, none⟩ = some (.int .i64 x.kind) := h4.1.at 0 rfl
  have b1 : (x.kind == 1) = false := by simpa using hk.1
  have b2 : (x.kind == 2) = false := by simpa using hk.2.1
  have b3 : (x.kind == 3) = false := by simpa using hk.2.2.1
  have b4 : (x.kind == 4) = false := by simpa using hk.2.2.2
  clear h1 h4 h6 h7 h8 hK hk
  go_enter Tryz.func28, Tryz.ntmps28
  go_wp2_with fail
  go_ret
  exact Walked.no HQ.out HW0.out

theorem walk_any (K : WkM k) (hK : K.OK) (s : σ) (x : Ent) (w : World) (p : Nat) (es : List Value) (av : Nat → Prop) (h1 : K.St s w) (h2 : K.base ≤ p) (h3 : p ≠ K.b) (h4 : PAt w p es) (h6 : entE.rep av w es x) (h7 : ∀ i, av i → i ≠ K.b ∧ i ≠ p) (h8 : ∀ q, k.ent s x = some q → k.sz q.1 ≤ 10000000) :
    Calls Tryz.prog 28 #[K.recv, .pointer (some ⟨p, 0, none⟩)] w (Walked K (k.ent s x) p s es av w) := by
  by_cases e1 : x.kind = 1
  · exact walk_1 K hK s x w p es av e1 h1 h2 h3 h4 h6 h7 h8
  by_cases e2 : x.kind = 2
  · exact walk_2 K hK s x w p es av e2 h1 h2 h3 h4 h6 h7 h8
  by_cases e3 : x.kind = 3
  · exact walk_3 K hK s x w p es av e3 h1 h2 h3 h4 h6 h7 h8
  by_cases e4 : x.kind = 4
  · exact walk_4 K hK s x w p es av e4 h1 h2 h3 h4 h6 h7 h8
  exact walk_no K hK s x w p es av ⟨e1, e2, e3, e4⟩ h1 h2 h3 h4 h6 h7 h8
end
end Go.Proofs.YtpknalpdcfjffaaGreat
/- As Seq, but behind the last operation nothing is asked of the world: what loads must come before it. No program. -/
namespace Go.Proofs.YtpknalpdcfjffaaGreat
open Go Go.RowKit

section
variable {P : Program} {ops : Array Oper} {Q : Exit → Act → World → Prop} {S : World → Prop} {L : Nat}
/-- What comes before an operation, f steps back. -/
def anc (ops : Array Oper) : Nat → Nat → List Nat
  | 0, _ => []
  | f + 1, k => match ops[k]? with
    | some o => (o.after.toList.filter (Region.binds .any)).flatMap fun e => e.on :: anc ops f e.on
    | none => []
def ClosedL (ops : Array Oper) (listed : Array Bool) : Prop := ∀ k o, ops[k]? = some o → listed.getD k false = true → ∀ e ∈ o.after, Region.binds .any e = true → listed.getD e.on false = true
theorem anc_listed {listed : Array Bool} (hc : ClosedL ops listed) : ∀ (f k : Nat) (o : Oper), ops[k]? = some o → (∀ e ∈ o.after, Region.binds .any e = true → listed.getD e.on false = true) → (hsz : listed.size = ops.size) → ∀ i ∈ anc ops f k, listed.getD i false = true
  | 0, _, _, _, _, _, i, hi => by simp [anc] at hi
  | f + 1, k, o, ho, he, hsz, i, hi => by
    rw [anc, ho] at hi
    simp only [List.mem_flatMap, List.mem_filter] at hi
    obtain ⟨e, ⟨h1, h2⟩, h3⟩ := hi
    have h4 := he e (by simpa using h1) h2
    rcases List.mem_cons.1 h3 with rfl | h3
    · exact h4
    · have hlt : e.on < ops.size := by
        rcases Nat.lt_or_ge e.on listed.size with h | h
        · omega
        · simp [Array.getElem?_eq_none h] at h4
      exact anc_listed hc f e.on ops[e.on] (Array.getElem?_eq_getElem hlt) (hc e.on _ (Array.getElem?_eq_getElem hlt) h4) hsz i h3
theorem ClosedL.set {listed : Array Bool} (hc : ClosedL ops listed) {j : Nat} (hj : j ∈ Region.ready .any ops listed) : ClosedL ops (listed.setIfInBounds j true) := by
  obtain ⟨h0, oj, hoj, hall⟩ := mem_ready.1 hj
  have mono : ∀ k, listed.getD k false = true → (listed.setIfInBounds j true).getD k false = true := fun k hk => by
    by_cases hkj : j = k
    · subst hkj
      have : j < listed.size := by
        rcases Nat.lt_or_ge j listed.size with h | h
        · exact h
        · simp [Array.getElem?_eq_none h] at hk
      simp [this]
    · rw [getD_set_ne false hkj]; exact hk
  intro k o ho hk e he hb
  by_cases hkj : j = k
  · subst hkj
    rw [hoj] at ho
    injection ho with ho
    subst ho
    exact mono _ (hall e he hb)
  · rw [getD_set_ne false hkj] at hk
    exact mono _ (hc k o ho hk e he hb)
def wpAnyL (P : Program) (ops : Array Oper) (Q : Exit → Act → World → Prop) (S : World → Prop) (L : Nat) : Nat → Array Bool → Act → World → Prop
  | 0, listed, a, w => Region.ready .any ops listed = [] ∧ Q .normal a w
  | fuel + 1, listed, a, w =>
    (Region.ready .any ops listed = [] → Q .normal a w) ∧
    ∀ i ∈ Region.ready .any ops listed, wpOp P ops Q i (fun a' w' => ((listed.setIfInBounds i true).getD L false = false → S w') ∧ wpAnyL P ops Q S L fuel (listed.setIfInBounds i true) a' w') a w
theorem wpAny_of_L : ∀ (fuel : Nat) (listed : Array Bool) (a : Act) (w : World), wpAnyL P ops Q S L fuel listed a w → wpAny P .any ops Q fuel listed a w
  | 0, _, _, _, h => h
  | fuel + 1, _, _, _, h => ⟨h.1, fun i hi => wpOp_mono (fun a' w' h' => wpAny_of_L fuel _ a' w' h'.2) (h.2 i hi)⟩
/-- Taken first: T is what the operation asks of the world; it is so until the operation comes. -/
theorem wpAnyL_first {T : World → Prop} {i : Nat} {oi : Oper} {v : Value} (hiL : i ≠ L) (hi : ops[i]? = some oi) (hsel : ∀ (j : Nat) (o : Oper) cs b, ops[j]? = some o → o.op ≠ .select cs b)
    (hQ : ∀ c a w, Q (.panic c) (a.put oi.dst v) w → Q (.panic c) a w) (hT : ∀ (j : Nat) (listed : Array Bool) (w' : World), ClosedL ops listed → listed.size = ops.size → j ∈ Region.ready .any ops listed → i ∈ Region.ready .any ops listed → j ≠ i → ((listed.setIfInBounds j true).getD L false = false → S w') → T w') :
    ∀ (fuel : Nat) (listed : Array Bool) (a : Act) (w : World),
      (∀ j oj, ops[j]? = some oj → j ≠ i → listed.getD j true = false → (∀ e ∈ oj.after, Region.binds .any e = true → e.on ≠ i) → oi.apart ops oj = true) →
      ClosedL ops listed → listed.size = ops.size → i ∈ Region.ready .any ops listed → YieldsIf P ops T oi v a → T w → ((listed.setIfInBounds i true).getD L false = false → S w) →
      wpAnyL P ops Q S L fuel (listed.setIfInBounds i true) (a.put oi.dst v) w → wpAnyL P ops Q S L (fuel + 1) listed a w := by
  intro fuel
  induction fuel with
  | zero =>
    intro listed a w _ hc hsz hr hy hTw hSw H
    refine ⟨fun h => (by rw [h] at hr; cases hr), fun j hj => ?_⟩
    by_cases hji : j = i
    · subst hji; exact hy.wpOp hi hTw ⟨hSw, H⟩
    · have := ready_mono hj hji
      rw [H.1] at this
      cases this
  | succ fuel ih =>
    intro listed a w hfree hc hsz hr hy hTw hSw H
    refine ⟨fun h => (by rw [h] at hr; cases hr), fun j hj => ?_⟩
    by_cases hji : j = i
    · subst hji; exact hy.wpOp hi hTw ⟨hSw, H⟩
    · have h1 := H.2 j (ready_mono hj hji)
      obtain ⟨hjun, oj, hoj, hall⟩ := mem_ready.1 hj
      have hnot : ∀ e ∈ oj.after, Region.binds .any e = true → e.on ≠ i := fun e he hb heq => by
        have h1 := hall e he hb
        have h0 := (mem_ready.1 hr).1
        rw [heq] at h1
        rcases Nat.lt_or_ge i listed.size with h' | h'
        · simp [h'] at h0 h1; rw [h0] at h1; cases h1
        · simp [Array.getElem?_eq_none h'] at h1
      have h2 := wpOp_putIf hoj (hfree j oj hoj hji hjun hnot) (fun cs b => hsel i oi cs b hi) (fun cs b => hsel j oj cs b hoj) hQ hy h1
      have hfree' : ∀ k ok, ops[k]? = some ok → k ≠ i → (listed.setIfInBounds j true).getD k true = false →
          (∀ e ∈ ok.after, Region.binds .any e = true → e.on ≠ i) → oi.apart ops ok = true := fun k ok hk hki hun hno => by
        refine hfree k ok hk hki ?_ hno
        by_cases hjk : j = k
        · subst hjk; exact hjun
        · rw [getD_set_ne true hjk] at hun; exact hun
      have hcomm : (listed.setIfInBounds i true).setIfInBounds j true = (listed.setIfInBounds j true).setIfInBounds i true := Array.setIfInBounds_comm _ _ (Ne.symm hji)
      have hless : ∀ k, (listed.setIfInBounds j true).getD k false = false → k ≠ i → ((listed.setIfInBounds i true).setIfInBounds j true).getD k false = false := fun k hk hki => by
        rw [hcomm, getD_set_ne false (Ne.symm hki)]; exact hk
      refine wpOp_mono (fun a' w' h3 => ⟨fun hL => ?_, ih (listed.setIfInBounds j true) a' w' hfree' (hc.set hj) (by simp [hsz]) (ready_mono hr (Ne.symm hji)) h3.1 (hT j listed w' hc hsz hj hr hji fun hL => ?_) ?_ ?_⟩) h2
      · exact h3.2.1 (hless L hL (Ne.symm hiL))
      · exact h3.2.1 (hless L hL (Ne.symm hiL))
      · intro hL
        rw [← hcomm] at hL
        exact h3.2.1 hL
      · rw [← hcomm]
        exact h3.2.2
/-- The operations one after the other. 0: yields a value in whatever world; 1: in every world that meets S; 2: any other. -/
def wpSeqL (P : Program) (ops : Array Oper) (Q : Exit → Act → World → Prop) (S : World → Prop) : List (Nat × Nat) → Act → World → Prop
  | [], a, w => Q .normal a w
  | (i, q) :: r, a, w => ∃ o, ops[i]? = some o ∧ match q with
    | 0 => ∃ v, YieldsIf P ops (fun _ => True) o v a ∧ wpSeqL P ops Q S r (a.put o.dst v) w
    | 1 => ∃ v, YieldsIf P ops S o v a ∧ wpSeqL P ops Q S r (a.put o.dst v) w
    | _ => if Region.wanted o (yielded ops a.tmps) = true then Oper.wp P o a w (fun a' w' => (r.any (fun x => x.2 == 2) = true → S w') ∧ wpSeqL P ops Q S r a' w') Q else wpSeqL P ops Q S r (a.put o.dst undef) w
def schedL (ops : Array Oper) (L : Nat) : List (Nat × Nat) → Array Bool → Bool
  | [], listed => (Region.ready .any ops listed).isEmpty
  | (i, 0) :: r, listed => i != L && Region.free .any ops listed i && (Region.ready .any ops listed).contains i && schedL ops L r (listed.setIfInBounds i true)
  | (i, 1) :: r, listed => i != L && (anc ops ops.size L).contains i && Region.free .any ops listed i && (Region.ready .any ops listed).contains i && schedL ops L r (listed.setIfInBounds i true)
  | (i, _ + 2) :: r, listed => (i == L || r.any (fun x => x.2 == 2)) && (Region.ready .any ops listed == [i]) && schedL ops L r (listed.setIfInBounds i true)
theorem wpSeqL_sound (hn : Region.noSelect ops = true) (hL : L < ops.size) (hQ : ∀ c a d v w, Q (.panic c) (Act.put a d v) w → Q (.panic c) a w) : ∀ (l : List (Nat × Nat)) (listed : Array Bool) (a : Act) (w : World), schedL ops L l listed = true → ClosedL ops listed → listed.size = ops.size → (listed.getD L false = false → S w) → wpSeqL P ops Q S l a w → wpAnyL P ops Q S L l.length listed a w
  | [], listed, a, w, hb, _, _, _, h => ⟨by simpa [schedL] using hb, h⟩
  | (i, 0) :: r, listed, a, w, hb, hc, hsz, hS, ⟨o, ho, v, hy, h⟩ => by
    simp only [schedL, Bool.and_eq_true, bne_iff_ne] at hb
    obtain ⟨⟨⟨h1, h2⟩, h3⟩, h4⟩ := hb
    have hr : i ∈ Region.ready .any ops listed := by simpa using h3
    have hno : (listed.setIfInBounds i true).getD L false = false → listed.getD L false = false := fun h => by rw [getD_set_ne false h1] at h; exact h
    exact wpAnyL_first (T := fun _ => True) h1 ho (Region.noSelect_spec hn) (fun c a w => hQ c a _ _ w) (fun _ _ _ _ _ _ _ _ _ => trivial) r.length listed a w (Region.free_spec ho h2) hc hsz hr hy trivial (fun h => hS (hno h))
      (wpSeqL_sound hn hL hQ r _ _ _ h4 (hc.set hr) (by simp [hsz]) (fun h => hS (hno h)) h)
  | (i, 1) :: r, listed, a, w, hb, hc, hsz, hS, ⟨o, ho, v, hy, h⟩ => by
    simp only [schedL, Bool.and_eq_true, bne_iff_ne] at hb
    obtain ⟨⟨⟨⟨h1, h5⟩, h2⟩, h3⟩, h4⟩ := hb
    have hr : i ∈ Region.ready .any ops listed := by simpa using h3
    have ha : i ∈ anc ops ops.size L := by simpa using h5
    have hno : (listed.setIfInBounds i true).getD L false = false → listed.getD L false = false := fun h => by rw [getD_set_ne false h1] at h; exact h
    have hun : ∀ listed : Array Bool, ClosedL ops listed → listed.size = ops.size → i ∈ Region.ready .any ops listed → listed.getD L false = false ∧ L ∉ Region.ready .any ops listed := fun listed hc hsz hi => by
      have h0 := (mem_ready.1 hi).1
      have hf : listed.getD i false = false := by
        have hlt : i < listed.size := by
          rcases Nat.lt_or_ge i listed.size with h | h
          · exact h
          · simp [Array.getElem?_eq_none h] at h0
        simp [hlt] at h0 ⊢; exact h0
      have hoL : ops[L]? = some ops[L] := Array.getElem?_eq_getElem hL
      refine ⟨?_, fun hLr => ?_⟩
      · cases hq : listed.getD L false with
        | false => rfl
        | true =>
          have := anc_listed hc ops.size L _ hoL (hc L _ hoL hq) hsz i ha
          rw [hf] at this; cases this
      · obtain ⟨_, oL, hoL', hall⟩ := mem_ready.1 hLr
        have := anc_listed hc ops.size L _ hoL' hall hsz i ha
        rw [hf] at this; cases this
    have hSw := hS (hun listed hc hsz hr).1
    exact wpAnyL_first (T := S) h1 ho (Region.noSelect_spec hn) (fun c a w => hQ c a _ _ w) (fun j listed w' hc hsz hj hi hji hS' => hS' (by
        have h6 := hun listed hc hsz hi
        have hjL : j ≠ L := fun e => h6.2 (e ▸ hj)
        rw [getD_set_ne false hjL]; exact h6.1)) r.length listed a w (Region.free_spec ho h2) hc hsz hr hy hSw (fun _ => hSw)
      (wpSeqL_sound hn hL hQ r _ _ _ h4 (hc.set hr) (by simp [hsz]) (fun _ => hSw) h)
  | (i, q + 2) :: r, listed, a, w, hb, hc, hsz, hS, ⟨o, ho, h⟩ => by
    simp only [schedL, Bool.and_eq_true, Bool.or_eq_true, beq_iff_eq] at hb
    obtain ⟨⟨h1, h2⟩, h3⟩ := hb
    have hr : i ∈ Region.ready .any ops listed := by rw [h2]; simp
    refine ⟨fun h0 => by (rw [h0] at hr; cases hr), fun j hj => ?_⟩
    obtain rfl : j = i := by rw [h2] at hj; simpa using hj
    have hLt : j = L → (listed.setIfInBounds j true).getD L false = false → False := fun e hf => by
      subst e
      have : j < listed.size := by omega
      simp [this] at hf
    unfold wpOp
    rw [ho]
    simp only
    split
    · rename_i hw
      rw [if_pos hw] at h
      refine Or.inl (Oper.wp_mono (fun a' w' h' => ?_) h)
      have hs : (listed.setIfInBounds j true).getD L false = false → S w' := fun hf => by
        rcases h1 with h1 | h1
        · exact (hLt h1 hf).elim
        · exact h'.1 h1
      exact ⟨hs, wpSeqL_sound hn hL hQ r _ _ _ h3 (hc.set hr) (by simp [hsz]) hs h'.2⟩
    · rename_i hw
      rw [if_neg hw] at h
      have hs : (listed.setIfInBounds j true).getD L false = false → S w := fun hf => hS (by
        by_cases e : j = L
        · exact (hLt e hf).elim
        · rw [getD_set_ne false e] at hf; exact hf)
      exact ⟨hs, wpSeqL_sound hn hL hQ r _ _ _ h3 (hc.set hr) (by simp [hsz]) hs h⟩
theorem wp_region_seqL {id : Nat} {a : Act} {w : World} (hm : P.follows .mixedOrders = true) (S : World → Prop) (L : Nat) (l : List (Nat × Nat)) (hb : (Region.noSelect ops && (l.length == ops.size) && decide (L < ops.size) && schedL ops L l (Array.replicate ops.size false)) = true)
    (hS : S w.drew) (h : wpSeqL P ops (NoPanic Q) S l a w.drew) : (Code.region id ops true).wp P Q a w := by
  simp only [Bool.and_eq_true, beq_iff_eq, decide_eq_true_eq] at hb
  obtain ⟨⟨⟨h1, h2⟩, h3⟩, h4⟩ := hb
  refine wp_region_noPanic (wp_region_any hm ?_)
  have hc : ClosedL ops (Array.replicate ops.size false) := fun k o ho hk => by
    have hk' := (Array.getElem?_eq_some_iff.1 ho).1
    simp [hk'] at hk
  have h5 := wpAny_of_L _ _ _ _ (wpSeqL_sound h1 h3 (fun _ _ _ _ _ h => h) l _ a _ h4 hc (by simp) (fun _ => hS) h)
  rw [h2] at h5
  exact h5
variable {r : List (Nat × Nat)} {i : Nat} {o : Oper} {d : Option Tmp} {a : Act} {w : World}
theorem sl_end (h : Q .normal a w) : wpSeqL P ops (NoPanic Q) S [] a w := h
theorem sl_q (ho : ops[i]? = some o) (hd : o.dst = d) (hw : Region.wanted o (yielded ops a.tmps) = true) (v : Value) (hy : ∀ w, (execOp a.eval o).run P w = .ok (.value v) w) (h : wpSeqL P ops Q S r (a.put d v) w) : wpSeqL P ops Q S ((i, 0) :: r) a w := by
  subst hd
  exact ⟨o, ho, v, Or.inl ⟨hw, fun w _ => hy w⟩, h⟩
theorem sl_s (ho : ops[i]? = some o) (hd : o.dst = d) (hw : Region.wanted o (yielded ops a.tmps) = true) (v : Value) (hy : ∀ w, S w → (execOp a.eval o).run P w = .ok (.value v) w) (h : wpSeqL P ops Q S r (a.put d v) w) : wpSeqL P ops Q S ((i, 1) :: r) a w := by
  subst hd
  exact ⟨o, ho, v, Or.inl ⟨hw, hy⟩, h⟩
theorem sl_off (ho : ops[i]? = some o) (hd : o.dst = d) (hw : Region.wanted o (yielded ops a.tmps) = false) (h : wpSeqL P ops Q S r (a.put d undef) w) : wpSeqL P ops Q S ((i, 0) :: r) a w := by
  subst hd
  exact ⟨o, ho, undef, Or.inr ⟨hw, rfl⟩, h⟩
theorem sl_load (ho : ops[i]? = some o) (hd : o.dst = d) (hw : Region.wanted o (yielded ops a.tmps) = true) (ty : TypeId) (x : Operand) (hop : o.op = .load ty x) (ad : Addr) (hx : a.eval x = .pointer (some ad)) (v : Value) (hy : ∀ w, S w → (loadVar ty ad).run P w = .ok v w) (h : wpSeqL P ops Q S r (a.put d v) w) : wpSeqL P ops Q S ((i, 1) :: r) a w := by
  subst hd
  exact ⟨o, ho, v, yields_load hw ty x hop ad hx hy, h⟩
theorem sl_wp (ho : ops[i]? = some o) (hw : Region.wanted o (yielded ops a.tmps) = true) (h : ∀ K : Act → World → Prop, (∀ a' w', (r.any (fun x => x.2 == 2) = true → S w') → wpSeqL P ops Q S r a' w' → K a' w') → Oper.wp P o a w K Q) : wpSeqL P ops Q S ((i, 2) :: r) a w :=
  ⟨o, ho, by rw [if_pos hw]; exact h _ (fun _ _ hs hr => ⟨hs, hr⟩)⟩
theorem sl_run (ho : ops[i]? = some o) (hd : o.dst = d) (hw : Region.wanted o (yielded ops a.tmps) = true) (v : Value) (w' : World) (hrun : (execOp a.eval o).run P w = .ok (.value v) w') (hS : r.any (fun x => x.2 == 2) = true → S w') (h : wpSeqL P ops Q S r (a.put d v) w') : wpSeqL P ops Q S ((i, 2) :: r) a w := by
  subst hd
  refine sl_wp ho hw fun K hK => ?_
  unfold Oper.wp
  rw [hrun]
  exact hK _ _ hS h
theorem sl_skip (ho : ops[i]? = some o) (hd : o.dst = d) (hw : Region.wanted o (yielded ops a.tmps) = true) (w' : World) (hrun : (execOp a.eval o).run P w = .ok .skip w') (hS : r.any (fun x => x.2 == 2) = true → S w') (h : wpSeqL P ops Q S r (a.put d undef) w') : wpSeqL P ops Q S ((i, 2) :: r) a w := by
  subst hd
  refine sl_wp ho hw fun K hK => ?_
  unfold Oper.wp
  rw [hrun]
  exact hK _ _ hS h
theorem sl_call (ho : ops[i]? = some o) (hd : o.dst = d) (hw : Region.wanted o (yielded ops a.tmps) = true) {f : FuncId} (hf : Has P f) (fo : Operand) (args : Array Operand) (ts : Array TypeId) (hop : o.op = .call { callee := .value fo, args := args, argTypes := ts }) (hfo : a.eval fo = .func (.func f) #[] #[]) (vs : List Value) (hv : args.toList.map a.eval = vs)
    {R : Ending → World → Prop} (hc : Calls P f vs.toArray w R) (h : ∀ e w', R e w' → ∃ v, e = .returned v ∧ (r.any (fun x => x.2 == 2) = true → S w') ∧ wpSeqL P ops Q S r (a.put d v) w') : wpSeqL P ops Q S ((i, 2) :: r) a w := by
  subst hd
  refine sl_wp ho hw fun K hK => ?_
  unfold Oper.wp
  rw [run_call hf fo args ts hop hfo vs hv, Oper.upon_enter]
  refine hc.mono fun e w' hr => ?_
  obtain ⟨v, rfl, h1, h2⟩ := h e w' hr
  exact hK _ _ h1 h2
theorem sl_invoke (ho : ops[i]? = some o) (hd : o.dst = d) (hw : Region.wanted o (yielded ops a.tmps) = true) {ty : TypeId} {v u : Value} {name : String} {f : FuncId} (hm : MethB P ty v name f u) (ro : Operand) (args : Array Operand) (ts : Array TypeId) (hop : o.op = .call { callee := .invoke ro name, args := args, argTypes := ts }) (hr : a.eval ro = .iface ty v) (vs : List Value) (hv : args.toList.map a.eval = vs)
    {R : Ending → World → Prop} (hc : Calls P f (u :: vs).toArray w R) (h : ∀ e w', R e w' → ∃ v, e = .returned v ∧ (r.any (fun x => x.2 == 2) = true → S w') ∧ wpSeqL P ops Q S r (a.put d v) w') : wpSeqL P ops Q S ((i, 2) :: r) a w := by
  subst hd
  refine sl_wp ho hw fun K hK => ?_
  unfold Oper.wp
  rw [run_invoke hm ro args ts hop hr vs hv, Oper.upon_enter]
  refine hc.mono fun e w' hr => ?_
  obtain ⟨v, rfl, h1, h2⟩ := h e w' hr
  exact hK _ _ h1 h2
theorem run_append (s x : Operand) (ts : Array TypeId) (ho : o.op = .call { callee := .builtin .append, args := #[s, x], argTypes := ts }) (v xv : Value) (hs : a.eval s = v) (hx : a.eval x = xv) {v' : Value} {w' : World}
    (hrun : (Builtin.append_ ts o.type #[v, xv]).run P w = .ok v' w') : (execOp a.eval o).run P w = .ok (.value v') w' := by
  unfold execOp
  simp only [ho, resolve, invoke, builtin, Sem.run_bind, Sem.run_pure, Result.andThen_ok, List.map_toArray, List.map_cons, List.map_nil, hs, hx, hrun]
end
end Go.Proofs.YtpknalpdcfjffaaGreat
/- store.get: the number that bytes are. -/
namespace Go.Proofs.YtpknalpdcfjffaaGreat
open Go Go.RowKit

/-- Bytes that lie below block base. -/
def BytesL (w : World) (base : Nat) (v : Value) (l : List UInt8) : Prop := ∃ (a : Option Addr) (c : Nat), v = .slice a l.length c ∧ l.length ≤ c ∧ c ≤ 9223372036854775807 ∧
  ∀ i, (hi : i < l.length) → ∃ ab ao : Nat, a = some ⟨ab, ao, none⟩ ∧ ab < base ∧ w.cell? ⟨ab, ao + i, none⟩ = some (.int .u8 (l[i].toNat : Nat))
theorem BytesL.below {w w' : World} {base : Nat} {v : Value} {l : List UInt8} (h : BytesL w base v l) (hb : Below base w w') : BytesL w' base v l := by
  obtain ⟨a, c, e, h1, h2, h3⟩ := h
  refine ⟨a, c, e, h1, h2, fun i hi => ?_⟩
  obtain ⟨ab, ao, ea, hlt, hc⟩ := h3 i hi
  exact ⟨ab, ao, ea, hlt, by rw [hb.cell (p := ⟨ab, ao + i, none⟩) hlt]; exact hc⟩
theorem BytesL.slice {w : World} {base : Nat} {v : Value} {l : List UInt8} (h : BytesL w base v l) : ∃ a c, v = .slice a l.length c := by
  obtain ⟨a, c, e, _⟩ := h
  exact ⟨a, c, e⟩
theorem num_take (l : List UInt8) (m : Nat) (h : m < l.length) : num (l.take (m + 1)) = num (l.take m) * 256 + l[m].toNat := by
  have : l.take (m + 1) = l.take m ++ [l[m]] := by rw [List.take_add_one]; simp [h]
  rw [this, num_snoc]
theorem num_take_lt (l : List UInt8) (m : Nat) (h : m < l.length) (h8 : l.length ≤ 8) : num (l.take m) < 72057594037927936 := by
  have h1 := num_lt (l.take m)
  have h2 : (l.take m).length ≤ 7 := by rw [List.length_take]; omega
  have h3 : 256 ^ (l.take m).length ≤ 256 ^ 7 := Nat.pow_le_pow_right (by decide) h2
  have h4 : (256 : Nat) ^ 7 = 72057594037927936 := by decide
  omega
theorem wraps_u64' : ∀ n : Int, 0 ≤ n → n < 2 ^ 64 → IntKind.u64.wrap n = n := fun n h0 h1 => by
  have h1' : n < 18446744073709551616 := h1
  simp [IntKind.wrap, IntKind.bits, IntKind.signed]; omega
theorem or_byte (n c : Nat) (hn : n < 72057594037927936) (hc : c < 256) : bits .or .u64 ((n : Int) * 256) (c : Int) = ((n * 256 + c : Nat) : Int) := by
  have h := bits_join .u64 64 (by decide) wraps_u64' 8 ((n : Int) * 256) (c : Int) (by omega) (by omega) (by omega) (by omega) (by omega) (by omega)
  rw [h]; omega
set_option maxHeartbeats 16000000 in
set_option maxRecDepth 100000 in
theorem get_any (base : Nat) (v : Value) (l : List UInt8) (w : World) (h : BytesL w base v l) (h8 : l.length ≤ 8) :
    Calls Tryz.prog 31 #[v] w fun e w' => e = .returned (.int .u64 (num l : Nat)) ∧ w = w' := by
  obtain ⟨a, c, rfl, h1, h2, h3⟩ := h
  have H3 := Lib.hid h3
  have n0 : (l.length : Int) ≤ 8 := by omega
  clear h3
  go_enter Tryz.func31, Tryz.ntmps31
  go_wp2_with fail
  go_loop [3, 8] (fun nv kv => ∃ m : Nat, kv = .int .i64 m ∧ m ≤ l.length ∧ nv = .int .u64 (num (l.take m) : Nat)) (fun _ kv => (20 - intOf kv).toNat)
  case atStart => exact ⟨0, rfl, by omega, by simp [num]⟩
  case round =>
    obtain ⟨m, rfl, hm, rfl⟩ := hrel
    by_cases hlt : m < l.length
    · have m0 : (m : Int) < (l.length : Int) := by omega
      obtain ⟨ab, ao, rfl, _, hc⟩ := H3.out m hlt
      have hn := num_take_lt l m hlt h8
      have hcc := l[m].toNat_lt
      have ho := or_byte (num (l.take m)) l[m].toNat hn hcc
      have HT := Lib.hid (num_take l m hlt)
      have n1 : (num (l.take m) : Int) < 72057594037927936 := by omega
      generalize num (l.take m) = N at hn ho HT n1 ⊢
      generalize l[m].toNat = C at hc hcc ho HT
      have c1 : (C : Int) < 256 := by omega
      clear hn hcc
      go_wp2_with fail
      go_round
      case rel => exact ⟨m + 1, by go_num, by omega, by rw [HT.out, Int.natCast_add, Int.natCast_mul]; rfl⟩
      case measure => simp [intOf]; omega
    · obtain rfl : m = l.length := by omega
      go_wp2_with fail
      go_ret
      exact ⟨rfl, rfl⟩
end Go.Proofs.YtpknalpdcfjffaaGreat
/- append(b, l...) for bytes, however many. No walk. -/
namespace Go.Proofs.YtpknalpdcfjffaaGreat
open Go Go.RowKit

theorem append_bl {w : World} {base B : Nat} {v : Value} {l m : List UInt8} {a : Option Addr} {c : Nat} (h : OwnB w base v l) (hx : BytesL w B (.slice a m.length c) m) (hn : l.length ≤ 1000000000) (hm : m.length ≤ 150000000000000) (hb : base ≤ w.heap.size) (ty : TypeId) :
    ∃ (v' : Value) (w' : World), (Builtin.append_ #[22, 22] ty #[v, .slice a m.length c]).run Tryz.prog w = .ok v' w' ∧ OwnB w' base v' (l ++ m) ∧ Below base w w' := by
  obtain ⟨i0, hi, hz0, hz1, hz2⟩ := info_parts binfo
  obtain ⟨a', c', e, h1, h2, h3⟩ := hx
  obtain ⟨rfl, rfl⟩ : a = a' ∧ c = c' := by simpa using e
  have e1 : bcs (l ++ m) = bcs l ++ bcs m := by simp [bcs]
  cases a with
  | some A =>
    have hnews : ∀ j u, (bcs m)[j]? = some u → w.cell? (A.add j) = some u := fun j u hj => by
      have hj' : j < m.length := by have := (List.getElem?_eq_some_iff.1 hj).1; simpa [bcs] using this
      obtain ⟨ab, ao, ea, _, hc⟩ := h3 j hj'
      obtain rfl := Option.some.inj ea
      have hu : u = .int .u8 (m[j].toNat : Nat) := by
        have : (bcs m)[j]? = some (.int .u8 (m[j].toNat : Nat)) := by simp [bcs, hj']
        rw [this] at hj; exact (Option.some.inj hj).symm
      rw [hu, Go.WideShapes.add_plain]
      exact hc
    obtain ⟨v', w', r1, r2, r3, _⟩ := run_append_own_wide (P := Tryz.prog) w base 22 ty 5 i0 (.int .u8 0) 1 1 Tryz.underlying22 hi hz0 hz1 hz2 rfl (by decide)
      v l.length (bcs l) h A m.length c (bcs m) (by simp [bcs]) hnews (bcs_one m) (by unfold maxLen; omega) (by omega) hb
    refine ⟨v', w', r1, ?_, (Below.refl base w).grown r3 hb (fun k hk => (World.ownsRow.lt h k hk).1)⟩
    unfold OwnB
    rw [List.length_append, e1]
    exact r2
  | none =>
    have hm0 : m = [] := by
      cases m with
      | nil => rfl
      | cons x r =>
        obtain ⟨_, _, ea, _⟩ := h3 0 (by simp)
        cases ea
    subst hm0
    rw [List.append_nil]
    have h' := h
    obtain ⟨q1, q2⟩ := h
    rcases q2 with ⟨rfl, h0⟩ | ⟨g, cap, cur, rfl, hbg, hg, hnc, hcm, hcs, htake⟩
    · refine ⟨.slice none 0 0, w, ?_, h', Below.refl _ _⟩
      simp [Builtin.append_, run_underlying Tryz.underlying22, sizeOf, typeInfo, hi, Builtin.lenOf, Builtin.firstCells, loadCells, loadCellsFrom]
    · have hr := run_append_room_src (P := Tryz.prog) w 22 22 ty 5 i0 Tryz.underlying22 hi g 0 l.length cap (.slice none 0 c) 0 [] (Src.ofNil w Tryz.underlying22 c) (by omega) (fun j hj => by simp at hj) (fun j hj => by simp at hj)
      exact ⟨_, w, hr, h', Below.refl _ _⟩
end Go.Proofs.YtpknalpdcfjffaaGreat
/- Stores and loads of a whole value in a plain list of operations; what follows asks of the world by name. No walk. -/
namespace Go.Proofs.YtpknalpdcfjffaaGreat
open Go Go.RowKit

section
variable {T : TypeId} {ops : Array Oper} {rest : List Oper} {op : Oper} {a : Act} {w : World} {Q : Exit → Act → World → Prop}
theorem list_storeAgg (hgd : op.guard = none) (x y : Operand) (ho : op.op = .store T x y) (b o : Nat) (hx : a.eval x = .pointer (some ⟨b, o, none⟩)) (es : List Value) (hy : a.eval y = .agg es.toArray) (hsz : (Tryz.prog.info? T).map (·.size) = some es.length) (h1 : ∀ v ∈ es, v.oneCell' = true) (ht : w.there b o es.length)
    (k : ∀ w', w' = w.setCells b o es → wpList Tryz.prog ops Q rest (a.put op.dst undef) w') : wpList Tryz.prog ops Q (op :: rest) a w := by
  have hst : (storeVar T ⟨b, o, none⟩ (.agg es.toArray)).run Tryz.prog w = .ok () (w.setCells b o es) :=
    run_storeVar_mid w b o T es.toArray (by rw [List.size_toArray]; exact ht) (by rw [hsz, List.size_toArray]) (all_oneCell_toArray h1)
  refine list_skip hgd _ ?_ (k _ rfl)
  unfold execOp
  simp only [ho, hx, hy, Instr.storeAt, Instr.sureAddr, Sem.run_bind, Sem.run_pure, Result.andThen_ok, hst]
end
theorem list_loadAgg {T : TypeId} {ops : Array Oper} {rest : List Oper} {op : Oper} {a : Act} {w : World} {Q : Exit → Act → World → Prop} {ad : Addr} {v : Value} (hrun : (loadVar T ad).run Tryz.prog w = .ok v w) (hgd : op.guard = none) (x : Operand) (ho : op.op = .load T x) (hx : a.eval x = .pointer (some ad))
    (k : wpList Tryz.prog ops Q rest (a.put op.dst v) w) : wpList Tryz.prog ops Q (op :: rest) a w := by
  refine list_run hgd _ w ?_ k
  unfold execOp
  simp only [ho, hx, Instr.loadAt, Instr.sureAddr, Sem.run_bind, Sem.run_pure, Result.andThen_ok, hrun]
theorem list_skipE {ops : Array Oper} {rest : List Oper} {op : Oper} {a : Act} {w : World} {Q : Exit → Act → World → Prop} {T : TypeId} (hgd : op.guard = none) (x y : Operand) (_ho : op.op = .store T x y) (w' : World) (hrun : (execOp a.eval op).run Tryz.prog w = .ok .skip w') (h : ∀ w'', w'' = w' → wpList Tryz.prog ops Q rest (a.put op.dst undef) w'') : wpList Tryz.prog ops Q (op :: rest) a w := list_skip hgd _ hrun (h _ rfl)
theorem list_storeEl {T ST : TypeId} {n : Nat} {ev : List Value → Value} {zc : List Value} {ops : Array Oper} {rest : List Oper} {op : Oper} {a : Act} {w : World} {Q : Exit → Act → World → Prop} (hT : ElT T ST n ev zc) (hgd : op.guard = none) (x y : Operand) (ho : op.op = .store T x y) (b o : Nat) (hx : a.eval x = .pointer (some ⟨b, o, none⟩)) (es : List Value) (hy : a.eval y = ev es) (hl : es.length = n) (h1 : ∀ v ∈ es, v.oneCell' = true) (ht : w.there b o n)
    (k : ∀ w', w' = w.setCells b o es → wpList Tryz.prog ops Q rest (a.put op.dst undef) w') : wpList Tryz.prog ops Q (op :: rest) a w := by
  refine list_skip hgd _ ?_ (k _ rfl)
  unfold execOp
  simp only [ho, hx, hy, Instr.storeAt, Instr.sureAddr, Sem.run_bind, Sem.run_pure, Result.andThen_ok, hT.store w b o es hl h1 ht]
theorem PAt.thereMid {w : World} {p : Nat} {cs : List Value} (h : PAt w p cs) (o n : Nat) (hn : o + n ≤ cs.length) : w.there p o n := fun j hj => by
  have := h.1.there (n := cs.length) (Nat.le_refl _) (o + j) (by omega)
  simpa [Addr.add, Nat.zero_add] using this
theorem all_one {es : List Value} (h : es.all (·.oneCell') = true) : ∀ v ∈ es, v.oneCell' = true := List.all_eq_true.1 h
end Go.Proofs.YtpknalpdcfjffaaGreat
/- The icosahedron's grid of frequency one, plain: places, their normal addresses, nodes, and where a place is among them. No program. -/
namespace Go.Proofs.YtpknalpdcfjffaaGreat
open Go

/-- A place: a face and three weights. -/
structure Pl where
  f : Int
  a : Int
  b : Int
  c : Int
deriving DecidableEq
/-- The corners of a face. -/
def crn (f : Nat) : Nat × Nat × Nat :=
  if f / 5 = 0 then (0, 1 + f % 5, 1 + (f % 5 + 1) % 5)
  else if f / 5 = 1 then (1 + f % 5, 6 + f % 5, 1 + (f % 5 + 1) % 5)
  else if f / 5 = 2 then (6 + f % 5, 6 + (f % 5 + 1) % 5, 1 + (f % 5 + 1) % 5)
  else (11, 6 + (f % 5 + 1) % 5, 6 + f % 5)
theorem crn_lt (f : Nat) : (crn f).1 < 12 ∧ (crn f).2.1 < 12 ∧ (crn f).2.2 < 12 := by
  unfold crn
  split
  · simp; omega
  · split
    · simp; omega
    · split <;> (simp; omega)
theorem crn_ne : ∀ f, f < 20 → (crn f).1 ≠ (crn f).2.1 ∧ (crn f).1 ≠ (crn f).2.2 ∧ (crn f).2.1 ≠ (crn f).2.2 := by decide
/-- The weights of the twelve vertices. -/
def wgt (p : Pl) : List Int := (((List.replicate 12 (0 : Int)).set (crn p.f.toNat).1 p.a).set (crn p.f.toNat).2.1 p.b).set (crn p.f.toNat).2.2 p.c
theorem wgt_length (p : Pl) : (wgt p).length = 12 := by simp [wgt]
/-- The address of weights on a face. -/
def onP (f : Nat) (w : List Int) : Pl := ⟨f, w.getD (crn f).1 0, w.getD (crn f).2.1 0, w.getD (crn f).2.2 0⟩
def onB (f : Nat) (w : List Int) : Bool := decide ((onP f w).a + (onP f w).b + (onP f w).c = 840)
/-- The addresses of weights on the first k faces. -/
def adr (w : List Int) : Nat → List Pl
  | 0 => []
  | k + 1 => adr w k ++ if onB k w = true then [onP k w] else []
def norP (p : Pl) : Pl := (adr (wgt p) 20).headD ⟨0, 0, 0, 0⟩
/-- The places at a face's vertices. -/
def vtx (f : Nat) : List Pl := [⟨f, 0, 0, 840⟩, ⟨f, 0, 840, 0⟩, ⟨f, 840, 0, 0⟩]
def nodes1 : List Pl := (List.range 20).flatMap fun f => (vtx f).filter fun p => norP p == p
theorem nodes1_length : nodes1.length = 12 := by decide +kernel
def lessP (p q : Pl) : Bool := if p.f ≠ q.f then decide (p.f < q.f) else if p.a ≠ q.a then decide (p.a < q.a) else decide (p.b < q.b)
/-- The search among places. -/
def fnd (l : List Pl) (p : Pl) : Nat → Nat → Nat → Nat × Nat
  | 0, lo, hi => (lo, hi)
  | k + 1, lo, hi => if lo < hi then (if lessP (l.getD ((lo + hi) / 2) ⟨0, 0, 0, 0⟩) p = true then fnd l p k ((lo + hi) / 2 + 1) hi else fnd l p k lo ((lo + hi) / 2)) else (lo, hi)
/-- Where a place is, by the faces. -/
def idx1 (p : Pl) : Nat := (nodes1.takeWhile fun q => q != norP p).length
theorem nor_all : ∀ f, f < 20 → ∀ p ∈ vtx f, adr (wgt p) 20 ≠ [] ∧ (fnd nodes1 (norP p) 12 0 12).1 = idx1 p ∧ idx1 p < 12 ∧ nodes1.getD (idx1 p) ⟨0, 0, 0, 0⟩ = norP p := by decide +kernel
end Go.Proofs.YtpknalpdcfjffaaGreat
/- The reference's places: valid, corners, weights, addresses. -/
namespace Go.Proofs.YtpknalpdcfjffaaGreat
open Go Go.RowKit

def Pl.val (p : Pl) : Value := .agg #[.int .i64 p.f, .int .i64 p.a, .int .i64 p.b, .int .i64 p.c]
/-- A place with the weights of a face. -/
def Pl.Ok (p : Pl) : Prop := 0 ≤ p.f ∧ p.f < 20 ∧ 0 ≤ p.a ∧ p.a ≤ 840 ∧ 0 ≤ p.b ∧ p.b ≤ 840 ∧ 0 ≤ p.c ∧ p.c ≤ 840 ∧ p.a + p.b + p.c = 840
set_option maxHeartbeats 4000000 in
theorem valid_any (p : Pl) (h : p.Ok) (w : World) : Calls Tryz.prog 93 #[p.val] w fun e w' => e = .returned (.bool true) ∧ Below w.heap.size w w' := by
  obtain ⟨f, a, b, c⟩ := p
  obtain ⟨h1, h2, h3, h4, h5, h6, h7, h8, h9⟩ := h
  unfold Pl.val
  simp only at *
  have hs : ((a + b + c : Int) == 840) = true := by simpa using h9
  clear h9
  go_enter Tryz.func93, Tryz.ntmps93
  go_wp2_with fail
  go_ret
  exact ⟨rfl, (Below.refl _ _).alloc (Nat.le_refl _) _⟩
def crnV (f : Nat) : Value := .agg #[.int .i64 (crn f).1, .int .i64 (crn f).2.1, .int .i64 (crn f).2.2]
set_option maxHeartbeats 16000000 in
theorem corners_any (f : Nat) (hf : f < 20) (w : World) : Calls Tryz.prog 96 #[.int .i64 f] w fun e w' => e = .returned (.tuple #[crnV f, .int .i64 0]) ∧ Below w.heap.size w w' := by
  have hs : f = 0 ∨ f = 1 ∨ f = 2 ∨ f = 3 ∨ f = 4 ∨ f = 5 ∨ f = 6 ∨ f = 7 ∨ f = 8 ∨ f = 9 ∨ f = 10 ∨ f = 11 ∨ f = 12 ∨ f = 13 ∨ f = 14 ∨ f = 15 ∨ f = 16 ∨ f = 17 ∨ f = 18 ∨ f = 19 := by omega
  clear hf
  rcases hs with rfl | rfl | rfl | rfl | rfl | rfl | rfl | rfl | rfl | rfl | rfl | rfl | rfl | rfl | rfl | rfl | rfl | rfl | rfl | rfl
  all_goals
    go_enter Tryz.func96, Tryz.ntmps96
    go_wp2_with fail
    refine bodyPost_ret (v := .tuple #[crnV _, .int .i64 0]) (by simp [results, Tryz.results96, go_sem]; rfl) rfl ⟨rfl, ?_⟩
    first
      | exact (((Below.refl _ _).alloc (Nat.le_refl _) _).setCell (Nat.le_refl _) _).setCell (Nat.le_refl _) _
      | exact ((((Below.refl _ _).alloc (Nat.le_refl _) _).setCell (Nat.le_refl _) _).setCell (Nat.le_refl _) _).setCell (Nat.le_refl _) _
      | exact ((Below.refl _ _).alloc (Nat.le_refl _) _).setCell (Nat.le_refl _) _
      | exact (Below.refl _ _).alloc (Nat.le_refl _) _
end Go.Proofs.YtpknalpdcfjffaaGreat
/- The reference's places: weights, and the address on a face. -/
namespace Go.Proofs.YtpknalpdcfjffaaGreat
open Go Go.RowKit

theorem cell_alloc {w : World} {a : Addr} {v : Value} (o : Obj) (h : w.cell? a = some v) : (w.alloc o).cell? a = some v := cell_then ((Below.refl _ _).alloc (Nat.le_refl _) o) h
theorem cell_new (w : World) (cs : Array Value) (t : TypeId) {H i : Nat} {v : Value} (hH : w.heap.size = H) (hv : cs[i]? = some v) : (w.alloc (.cells cs t)).cell? ⟨H, i, none⟩ = some v := by
  subst hH; simpa using hv
theorem soft_new (w : World) (cs : Array Value) (t : TypeId) {H : Nat} (hH : w.heap.size = H) (i : Nat) : (w.alloc (.cells cs t)).frozen? ⟨H, i, none⟩ = false := by
  subst hH; simp
theorem rowT_w : RowT 206 12 := ⟨by kernel_rfl, _, Tryz.underlying206, rfl⟩
def wgtV (p : Pl) : Value := .agg ((wgt p).map (Value.int .i64)).toArray
set_option maxHeartbeats 16000000 in
theorem weights_any (f : Nat) (hf : f < 20) (a b c : Int) (w : World) : Calls Tryz.prog 94 #[Pl.val ⟨f, a, b, c⟩] w fun e w' => e = .returned (wgtV ⟨f, a, b, c⟩) ∧ Below w.heap.size w w' := by
  obtain ⟨h0, h1, h2⟩ := crn_lt f
  obtain ⟨e0, e1, e2⟩ := crn_ne f hf
  have HC := Lib.hid (fun w' => corners_any f hf w')
  have HW : Hid (wgtV ⟨f, a, b, c⟩ = .agg ((((List.replicate 12 (Value.int .i64 0)).set (crn f).1 (.int .i64 a)).set (crn f).2.1 (.int .i64 b)).set (crn f).2.2 (.int .i64 c)).toArray) := by
    unfold Hid wgtV wgt
    simp [List.map_set]
  rw [HW.out]
  unfold Pl.val
  unfold crnV at HC
  generalize (crn f).1 = x at *
  generalize (crn f).2.1 = y at *
  generalize (crn f).2.2 = z at *
  have x0 : (0 : Int) ≤ (x : Int) := by omega
  have y0 : (0 : Int) ≤ (y : Int) := by omega
  have z0 : (0 : Int) ≤ (z : Int) := by omega
  have x1 : (x : Int) < 12 := by omega
  have y1 : (y : Int) < 12 := by omega
  have z1 : (z : Int) < 12 := by omega
  clear h0 h1 h2 hf HW
  go_enter Tryz.func94, Tryz.ntmps94
  go_wp2_with fail
  refine (HC.out _).mono ?_
  rintro e w1 ⟨rfl, hb⟩
  go_wp2_with fail
  obtain ⟨wz, hwz⟩ : ∃ wz, wz = w1.alloc (.cells #[.int .i64 x, .int .i64 y, .int .i64 z] 210) := ⟨_, rfl⟩
  obtain ⟨cb, hcb⟩ : ∃ cb, cb = w1.heap.size := ⟨_, rfl⟩
  obtain ⟨hh, hhe⟩ : ∃ hh, hh = w.heap.size + 1 + 1 := ⟨_, rfl⟩
  have k0 : wz.cell? ⟨w.heap.size, 1, none⟩ = some (.int .i64 a) := by rw [hwz]; exact cell_alloc _ (cell_then hb (cell_alloc _ (cell_alloc _ (by simp))))
  have k1 : wz.cell? ⟨w.heap.size, 2, none⟩ = some (.int .i64 b) := by rw [hwz]; exact cell_alloc _ (cell_then hb (cell_alloc _ (cell_alloc _ (by simp))))
  have k2 : wz.cell? ⟨w.heap.size, 3, none⟩ = some (.int .i64 c) := by rw [hwz]; exact cell_alloc _ (cell_then hb (cell_alloc _ (cell_alloc _ (by simp))))
  have l0 : wz.cell? ⟨cb, 0, none⟩ = some (.int .i64 x) := by rw [hwz, hcb]; simp
  have l1 : wz.cell? ⟨cb, 1, none⟩ = some (.int .i64 y) := by rw [hwz, hcb]; simp
  have l2 : wz.cell? ⟨cb, 2, none⟩ = some (.int .i64 z) := by rw [hwz, hcb]; simp
  have hsz : hh < w1.heap.size := by have := hb.size; simp at this; omega
  have KA : ∀ j : Nat, j < 12 → wz.cell? ⟨hh, j, none⟩ = some (.int .i64 0) := by
    intro j hj
    rw [hwz, hhe]
    refine cell_alloc _ (cell_then hb (cell_new _ _ _ (by simp) ?_))
    have : j = 0 ∨ j = 1 ∨ j = 2 ∨ j = 3 ∨ j = 4 ∨ j = 5 ∨ j = 6 ∨ j = 7 ∨ j = 8 ∨ j = 9 ∨ j = 10 ∨ j = 11 := by omega
    rcases this with rfl | rfl | rfl | rfl | rfl | rfl | rfl | rfl | rfl | rfl | rfl | rfl <;> simp
  have KF : ∀ j : Nat, wz.frozen? ⟨hh, j, none⟩ = false := by
    intro j
    have h1 : (w1.alloc (.cells #[.int .i64 x, .int .i64 y, .int .i64 z] 210)).frozen? ⟨hh, j, none⟩ = w1.frozen? ⟨hh, j, none⟩ := World.frozen?_of_block (w := w1) (Below.heap_alloc _ _ _ hsz)
    rw [hwz, h1, hhe, hb.frozen (p := ⟨w.heap.size + 1 + 1, j, none⟩) (by simp)]
    exact soft_new _ _ _ (by simp) j
  have m0 := KA x (by omega)
  have m1 := KA y (by omega)
  have m2 := KA z (by omega)
  have n0 := KF x
  have n1 := KF y
  have n2 := KF z
  have g0 : ¬ hh = cb := by omega
  have g1 : ¬ hh = w.heap.size := by omega
  have g2 : ¬ cb = hh := by omega
  have g3 : ¬ w.heap.size = hh := by omega
  rw [← hwz, ← hcb, ← hhe]
  have HKA := Lib.hid KA
  have HKF := Lib.hid KF
  have HB := Lib.hid hb
  have Hwz := Lib.hid hwz
  have Hhe := Lib.hid hhe
  have Hsz := Lib.hid hsz
  clear KA KF hb hwz hcb hhe hsz
  have d0 : ¬ x = y := e0
  have d1 : ¬ x = z := e1
  have d2 : ¬ y = z := e2
  have d3 : ¬ y = x := fun e => e0 e.symm
  have d4 : ¬ z = x := fun e => e1 e.symm
  have d5 : ¬ z = y := fun e => e2 e.symm
  clear e0 e1 e2
  have HR : Hid (RowAt wz hh (List.replicate 12 (Value.int .i64 0))) := by
    refine ⟨by simp, fun i hi => ?_, fun i hi => HKF.out i⟩
    rw [List.length_replicate] at hi
    rw [HKA.out i hi, List.getElem?_replicate, if_pos hi]
  have HR2 : Hid (RowAt wz (w.heap.size + 1) (List.replicate 12 (Value.int .i64 0))) := by
    unfold Hid
    rw [Hwz.out]
    exact ((((RowAt.new _ (List.replicate 12 (Value.int .i64 0)) (by simp) _ (by simp)).alloc _).below HB.out).alloc _)
  have Hb1 : Hid (w.heap.size + 1 < hh) := by unfold Hid; have := Hhe.out; omega
  have Hfin : Hid (Below w.heap.size w wz) := by
    unfold Hid
    rw [Hwz.out]
    exact (((((Below.refl _ _).alloc (Nat.le_refl _) _).alloc (by simp) _).alloc (by simp; omega) _).trans (HB.out.mono (by simp; omega))).alloc (by have := HB.out.size; simp at this; omega) _
  go_region
  obtain ⟨wy, hwy⟩ : ∃ wy, wy = ((wz.setCell ⟨hh, x, none⟩ (.int .i64 a)).setCell ⟨hh, y, none⟩ (.int .i64 b)).setCell ⟨hh, z, none⟩ (.int .i64 c) := ⟨_, rfl⟩
  have HRy : Hid (RowAt wy hh ((((List.replicate 12 (Value.int .i64 0)).set x (.int .i64 a)).set y (.int .i64 b)).set z (.int .i64 c))) := by
    unfold Hid; rw [hwy]
    exact ((HR.out.set x (by simp; omega) _).set y (by simp; omega) _).set z (by simp; omega) _
  have HR2y : Hid (RowAt wy (w.heap.size + 1) (List.replicate 12 (Value.int .i64 0))) := by
    unfold Hid; rw [hwy]
    exact ((HR2.out.other (by have := Hb1.out; simp; omega) _).other (by have := Hb1.out; simp; omega) _).other (by have := Hb1.out; simp; omega) _
  have Hfy : Hid (Below w.heap.size w wy) := by
    unfold Hid; rw [hwy]
    exact ((Hfin.out.setCell (by have := Hb1.out; simp; omega) _).setCell (by have := Hb1.out; simp; omega) _).setCell (by have := Hb1.out; simp; omega) _
  rw [← hwy]
  clear hwy
  have ho : ∀ v ∈ ((((List.replicate 12 (Value.int .i64 0)).set x (.int .i64 a)).set y (.int .i64 b)).set z (.int .i64 c)), v.oneCell' = true := by
    intro v hv
    rcases List.mem_or_eq_of_mem_set hv with hv | rfl
    · rcases List.mem_or_eq_of_mem_set hv with hv | rfl
      · rcases List.mem_or_eq_of_mem_set hv with hv | rfl
        · rw [(List.mem_replicate.1 hv).2]; rfl
        · rfl
      · rfl
    · rfl
  have Ho := Lib.hid ho
  clear ho HR HR2 Hfin HKA HKF HB Hwz k0 k1 k2 l0 l1 l2 m0 m1 m2 n0 n1 n2
  go_wp2_with (first
    | (refine row_load rfl _ rfl _ rfl _ HRy.out (by rw [List.length_set, List.length_set, List.length_set, List.length_replicate]; exact rowT_w) ?_)
    | (refine row_store rfl _ _ rfl _ rfl _ _ rfl HR2y.out (by simp) (by rw [List.length_replicate]; exact rowT_w) Ho.out ?_; intro wq EQ HQ))
  refine ret_row rfl _ _ EQ (by rw [List.length_set, List.length_set, List.length_set, List.length_replicate]; exact rowT_w) rfl rfl ⟨rfl, Hfy.out.drew.trans (HQ.below (B := w.heap.size) (Nat.le_succ _))⟩
end Go.Proofs.YtpknalpdcfjffaaGreat
/- The reference's places: the address on a face. -/
namespace Go.Proofs.YtpknalpdcfjffaaGreat
open Go Go.RowKit

theorem rowT_p : RowT 29 4 := ⟨by kernel_rfl, _, Tryz.underlying29, rfl⟩
def Pl.cells (p : Pl) : List Value := [.int .i64 p.f, .int .i64 p.a, .int .i64 p.b, .int .i64 p.c]
theorem Pl.one (p : Pl) : ∀ v ∈ p.cells, v.oneCell' = true := by intro v hv; simp [Pl.cells] at hv; rcases hv with rfl | rfl | rfl | rfl <;> rfl
def WOk (l : List Int) : Prop := l.length = 12 ∧ ∀ x ∈ l, 0 ≤ x ∧ x ≤ 840
def wV (l : List Int) : Value := .agg (l.map (Value.int .i64)).toArray
def FOn (f a b c : Int) (q : Bool) (pb : Nat) (k : Nat) (v : Value) (_ : World) : Prop := match k with
  | 0 => v = .agg (Pl.cells ⟨f, a, b, c⟩).toArray
  | 1 => v = .pointer (some ⟨pb, 1, none⟩)
  | 2 => v = .int .i64 a
  | 3 => v = .pointer (some ⟨pb, 2, none⟩)
  | 4 => v = .int .i64 b
  | 5 => v = .int .i64 (a + b)
  | 6 => v = .pointer (some ⟨pb, 3, none⟩)
  | 7 => v = .int .i64 c
  | 8 => v = .int .i64 (a + b + c)
  | 9 => v = .bool q
  | 11 => v = .bool q
  | _ => True
/-- What the world holds in region 3. -/
def SOn (w : World) (f a b c : Int) (pb : Nat) (d : Nat → Bool) (w' : World) : Prop := RowAt w' pb (Pl.cells ⟨f, a, b, c⟩) ∧ Below w.heap.size w w' ∧ (d 10 = true → RowAt w' (w.heap.size + 1) (Pl.cells ⟨f, a, b, c⟩)) ∧ (d 10 = false → RowAt w' (w.heap.size + 1) (Pl.cells ⟨0, 0, 0, 0⟩))
set_option maxHeartbeats 16000000 in
set_option maxRecDepth 100000 in
theorem on_any (f : Nat) (hf : f < 20) (l : List Int) (hl : WOk l) (w : World) : Calls Tryz.prog 95 #[.int .i64 f, wV l] w fun e w' => e = .returned (.tuple #[(onP f l).val, .bool (onB f l)]) ∧ Below w.heap.size w w' := by
  obtain ⟨h0, h1, h2⟩ := crn_lt f
  have HC := Lib.hid (fun w' => corners_any f hf w')
  have hP : (onP f l).val = .agg #[.int .i64 f, .int .i64 (l.getD (crn f).1 0), .int .i64 (l.getD (crn f).2.1 0), .int .i64 (l.getD (crn f).2.2 0)] := rfl
  have hB : onB f l = decide (l.getD (crn f).1 0 + l.getD (crn f).2.1 0 + l.getD (crn f).2.2 0 = 840) := rfl
  have hr : ∀ j, j < 12 → 0 ≤ l.getD j 0 ∧ l.getD j 0 ≤ 840 ∧ l[j]? = some (l.getD j 0) := by
    intro j hj
    have hjl : j < l.length := by have := hl.1; omega
    have := hl.2 _ (List.getElem_mem hjl)
    rw [List.getD_eq_getElem?_getD, List.getElem?_eq_getElem hjl]
    exact ⟨this.1, this.2, rfl⟩
  obtain ⟨a0, a1, a2⟩ := hr _ h0
  obtain ⟨b0, b1, b2⟩ := hr _ h1
  obtain ⟨c0, c1, c2⟩ := hr _ h2
  rw [hP, hB]
  unfold crnV at HC
  generalize l.getD (crn f).1 0 = a at *
  generalize l.getD (crn f).2.1 0 = b at *
  generalize l.getD (crn f).2.2 0 = c at *
  generalize (crn f).1 = x at *
  generalize (crn f).2.1 = y at *
  generalize (crn f).2.2 = z at *
  have x0 : (0 : Int) ≤ (x : Int) := by omega
  have y0 : (0 : Int) ≤ (y : Int) := by omega
  have z0 : (0 : Int) ≤ (z : Int) := by omega
  have x1 : (x : Int) < 12 := by omega
  have y1 : (y : Int) < 12 := by omega
  have z1 : (z : Int) < 12 := by omega
  obtain ⟨q, hq⟩ : ∃ q, q = decide (a + b + c = 840) := ⟨_, rfl⟩
  rw [← hq]
  have Hq := Lib.hid hq
  have Hl := Lib.hid hl.1
  have Ha2 := Lib.hid a2
  have Hb2 := Lib.hid b2
  have Hc2 := Lib.hid c2
  have hone : ∀ v ∈ l.map (Value.int .i64), v.oneCell' = true := by intro v hv; obtain ⟨z, _, rfl⟩ := List.mem_map.1 hv; rfl
  have Hone := Lib.hid hone
  clear h0 h1 h2 hf hP hB hr a2 b2 c2 hl hq hone
  unfold wV
  generalize hcs : l.map (Value.int .i64) = cs at *
  have HL : Hid (cs.length = 12) := by unfold Hid; rw [← hcs, List.length_map]; exact Hl.out
  have Hx : Hid (cs[x]? = some (.int .i64 a)) := by unfold Hid; rw [← hcs, List.getElem?_map, Ha2.out]; rfl
  have Hy : Hid (cs[y]? = some (.int .i64 b)) := by unfold Hid; rw [← hcs, List.getElem?_map, Hb2.out]; rfl
  have Hz : Hid (cs[z]? = some (.int .i64 c)) := by unfold Hid; rw [← hcs, List.getElem?_map, Hc2.out]; rfl
  clear hcs
  go_enter Tryz.func95, Tryz.ntmps95
  go_wp2_with fail
  refine (HC.out _).mono ?_
  rintro e w1 ⟨rfl, hb⟩
  go_wp2_with fail
  obtain ⟨wz, hwz⟩ : ∃ wz, wz = w1.alloc (.cells #[.int .i64 x, .int .i64 y, .int .i64 z] 210) := ⟨_, rfl⟩
  obtain ⟨cb, hcb⟩ : ∃ cb, cb = w1.heap.size := ⟨_, rfl⟩
  have l0 : wz.cell? ⟨cb, 0, none⟩ = some (.int .i64 x) := by rw [hwz, hcb]; simp
  have l1 : wz.cell? ⟨cb, 1, none⟩ = some (.int .i64 y) := by rw [hwz, hcb]; simp
  have l2 : wz.cell? ⟨cb, 2, none⟩ = some (.int .i64 z) := by rw [hwz, hcb]; simp
  have HR : Hid (RowAt wz w.heap.size cs) := by
    unfold Hid
    rw [hwz]
    exact (((RowAt.new _ cs (by have := HL.out; omega) _ rfl).alloc _).below hb).alloc _
  have HR2 : Hid (RowAt wz (w.heap.size + 1) (Pl.cells ⟨0, 0, 0, 0⟩)) := by
    unfold Hid
    rw [hwz]
    exact ((RowAt.new _ (Pl.cells ⟨0, 0, 0, 0⟩) (by simp [Pl.cells]) _ (by simp)).below hb).alloc _
  have Hfin : Hid (Below w.heap.size w wz) := by
    unfold Hid
    rw [hwz]
    exact ((((Below.refl _ _).alloc (Nat.le_refl _) _).alloc (by simp) _).trans (hb.mono (by simp; omega))).alloc (by have := hb.size; simp at this; omega) _
  have hsz : w.heap.size + 1 < cb := by have := hb.size; simp at this; omega
  rw [← hwz, ← hcb]
  have m0 := HR.out.at x Hx.out
  have m1 := HR.out.at y Hy.out
  have m2 := HR.out.at z Hz.out
  have hcz : wz.heap.size = cb + 1 := by rw [hwz, hcb]; simp
  have Hcz := Lib.hid hcz
  have L0 : ∀ o, (wz.alloc o).cell? ⟨cb, 0, none⟩ = some (.int .i64 x) := fun o => cell_alloc o l0
  have L1 : ∀ o, (wz.alloc o).cell? ⟨cb, 1, none⟩ = some (.int .i64 y) := fun o => cell_alloc o l1
  have L2 : ∀ o, (wz.alloc o).cell? ⟨cb, 2, none⟩ = some (.int .i64 z) := fun o => cell_alloc o l2
  have M0 : ∀ o, (wz.alloc o).cell? ⟨w.heap.size, x, none⟩ = some (.int .i64 a) := fun o => cell_alloc o m0
  have M1 : ∀ o, (wz.alloc o).cell? ⟨w.heap.size, y, none⟩ = some (.int .i64 b) := fun o => cell_alloc o m1
  have M2 : ∀ o, (wz.alloc o).cell? ⟨w.heap.size, z, none⟩ = some (.int .i64 c) := fun o => cell_alloc o m2
  clear hwz hcb hb hcz
  go_region
  clear L0 L1 L2 M0 M1 M2 l0 l1 l2 m0 m1 m2
  go_upto_region 3 with fail
  obtain ⟨pb, hpb⟩ : ∃ pb, pb = wz.heap.size := ⟨_, rfl⟩
  have HPy : Hid (RowAt (wz.alloc (.cells #[.int .i64 f, .int .i64 a, .int .i64 b, .int .i64 c] 29)).drew pb (Pl.cells ⟨f, a, b, c⟩)) := by rw [hpb]; exact (RowAt.new _ (Pl.cells ⟨f, a, b, c⟩) (by simp [Pl.cells]) _ rfl).drew
  have HRy : Hid (RowAt (wz.alloc (.cells #[.int .i64 f, .int .i64 a, .int .i64 b, .int .i64 c] 29)).drew (w.heap.size + 1) (Pl.cells ⟨0, 0, 0, 0⟩)) := (HR2.out.alloc _).drew
  have Hfy : Hid (Below w.heap.size w (wz.alloc (.cells #[.int .i64 f, .int .i64 a, .int .i64 b, .int .i64 c] 29)).drew) := (Hfin.out.alloc Hfin.out.size _).drew
  have Hpb : Hid (w.heap.size + 1 < pb) := by have := Hcz.out; unfold Hid; omega
  have Hpn : Hid (pb ≠ w.heap.size + 1) := by have := Hpb.out; unfold Hid; omega
  have He5 : Hid (IntKind.i64.wrap (a + b) = a + b) := IntWalk.i64_in _ (by omega)
  have He8 : Hid (IntKind.i64.wrap (a + b + c) = a + b + c) := IntWalk.i64_in _ (by omega)
  have Hqe : Hid ((a + b + c == 840) = q) := by unfold Hid; rw [Hq.out]; rfl
  rw [← hpb]
  clear hpb
  refine wp_region_slots (by kernel_rfl) 38 rfl (by kernel_rfl) (by kernel_rfl) 5 33 (by kernel_rfl) (SOn w f a b c pb) (FOn f a b c q pb) ?hS0 ?hop ?hend
  case hS0 => exact ⟨HPy.out.drew, Hfy.out.drew, fun h => by simp at h, fun _ => HRy.out.drew⟩
  case hop =>
    refine ⟨?_, ?_, ?_, ?_, ?_, ?_, ?_, ?_, ?_, ?_, ?_, ?_, trivial⟩
    all_goals intro d ac wx hd hcl hS hA haft K hK
    · have f8 : ac.tmps.getD 8 undef = .pointer (some ⟨pb, 0, none⟩) := same_slot hA 8 (by kernel_rfl)
      exact hop_row_load rfl _ rfl _ f8 _ hS.1 rowT_p (hK _ _ rfl (fun _ _ _ h => h) (show SOn w f a b c pb (fun k => k == 0 || d k) wx from ⟨hS.1, hS.2.1, fun h => hS.2.2.1 (by simpa using h), fun h => hS.2.2.2 (by simpa using h)⟩))
    · have f8 : ac.tmps.getD 8 undef = .pointer (some ⟨pb, 0, none⟩) := same_slot hA 8 (by kernel_rfl)
      refine hop_val rfl (.pointer (some ⟨pb, 1, none⟩)) (w' := wx) ?_ (hK _ _ rfl (fun _ _ _ h => h) (show SOn w f a b c pb (fun k => k == 1 || d k) wx from ⟨hS.1, hS.2.1, fun h => hS.2.2.1 (by simpa using h), fun h => hS.2.2.2 (by simpa using h)⟩))
      simp [execOp, Act.eval, f8, go_sem, -Array.getD_eq_getD_getElem?]
    · have f29 : ac.tmps.getD 29 undef = .pointer (some ⟨pb, 1, none⟩) := (haft ⟨1, .data⟩ (by simp) rfl).2 _ rfl
      have c1 := hS.1.at 1 rfl
      refine hop_val rfl (.int .i64 a) (w' := wx) ?_ (hK _ _ rfl (fun _ _ _ h => h) (show SOn w f a b c pb (fun k => k == 2 || d k) wx from ⟨hS.1, hS.2.1, fun h => hS.2.2.1 (by simpa using h), fun h => hS.2.2.2 (by simpa using h)⟩))
      simp [execOp, Act.eval, f29, c1, go_sem, -Array.getD_eq_getD_getElem?]
    · have f8 : ac.tmps.getD 8 undef = .pointer (some ⟨pb, 0, none⟩) := same_slot hA 8 (by kernel_rfl)
      refine hop_val rfl (.pointer (some ⟨pb, 2, none⟩)) (w' := wx) ?_ (hK _ _ rfl (fun _ _ _ h => h) (show SOn w f a b c pb (fun k => k == 3 || d k) wx from ⟨hS.1, hS.2.1, fun h => hS.2.2.1 (by simpa using h), fun h => hS.2.2.2 (by simpa using h)⟩))
      simp [execOp, Act.eval, f8, go_sem, -Array.getD_eq_getD_getElem?]
    · have f31 : ac.tmps.getD 31 undef = .pointer (some ⟨pb, 2, none⟩) := (haft ⟨3, .data⟩ (by simp) rfl).2 _ rfl
      have c2 := hS.1.at 2 rfl
      refine hop_val rfl (.int .i64 b) (w' := wx) ?_ (hK _ _ rfl (fun _ _ _ h => h) (show SOn w f a b c pb (fun k => k == 4 || d k) wx from ⟨hS.1, hS.2.1, fun h => hS.2.2.1 (by simpa using h), fun h => hS.2.2.2 (by simpa using h)⟩))
      simp [execOp, Act.eval, f31, c2, go_sem, -Array.getD_eq_getD_getElem?]
    · have f30 : ac.tmps.getD 30 undef = .int .i64 a := (haft ⟨2, .data⟩ (by simp) rfl).2 _ rfl
      have f32 : ac.tmps.getD 32 undef = .int .i64 b := (haft ⟨4, .data⟩ (by simp) rfl).2 _ rfl
      refine hop_val rfl (.int .i64 (a + b)) (w' := wx) ?_ (hK _ _ rfl (fun _ _ _ h => h) (show SOn w f a b c pb (fun k => k == 5 || d k) wx from ⟨hS.1, hS.2.1, fun h => hS.2.2.1 (by simpa using h), fun h => hS.2.2.2 (by simpa using h)⟩))
      simp [execOp, Act.eval, f30, f32, go_sem, -Array.getD_eq_getD_getElem?]
      exact He5.out
    · have f8 : ac.tmps.getD 8 undef = .pointer (some ⟨pb, 0, none⟩) := same_slot hA 8 (by kernel_rfl)
      refine hop_val rfl (.pointer (some ⟨pb, 3, none⟩)) (w' := wx) ?_ (hK _ _ rfl (fun _ _ _ h => h) (show SOn w f a b c pb (fun k => k == 6 || d k) wx from ⟨hS.1, hS.2.1, fun h => hS.2.2.1 (by simpa using h), fun h => hS.2.2.2 (by simpa using h)⟩))
      simp [execOp, Act.eval, f8, go_sem, -Array.getD_eq_getD_getElem?]
    · have f34 : ac.tmps.getD 34 undef = .pointer (some ⟨pb, 3, none⟩) := (haft ⟨6, .data⟩ (by simp) rfl).2 _ rfl
      have c3 := hS.1.at 3 rfl
      refine hop_val rfl (.int .i64 c) (w' := wx) ?_ (hK _ _ rfl (fun _ _ _ h => h) (show SOn w f a b c pb (fun k => k == 7 || d k) wx from ⟨hS.1, hS.2.1, fun h => hS.2.2.1 (by simpa using h), fun h => hS.2.2.2 (by simpa using h)⟩))
      simp [execOp, Act.eval, f34, c3, go_sem, -Array.getD_eq_getD_getElem?]
    · have f33 : ac.tmps.getD 33 undef = .int .i64 (a + b) := (haft ⟨5, .data⟩ (by simp) rfl).2 _ rfl
      have f35 : ac.tmps.getD 35 undef = .int .i64 c := (haft ⟨7, .data⟩ (by simp) rfl).2 _ rfl
      refine hop_val rfl (.int .i64 (a + b + c)) (w' := wx) ?_ (hK _ _ rfl (fun _ _ _ h => h) (show SOn w f a b c pb (fun k => k == 8 || d k) wx from ⟨hS.1, hS.2.1, fun h => hS.2.2.1 (by simpa using h), fun h => hS.2.2.2 (by simpa using h)⟩))
      simp [execOp, Act.eval, f33, f35, go_sem, -Array.getD_eq_getD_getElem?]
      exact He8.out
    · have f36 : ac.tmps.getD 36 undef = .int .i64 (a + b + c) := (haft ⟨8, .data⟩ (by simp) rfl).2 _ rfl
      refine hop_val rfl (.bool q) (w' := wx) ?_ (hK _ _ rfl (fun _ _ _ h => h) (show SOn w f a b c pb (fun k => k == 9 || d k) wx from ⟨hS.1, hS.2.1, fun h => hS.2.2.1 (by simpa using h), fun h => hS.2.2.2 (by simpa using h)⟩))
      simp [execOp, Act.eval, f36, go_sem, -Array.getD_eq_getD_getElem?]
      exact Hqe.out
    · have f4 : ac.tmps.getD 4 undef = .pointer (some ⟨w.heap.size + 1, 0, none⟩) := same_slot hA 4 (by kernel_rfl)
      have f28 : ac.tmps.getD 28 undef = .agg (Pl.cells ⟨f, a, b, c⟩).toArray := (haft ⟨0, .data⟩ (by simp) rfl).2 _ rfl
      refine hop_row_store rfl _ _ rfl _ f4 _ (Pl.cells ⟨f, a, b, c⟩) f28 (hS.2.2.2 hd) rfl rowT_p (Pl.one _) (fun w3 h3 ha => hK undef _ trivial (fun _ _ _ h => h) ⟨hS.1.apart ha Hpn.out, hS.2.1.trans (ha.below (Nat.le_succ _)), fun _ => h3, fun h => by simp at h⟩)
    · have f37 : ac.tmps.getD 37 undef = .bool q := (haft ⟨9, .data⟩ (by simp) rfl).2 _ rfl
      refine hop_val rfl (.bool q) (w' := wx) ?_ (hK _ _ rfl (fun _ _ _ h => h) (show SOn w f a b c pb (fun k => k == 11 || d k) wx from ⟨hS.1, hS.2.1, fun h => hS.2.2.1 (by simpa using h), fun h => hS.2.2.2 (by simpa using h)⟩))
      simp [execOp, Act.eval, f37, go_sem, -Array.getD_eq_getD_getElem?]
  case hend =>
    intro u w4 d hd hS hF
    have hr := hS.2.2.1 (hd 10 (by decide))
    have hu : u 5 = .bool q := hF 11 _ rfl
    have hbl := hS.2.1
    clear hF hd hS
    simp only [mixL, hu]
    go_wp2_with fail
    exact ret_row2 rfl _ _ _ hr rowT_p rfl rfl rfl ⟨rfl, hbl⟩
end Go.Proofs.YtpknalpdcfjffaaGreat
/- The reference's places: addresses and the normal one. -/
namespace Go.Proofs.YtpknalpdcfjffaaGreat
open Go Go.RowKit

/-- Places as cells. -/
def pcells (l : List Pl) : List Value := l.flatMap Pl.cells
theorem pcells_append (a b : List Pl) : pcells (a ++ b) = pcells a ++ pcells b := by simp [pcells]
theorem pcells_length (l : List Pl) : (pcells l).length = l.length * 4 := by
  induction l with
  | nil => rfl
  | cons p r ih => simp [pcells, Pl.cells] at ih ⊢; omega
theorem pcells_at : ∀ (l : List Pl) (i : Nat) (h : i < l.length) (j : Nat), j < 4 → (pcells l)[i * 4 + j]? = (l[i].cells)[j]?
  | p :: r, 0, _, j, hj => by
    show (p.cells ++ pcells r)[0 * 4 + j]? = _
    rw [Nat.zero_mul, Nat.zero_add, List.getElem?_append_left (by show j < 4; exact hj)]; rfl
  | p :: r, i + 1, h, j, hj => by
    show (p.cells ++ pcells r)[(i + 1) * 4 + j]? = _
    rw [List.getElem?_append_right (by show 4 ≤ _; omega)]
    have e : (i + 1) * 4 + j - p.cells.length = i * 4 + j := by show _ - 4 = _; omega
    rw [e]
    exact pcells_at r i (by simpa using h) j hj
/-- v is a slice of places of the call's own. -/
def OwnP (w : World) (base : Nat) (v : Value) (l : List Pl) : Prop := w.ownsRow base 29 4 v l.length (pcells l)
theorem OwnP.nil (w : World) (base : Nat) : OwnP w base (.slice none 0 0) [] := World.ownsRow_nil w base _ 4
theorem OwnP.below {w w' : World} {base : Nat} {v : Value} {l : List Pl} (h : OwnP w base v l) (hb : Below w.heap.size w w') : OwnP w' base v l := ownsRow_below h hb
theorem pinfo : (Tryz.prog.info? 29).map (fun i => (i.zero, i.size, i.bytes)) = some (some (.agg #[.int .i64 0, .int .i64 0, .int .i64 0, .int .i64 0]), 4, 32) := by kernel_rfl
theorem append_pl {w : World} {base : Nat} {v : Value} {l : List Pl} (h : OwnP w base v l) (p : Pl) (hn : l.length ≤ 1000000000) (hb : base ≤ w.heap.size) (ty : TypeId) :
    ∃ (v' : Value) (w' : World), (Builtin.append_ #[194, 194] ty #[v, .slice (some ⟨w.heap.size, 0, none⟩) 1 1]).run Tryz.prog (w.alloc (.cells p.cells.toArray 29)) = .ok v' w' ∧
      OwnP w' base v' (l ++ [p]) ∧ Below base w w' := by
  have h1 := append_new 194 29 Tryz.underlying194 pinfo rfl (by decide) h p.cells 1 rfl p.one hn (by omega) (by decide) hb ty
  unfold OwnP
  rw [pcells_append, List.length_append]
  have : pcells [p] = p.cells := by simp [pcells]
  rw [this]; exact h1
/-- The cells of place i. -/
theorem OwnP.at {w : World} {base : Nat} {v : Value} {l : List Pl} (h : OwnP w base v l) (h0 : 0 < l.length) : ∃ g cap, v = .slice (some ⟨g, 0, none⟩) l.length cap ∧ base ≤ g ∧ l.length ≤ cap ∧ ∀ i, (hi : i < l.length) → w.rangeAt g (i * 4) l[i].cells := by
  have h' := h
  obtain ⟨h1, h2⟩ := h
  rcases h2 with ⟨e, h0'⟩ | ⟨g, cap, cur, e, hg, hh, hc, _⟩
  · omega
  · refine ⟨g, cap, e, hg, hc, fun i hi j u hj => ?_⟩
    have hlt : j < 4 := (List.getElem?_eq_some_iff.1 hj).1
    rw [← pcells_at l i hi j hlt] at hj
    have := World.ownsRow.cells h' (g := g) (by rw [e]; rfl) _ _ hj
    rwa [Go.WideShapes.add_plain, Nat.zero_add] at this
theorem OwnP.mono {w : World} {base B : Nat} {v : Value} {l : List Pl} (h : OwnP w base v l) (hB : B ≤ base) : OwnP w B v l := by
  obtain ⟨h1, h2⟩ := h
  refine ⟨h1, ?_⟩
  rcases h2 with h2 | ⟨g, cap, cur, e, hg, r⟩
  · exact Or.inl h2
  · exact Or.inr ⟨g, cap, cur, e, Nat.le_trans hB hg, r⟩
theorem OwnP.slice {w : World} {base : Nat} {v : Value} {l : List Pl} (h : OwnP w base v l) : ∃ a c, v = .slice a l.length c := by
  rcases h.2 with ⟨e, h0⟩ | ⟨g, cap, cur, e, _⟩
  · exact ⟨none, 0, by rw [e, h0]⟩
  · exact ⟨_, _, e⟩
end Go.Proofs.YtpknalpdcfjffaaGreat
/- The reference's places: addresses, the normal place, whether a place is normal. -/
namespace Go.Proofs.YtpknalpdcfjffaaGreat
open Go Go.RowKit

theorem wgt_ok (p : Pl) (h : p.Ok) : WOk (wgt p) := by
  obtain ⟨h1, h2, h3, h4, h5, h6, h7, h8, h9⟩ := h
  refine ⟨wgt_length p, fun x hx => ?_⟩
  unfold wgt at hx
  rcases List.mem_or_eq_of_mem_set hx with hx | rfl
  · rcases List.mem_or_eq_of_mem_set hx with hx | rfl
    · rcases List.mem_or_eq_of_mem_set hx with hx | rfl
      · rw [(List.mem_replicate.1 hx).2]; omega
      · omega
    · omega
  · omega
theorem adr_length (w : List Int) : ∀ k, (adr w k).length ≤ k
  | 0 => Nat.le_refl _
  | k + 1 => by
    have := adr_length w k
    unfold adr
    rw [List.length_append]
    split <;> simp <;> omega
theorem wcells_len (l : List Int) (h : WOk l) : (l.map (Value.int .i64)).length = 12 := by rw [List.length_map]; exact h.1
set_option maxHeartbeats 16000000 in
set_option maxRecDepth 100000 in
theorem addresses_any (f : Nat) (a b c : Int) (hok : Pl.Ok ⟨f, a, b, c⟩) (w : World) :
    Calls Tryz.prog 91 #[Pl.val ⟨f, a, b, c⟩] w fun e w' => ∃ v, e = .returned (.tuple #[v, .int .i64 0]) ∧ OwnP w' w.heap.size v (adr (wgt ⟨f, a, b, c⟩) 20) ∧ Below w.heap.size w w' := by
  have hf : f < 20 := by have := hok.2.1; simp at this; omega
  have hw := wgt_ok _ hok
  have HW := Lib.hid hw
  have HV := Lib.hid (fun w' => valid_any ⟨f, a, b, c⟩ hok w')
  have HWt := Lib.hid (fun w' => weights_any f hf a b c w')
  have HR0 : Hid (RowAt (w.alloc (.cells (Pl.cells ⟨f, a, b, c⟩).toArray 29)) w.heap.size (Pl.cells ⟨f, a, b, c⟩)) := RowAt.new _ _ (by simp [Pl.cells]) _ rfl
  have HB0 : Hid (Below w.heap.size w (w.alloc (.cells (Pl.cells ⟨f, a, b, c⟩).toArray 29))) := (Below.refl _ _).alloc (Nat.le_refl _) _
  obtain ⟨W, hW⟩ : ∃ W, W = wgt ⟨f, a, b, c⟩ := ⟨_, rfl⟩
  have eW : wgtV ⟨f, a, b, c⟩ = wV W := by rw [hW]; rfl
  rw [eW] at HWt
  unfold wV at HWt
  rw [← hW] at HW ⊢
  have HWl := Lib.hid (wcells_len W HW.out)
  have HW1 : Hid (∀ v ∈ W.map (Value.int .i64), v.oneCell' = true) := by intro v hv; obtain ⟨z, _, rfl⟩ := List.mem_map.1 hv; rfl
  clear hok hw hf hW eW
  unfold Pl.val
  simp only [Pl.cells] at HR0 HB0
  go_enter Tryz.func91, Tryz.ntmps91
  go_wp2_with (refine row_load rfl _ rfl _ rfl _ HR0.out rowT_p ?_)
  refine (HV.out _).mono ?_
  rintro e w1 ⟨rfl, hb1⟩
  have HR1 := Lib.hid (HR0.out.below hb1)
  have HB1 := Lib.hid (below_then HB0.out hb1)
  clear hb1
  go_wp2_with (refine row_load rfl _ rfl _ rfl _ HR1.out rowT_p ?_)
  refine (HWt.out _).mono ?_
  rintro e w2 ⟨rfl, hb2⟩
  have HB2 := Lib.hid (below_then HB1.out hb2)
  clear hb2
  have EN : Hid (RowAt (w2.alloc (.cells #[.int .i64 0, .int .i64 0, .int .i64 0, .int .i64 0, .int .i64 0, .int .i64 0, .int .i64 0, .int .i64 0, .int .i64 0, .int .i64 0, .int .i64 0, .int .i64 0] 206)) w2.heap.size (List.replicate 12 (Value.int .i64 0))) := RowAt.new _ (List.replicate 12 (Value.int .i64 0)) (by simp) _ rfl
  have Hal : Hid (∀ w4, ApartR w2.heap.size (w2.alloc (.cells #[.int .i64 0, .int .i64 0, .int .i64 0, .int .i64 0, .int .i64 0, .int .i64 0, .int .i64 0, .int .i64 0, .int .i64 0, .int .i64 0, .int .i64 0, .int .i64 0] 206)) w4 → Below w2.heap.size w2 w4) := fun w4 h => ((Below.refl _ _).alloc (Nat.le_refl _) _).trans (h.below (Nat.le_refl _))
  go_upto_block 0 with (refine row_store rfl _ _ rfl _ rfl _ (W.map (Value.int .i64)) rfl EN.out (by rw [HWl.out]; rfl) rowT_w HW1.out ?_; intro w3 e3 h3)
  have hb3 := Hal.out w3 h3
  have HB3 := Lib.hid (below_then HB2.out hb3)
  obtain ⟨xb, hxb⟩ : ∃ xb, xb = w2.heap.size := ⟨_, rfl⟩
  have HE3 : Hid (RowAt w3 xb (W.map (Value.int .i64))) := by rw [hxb]; exact e3
  rw [← hxb]
  have Hxb : Hid (w.heap.size ≤ xb + 1 ∧ xb + 1 ≤ w3.heap.size) := by unfold Hid; have := e3.lt; have := HB2.out.size; omega
  clear hb3 e3 h3 hxb Hal EN HB2 HB1 HR1 HR0 HB0
  go_wp2_with fail
  go_loopw [5, 6] (fun lv kv wr => ∃ (k : Nat) (ov : Value), ov = lv ∧ kv = .int .i64 k ∧ k ≤ 20 ∧ Hid (OwnP wr (xb + 1) ov (adr W k)) ∧ Hid (RowAt wr xb (W.map (Value.int .i64))) ∧ Hid (Below w.heap.size w wr) ∧ Hid (xb + 1 ≤ wr.heap.size)) (fun _ kv _ => (20 - intOf kv).toNat)
  case atStart => exact ⟨0, _, rfl, rfl, by omega, OwnP.nil _ _, HE3.out, HB3.out, Hxb.out.2⟩
  case round =>
    obtain ⟨k, ov, rfl, rfl, hk, hown, hr, hbr, hxs⟩ := hrel
    clear HE3 HB3
    by_cases hlt : k < 20
    · have k0 : (k : Int) < 20 := by omega
      have HC := Lib.hid (fun w' => on_any k hlt W HW.out w')
      unfold wV Pl.val at HC
      obtain ⟨q, hq⟩ : ∃ q, q = onB k W := ⟨_, rfl⟩
      rw [← hq] at HC
      have Hq := Lib.hid hq
      have HA : Hid (adr W (k + 1) = adr W k ++ if onB k W = true then [onP k W] else []) := rfl
      rw [← hq] at HA
      have Hlen := Lib.hid (adr_length W k)
      clear hq
      generalize onP k W = pp at *
      obtain ⟨pf, pa, pb, pc⟩ := pp
      simp only at HC
      go_wp2_with (refine row_load rfl _ rfl _ rfl _ hr.out (by rw [HWl.out]; exact rowT_w) ?_)
      refine (HC.out _).mono ?_
      rintro e w4 ⟨rfl, hb4⟩
      have HB4 := Lib.hid (below_then hbr.out hb4)
      have HR4 := Lib.hid (hr.out.below hb4)
      have HO4 := Lib.hid (hown.out.below hb4)
      have Hx4 : Hid (xb + 1 ≤ w4.heap.size) := Nat.le_trans hxs.out hb4.size
      have HP4 : Hid (RowAt (w4.alloc (.cells #[.int .i64 pf, .int .i64 pa, .int .i64 pb, .int .i64 pc] 29)) w4.heap.size (Pl.cells ⟨pf, pa, pb, pc⟩)) := RowAt.new _ (Pl.cells ⟨pf, pa, pb, pc⟩) (by simp [Pl.cells]) _ rfl
      clear hb4 hr hown
      cases q
      · go_wp2_with fail
        go_roundw
        case rel => exact ⟨k + 1, ov, rfl, by go_num, by omega, by show OwnP _ _ _ _; rw [HA.out]; simpa using HO4.out.below ((Below.refl _ _).alloc (Nat.le_refl _) _), HR4.out.alloc _, HB4.out.alloc HB4.out.size _, by show xb + 1 ≤ _; have := Hx4.out; simp; omega⟩
        case measure => simp [intOf]; omega
      · have HAp : Hid (∃ (v' : Value) (w' : World), (Builtin.append_ #[194, 194] 194 #[ov, .slice (some ⟨w4.heap.size + 1, 0, none⟩) 1 1]).run Tryz.prog ((w4.alloc (.cells #[.int .i64 pf, .int .i64 pa, .int .i64 pb, .int .i64 pc] 29)).alloc (.cells #[.int .i64 pf, .int .i64 pa, .int .i64 pb, .int .i64 pc] 29)) = .ok v' w' ∧
            OwnP w' (xb + 1) v' (adr W (k + 1)) ∧ RowAt w' xb (W.map (Value.int .i64)) ∧ Below w.heap.size w w' ∧ xb + 1 ≤ w'.heap.size) := by
          have hal : Below w4.heap.size w4 (w4.alloc (.cells #[.int .i64 pf, .int .i64 pa, .int .i64 pb, .int .i64 pc] 29)) := (Below.refl _ _).alloc (Nat.le_refl _) _
          have e : (w4.alloc (.cells #[.int .i64 pf, .int .i64 pa, .int .i64 pb, .int .i64 pc] 29)).heap.size = w4.heap.size + 1 := by simp
          obtain ⟨v', w', a1, a2, a3⟩ := append_pl (HO4.out.below hal) ⟨pf, pa, pb, pc⟩ (by have := Hlen.out; omega) (by have := Hx4.out; omega) 194
          rw [e] at a1
          exact ⟨v', w', a1, by rw [HA.out]; exact a2, (HR4.out.alloc _).of_block (a3.block _ (Nat.lt_succ_self _)), (below_then HB4.out hal).trans (a3.mono Hxb.out.1), by have := a3.size; have := Hx4.out; omega⟩
        have hsz4 : (Pl.cells ⟨pf, pa, pb, pc⟩).length = 4 := rfl
        go_wp2_with (first
          | (refine row_load rfl _ rfl _ rfl _ HP4.out rowT_p ?_)
          | (at_builtin; obtain ⟨v', w', hrun, hown', hr', hB', hx'⟩ := HAp.out; have Hx' := Lib.hid hx'; have Hrun := Lib.hid hrun; have Hown' := Lib.hid hown'; have HB' := Lib.hid hB'; have Hr' := Lib.hid hr'; clear hrun hown' hB' hr' hx'; refine wpList_append_run rfl _ _ _ rfl _ _ _ _ rfl rfl Hrun.out ?_))
        go_roundw
        case rel => exact ⟨k + 1, v', rfl, by go_num, by omega, Hown'.out, Hr'.out, HB'.out, Hx'.out⟩
        case measure => simp [intOf]; omega
    · obtain rfl : k = 20 := by omega
      obtain ⟨oa, oc, hov⟩ := hown.out.slice
      go_wp2_with fail
      refine bodyPost_ret (v := .tuple #[ov, .int .i64 0]) (by simp [results, Tryz.results91, go_sem]) rfl ?_
      exact ⟨ov, rfl, hown.out.mono Hxb.out.1, hbr.out⟩
end Go.Proofs.YtpknalpdcfjffaaGreat
/- The reference's places: the normal place, whether a place is normal. -/
namespace Go.Proofs.YtpknalpdcfjffaaGreat
open Go Go.RowKit

theorem pl_load {ops : Array Oper} {rest : List Oper} {op : Oper} {a : Act} {w : World} {Q : Exit → Act → World → Prop} (hgd : op.guard = none) (x : Operand) (ho : op.op = .load 29 x)
    (b o : Nat) (hx : a.eval x = .pointer (some ⟨b, o, none⟩)) (p : Pl) (h : w.rangeAt b o p.cells)
    (k : wpList Tryz.prog ops Q rest (a.put op.dst p.val) w) : wpList Tryz.prog ops Q (op :: rest) a w := by
  obtain ⟨h0, d, h1, h2⟩ := rowT_p
  exact wpList_load_mid hgd _ x ho b o hx p.cells d h h1 h2 h0 k
/-- A place is loaded though it has a guard. -/
theorem row_load_w {ops : Array Oper} {rest : List Oper} {op : Oper} {a : Act} {w : World} {Q : Exit → Act → World → Prop} {t : TypeId} (hw : Region.wanted op (yielded ops a.tmps) = true) (x : Operand) (ho : op.op = .load t x)
    (b : Nat) (hx : a.eval x = .pointer (some ⟨b, 0, none⟩)) (cs : List Value) (h : RowAt w b cs) (ht : RowT t cs.length)
    (k : wpList Tryz.prog ops Q rest (a.put op.dst (.agg cs.toArray)) w) : wpList Tryz.prog ops Q (op :: rest) a w := by
  obtain ⟨h0, d, h1, h2⟩ := ht
  refine wpList_step fun K hK => ?_
  rw [if_pos hw]
  unfold Oper.wp execOp
  simp only [ho, hx, Sem.run_bind, run_loadAt_mid w b 0 t cs d h.range h1 h2 h0, Result.andThen_ok, Sem.run_pure]
  exact hK _ _ k
def AdrOk (p : Pl) : Prop := p.Ok ∧ adr (wgt p) 20 ≠ []
set_option maxHeartbeats 16000000 in
set_option maxRecDepth 100000 in
theorem normal_any (f : Nat) (a b c : Int) (hok : AdrOk ⟨f, a, b, c⟩) (w : World) :
    Calls Tryz.prog 89 #[Pl.val ⟨f, a, b, c⟩] w fun e w' => e = .returned (.tuple #[(norP ⟨f, a, b, c⟩).val, .int .i64 0]) ∧ Below w.heap.size w w' := by
  have HA := Lib.hid (fun w' => addresses_any f a b c hok.1 w')
  have hlen := adr_length (wgt ⟨f, a, b, c⟩) 20
  have hN : norP ⟨f, a, b, c⟩ = (adr (wgt ⟨f, a, b, c⟩) 20).headD ⟨0, 0, 0, 0⟩ := rfl
  rw [hN]
  have hne := hok.2
  generalize adr (wgt ⟨f, a, b, c⟩) 20 = l at *
  obtain ⟨p, r, rfl⟩ : ∃ p r, l = p :: r := by
    cases l with
    | nil => exact absurd rfl hne
    | cons p r => exact ⟨p, r, rfl⟩
  have HR0 : Hid (RowAt ((w.alloc (.cells (Pl.cells ⟨f, a, b, c⟩).toArray 29)).alloc (.cells (Pl.cells ⟨0, 0, 0, 0⟩).toArray 29)) w.heap.size (Pl.cells ⟨f, a, b, c⟩)) := (RowAt.new _ _ (by simp [Pl.cells]) _ rfl).alloc _
  have HR1 : Hid (RowAt ((w.alloc (.cells (Pl.cells ⟨f, a, b, c⟩).toArray 29)).alloc (.cells (Pl.cells ⟨0, 0, 0, 0⟩).toArray 29)) (w.heap.size + 1) (Pl.cells ⟨0, 0, 0, 0⟩)) := RowAt.new _ _ (by simp [Pl.cells]) _ (by simp)
  have HB0 : Hid (Below w.heap.size w ((w.alloc (.cells (Pl.cells ⟨f, a, b, c⟩).toArray 29)).alloc (.cells (Pl.cells ⟨0, 0, 0, 0⟩).toArray 29))) := ((Below.refl _ _).alloc (Nat.le_refl _) _).alloc (by simp) _
  clear hok hN hne hlen
  unfold Pl.val
  simp only [Pl.cells] at HR0 HB0 HR1
  simp only [List.headD_cons]
  go_enter Tryz.func89, Tryz.ntmps89
  go_wp2_with (refine row_load rfl _ rfl _ rfl _ HR0.out rowT_p ?_)
  refine (HA.out _).mono ?_
  rintro e w1 ⟨v, rfl, hown, hb1⟩
  obtain ⟨g, cap, rfl, hg, hcap, hc⟩ := hown.at (by simp)
  have Hc : Hid (w1.rangeAt g 0 p.cells) := by have := hc 0 (by simp); show w1.rangeAt g 0 p.cells; simpa using this
  have HR2 := Lib.hid (HR1.out.below hb1)
  have HB1 := Lib.hid (below_then HB0.out hb1)
  have hl0 : (0 : Int) < ((p :: r).length : Int) := by simp
  clear hown hb1 hg hc hcap
  generalize (p :: r).length = n at *
  obtain ⟨pf, pa, pb, pc⟩ := p
  go_wp2_with (first
    | (refine pl_load rfl _ rfl g 0 rfl _ Hc.out ?_)
    | (refine row_store rfl _ _ rfl _ rfl _ (Pl.cells ⟨pf, pa, pb, pc⟩) rfl HR2.out rfl rowT_p (Pl.one _) ?_; intro w3 e3 h3))
  exact ret_row2 rfl _ _ _ e3 rowT_p rfl rfl rfl ⟨rfl, HB1.out.trans (h3.below (B := w.heap.size) (Nat.le_succ _))⟩
set_option maxHeartbeats 16000000 in
set_option maxRecDepth 100000 in
theorem isNormal_any (f : Nat) (a b c : Int) (hok : AdrOk ⟨f, a, b, c⟩) (q : Bool) (hq : q = decide ((⟨f, a, b, c⟩ : Pl) = norP ⟨f, a, b, c⟩)) (w : World) :
    Calls Tryz.prog 88 #[Pl.val ⟨f, a, b, c⟩] w fun e w' => e = .returned (.bool q) ∧ Below w.heap.size w w' := by
  have HN := Lib.hid (fun w' => normal_any f a b c hok w')
  generalize norP ⟨f, a, b, c⟩ = p at *
  obtain ⟨pf, pa, pb, pc⟩ := p
  have HR0 : Hid (RowAt (w.alloc (.cells (Pl.cells ⟨f, a, b, c⟩).toArray 29)) w.heap.size (Pl.cells ⟨f, a, b, c⟩)) := RowAt.new _ _ (by simp [Pl.cells]) _ rfl
  have HB0 : Hid (Below w.heap.size w (w.alloc (.cells (Pl.cells ⟨f, a, b, c⟩).toArray 29))) := (Below.refl _ _).alloc (Nat.le_refl _) _
  have Hq := Lib.hid hq
  clear hok hq
  unfold Pl.val at HN ⊢
  simp only [Pl.cells] at HR0 HB0
  simp only at HN
  go_enter Tryz.func88, Tryz.ntmps88
  go_wp2_with (refine row_load rfl _ rfl _ rfl _ HR0.out rowT_p ?_)
  refine (HN.out _).mono ?_
  rintro e w1 ⟨rfl, hb1⟩
  have HR1 : Hid (RowAt (w1.alloc (.cells #[.int .i64 pf, .int .i64 pa, .int .i64 pb, .int .i64 pc] 29)) w.heap.size (Pl.cells ⟨f, a, b, c⟩)) := (HR0.out.below hb1).alloc _
  have HR2 : Hid (RowAt (w1.alloc (.cells #[.int .i64 pf, .int .i64 pa, .int .i64 pb, .int .i64 pc] 29)) w1.heap.size (Pl.cells ⟨pf, pa, pb, pc⟩)) := RowAt.new _ (Pl.cells ⟨pf, pa, pb, pc⟩) (by simp [Pl.cells]) _ rfl
  have HB1 : Hid (Below w.heap.size w (w1.alloc (.cells #[.int .i64 pf, .int .i64 pa, .int .i64 pb, .int .i64 pc] 29))) := (below_then HB0.out hb1).alloc (by have := hb1.size; simp at this; omega) _
  clear hb1
  simp only [Pl.cells] at HR1 HR2
  go_wp2_with (first
    | (refine row_load_w rfl _ rfl _ rfl _ HR1.out rowT_p ?_)
    | (refine row_load_w rfl _ rfl _ rfl _ HR2.out rowT_p ?_))
  all_goals
    go_ret
    refine ⟨?_, HB1.out⟩
    rw [Hq.out]
    congr 2
    symm
    first
      | (rw [decide_eq_true_iff, Pl.mk.injEq]; omega)
      | (rw [decide_eq_false_iff_not, Pl.mk.injEq]; omega)
      | (simp; first | omega | (intros; omega) | exact ⟨by assumption, by assumption, by assumption, by assumption⟩)
end Go.Proofs.YtpknalpdcfjffaaGreat
