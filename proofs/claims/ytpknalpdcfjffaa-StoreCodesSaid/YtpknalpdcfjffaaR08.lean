/- Part 8 of the proof: laws on memory and what functions of the program return. No conditions but those that each theorem names. -/
import Derived.Test.YtpknalpdcfjffaaR07
import Derived.Laws.BitsLemmas
import Derived.Laws.IdiomStrings
import Derived.Laws.CopyRow
set_option linter.unusedVariables false
set_option linter.unusedSimpArgs false
/- store.walk, over any walker. Printed by gen_walk.py. -/
namespace Go.Proofs.Ytpknalpdcfjffaa
open Go Go.RowKit

/-- An entry's cells. -/
def entCells (x : Ent) (vR vB v0 v1 v2 v3 v4 v5 v6 v7 : Value) : List Value := [.int .i64 x.kind, .int .i64 x.now, .int .i64 x.rep.kind, .string x.rep.name, .int .i64 x.rep.time, .int .i64 x.rep.pl.f, .int .i64 x.rep.pl.a, .int .i64 x.rep.pl.b, .int .i64 x.rep.pl.c, vR, .int .i64 x.corr, .int .i64 x.arr, .int .i64 x.st, .string x.name, .int .i64 x.from_, .bool x.closed, .int .i64 x.pl.f, .int .i64 x.pl.a, .int .i64 x.pl.b, .int .i64 x.pl.c, vB, .int .i64 x.cyc.number, .int .i64 x.cyc.time, .int .i64 x.cyc.cutoff, v0, v1, v2, v3, .int .i64 x.cyc.ana.hi, .int .u64 x.cyc.ana.lo, .int .i64 x.cyc.ana.anchor, .int .i64 x.cyc.ana.radius, .int .i64 x.cyc.ana.rounds, .int .i64 x.cyc.freq, v4, v5, v6, v7]
/-- The parts of an entry. -/
structure EntP (av : Nat → Prop) (w : World) (x : Ent) (vR vB v0 v1 v2 v3 v4 v5 v6 v7 : Value) : Prop where
  kind : I64 x.kind
  now : I64 x.now
  rep : I64 x.rep.kind ∧ x.rep.name.size ≤ 10000000 ∧ I64 x.rep.time ∧ okPla x.rep.pl ∧ RdS rdE av w vR x.rep.rds
  corr : I64 x.corr
  arr : I64 x.arr
  st : I64 x.st
  name : x.name.size ≤ 10000000
  per : I64 x.from_ ∧ okPla x.pl ∧ RdS rdE av w vB x.bias
  cyc : cycE.rep av w (cycCells x.cyc v0 v1 v2 v3 v4 v5 v6 v7) x.cyc
def entE : El Ent := ⟨38, fun av w cs x => ∃ vR vB v0 v1 v2 v3 v4 v5 v6 v7, cs = entCells x vR vB v0 v1 v2 v3 v4 v5 v6 v7 ∧ EntP av w x vR vB v0 v1 v2 v3 v4 v5 v6 v7⟩
theorem EntP.keep {av : Nat → Prop} {w w' : World} {x : Ent} {vR vB v0 v1 v2 v3 v4 v5 v6 v7 : Value} (h : EntP av w x vR vB v0 v1 v2 v3 v4 v5 v6 v7) (hk : Keeps av w w') : EntP av w' x vR vB v0 v1 v2 v3 v4 v5 v6 v7 :=
  ⟨h.kind, h.now, ⟨h.rep.1, h.rep.2.1, h.rep.2.2.1, h.rep.2.2.2.1, h.rep.2.2.2.2.keep rdE_ok hk⟩, h.corr, h.arr, h.st, h.name, ⟨h.per.1, h.per.2.1, h.per.2.2.keep rdE_ok hk⟩, cycE_ok.keep h.cyc hk⟩
theorem EntP.weak {av av' : Nat → Prop} {w : World} {x : Ent} {vR vB v0 v1 v2 v3 v4 v5 v6 v7 : Value} (h : EntP av w x vR vB v0 v1 v2 v3 v4 v5 v6 v7) (hk : ∀ k, av k → k < w.heap.size → av' k) : EntP av' w x vR vB v0 v1 v2 v3 v4 v5 v6 v7 :=
  ⟨h.kind, h.now, ⟨h.rep.1, h.rep.2.1, h.rep.2.2.1, h.rep.2.2.2.1, h.rep.2.2.2.2.weak rdE_ok hk⟩, h.corr, h.arr, h.st, h.name, ⟨h.per.1, h.per.2.1, h.per.2.2.weak rdE_ok hk⟩, cycE_ok.weak h.cyc hk⟩
theorem entCells_eq (x : Ent) (vR vB v0 v1 v2 v3 v4 v5 v6 v7 : Value) : entCells x vR vB v0 v1 v2 v3 v4 v5 v6 v7 = [.int .i64 x.kind, .int .i64 x.now] ++ repCells x.rep vR ++ [.int .i64 x.corr, .int .i64 x.arr, .int .i64 x.st, .string x.name, .int .i64 x.from_, .bool x.closed, .int .i64 x.pl.f, .int .i64 x.pl.a, .int .i64 x.pl.b, .int .i64 x.pl.c, vB] ++ cycCells x.cyc v0 v1 v2 v3 v4 v5 v6 v7 := rfl
theorem entE_ok : entE.OK :=
  ⟨by decide, by rintro _ _ _ _ ⟨vR, vB, v0, v1, v2, v3, v4, v5, v6, v7, rfl, _⟩; rfl, by
    rintro _ _ _ _ ⟨vR, vB, v0, v1, v2, v3, v4, v5, v6, v7, rfl, h⟩ u hu
    rw [entCells_eq] at hu
    rcases List.mem_append.1 hu with hu | hu
    · simp only [repCells, List.cons_append, List.nil_append, List.mem_cons, List.not_mem_nil, or_false] at hu
      rcases hu with rfl | rfl | rfl | rfl | rfl | rfl | rfl | rfl | rfl | rfl | rfl | rfl | rfl | rfl | rfl | rfl | rfl | rfl | rfl | rfl | rfl <;> first | exact h.rep.2.2.2.2.one | exact h.per.2.2.one | rfl
    · exact cycE_ok.one h.cyc u hu,
    fun ⟨vR, vB, v0, v1, v2, v3, v4, v5, v6, v7, e, h⟩ hk => ⟨vR, vB, v0, v1, v2, v3, v4, v5, v6, v7, e, h.keep hk⟩, fun ⟨vR, vB, v0, v1, v2, v3, v4, v5, v6, v7, e, h⟩ hk => ⟨vR, vB, v0, v1, v2, v3, v4, v5, v6, v7, e, h.weak hk⟩⟩
theorem At.of_take {cs m : List Value} {o : Nat} (h : (cs.drop o).take m.length = m) : At cs o m := fun i hi => by
  rw [← h, List.getElem?_take, if_pos hi, List.getElem?_drop]
section
variable (x : Ent) (vR vB v0 v1 v2 v3 v4 v5 v6 v7 : Value)
theorem at_now : At (entCells x vR vB v0 v1 v2 v3 v4 v5 v6 v7) 1 [.int .i64 x.now] := At.of_take rfl
theorem put_now (n : Int) : putL (entCells x vR vB v0 v1 v2 v3 v4 v5 v6 v7) 1 [.int .i64 n] = entCells { x with now := n } vR vB v0 v1 v2 v3 v4 v5 v6 v7 := rfl
theorem at_itm : At (entCells x vR vB v0 v1 v2 v3 v4 v5 v6 v7) 2 (repCells x.rep vR ++ [.int .i64 x.corr, .int .i64 x.arr]) := At.of_take rfl
theorem put_itm (y : Itm) (u : Value) : putL (entCells x vR vB v0 v1 v2 v3 v4 v5 v6 v7) 2 (repCells y.rep u ++ [.int .i64 y.corr, .int .i64 y.arr]) = entCells { x with rep := y.rep, corr := y.corr, arr := y.arr } u vB v0 v1 v2 v3 v4 v5 v6 v7 := rfl
theorem at_st : At (entCells x vR vB v0 v1 v2 v3 v4 v5 v6 v7) 12 [.int .i64 x.st] := At.of_take rfl
theorem put_st (n : Int) : putL (entCells x vR vB v0 v1 v2 v3 v4 v5 v6 v7) 12 [.int .i64 n] = entCells { x with st := n } vR vB v0 v1 v2 v3 v4 v5 v6 v7 := rfl
theorem at_name : At (entCells x vR vB v0 v1 v2 v3 v4 v5 v6 v7) 13 [.string x.name] := At.of_take rfl
theorem put_name (n : ByteArray) : putL (entCells x vR vB v0 v1 v2 v3 v4 v5 v6 v7) 13 [.string n] = entCells { x with name := n } vR vB v0 v1 v2 v3 v4 v5 v6 v7 := rfl
theorem at_per : At (entCells x vR vB v0 v1 v2 v3 v4 v5 v6 v7) 14 [.int .i64 x.from_, .bool x.closed, .int .i64 x.pl.f, .int .i64 x.pl.a, .int .i64 x.pl.b, .int .i64 x.pl.c, vB] := At.of_take rfl
theorem put_per (y : Per) (u : Value) : putL (entCells x vR vB v0 v1 v2 v3 v4 v5 v6 v7) 14 [.int .i64 y.from_, .bool y.closed, .int .i64 y.pl.f, .int .i64 y.pl.a, .int .i64 y.pl.b, .int .i64 y.pl.c, u] = entCells { x with from_ := y.from_, closed := y.closed, pl := y.pl, bias := y.bias } vR u v0 v1 v2 v3 v4 v5 v6 v7 := rfl
theorem at_cyc : At (entCells x vR vB v0 v1 v2 v3 v4 v5 v6 v7) 21 (cycCells x.cyc v0 v1 v2 v3 v4 v5 v6 v7) := At.of_take rfl
theorem put_cyc (y : Cyc) (u0 u1 u2 u3 u4 u5 u6 u7 : Value) : putL (entCells x vR vB v0 v1 v2 v3 v4 v5 v6 v7) 21 (cycCells y u0 u1 u2 u3 u4 u5 u6 u7) = entCells { x with cyc := y } vR vB u0 u1 u2 u3 u4 u5 u6 u7 := rfl
end
theorem EntP.shut {av : Nat → Prop} {w : World} {x : Ent} {vR vB v0 v1 v2 v3 v4 v5 v6 v7 : Value} (h : EntP av w x vR vB v0 v1 v2 v3 v4 v5 v6 v7) : entE.rep av w (entCells x vR vB v0 v1 v2 v3 v4 v5 v6 v7) x := ⟨vR, vB, v0, v1, v2, v3, v4, v5, v6, v7, rfl, h⟩

section
variable {σ : Type} {k : Wk σ}
/-- What store.walk leaves. -/
def Walked (K : WkM k) (q : Option (σ × Ent)) (p : Nat) (s : σ) (cs : List Value) (av : Nat → Prop) (w : World) (e : Ending) (w' : World) : Prop := match q with
  | some q => e = .returned (.bool true) ∧ ∃ es, WS K p q.1 es w w' ∧ entE.rep (fresh av w) w' es q.2
  | none => e = .returned (.bool false) ∧ WS K p s cs w w'
theorem Walked.yes {K : WkM k} {q : Option (σ × Ent)} {s1 : σ} {y : Ent} {p : Nat} {s : σ} {cs es : List Value} {av : Nat → Prop} {w w' : World} (h : q = some (s1, y)) (hw : WS K p s1 es w w') (hr : entE.rep (fresh av w) w' es y) : Walked K q p s cs av w (.returned (.bool true)) w' := by
  subst h
  exact ⟨rfl, es, hw, hr⟩
theorem Walked.no {K : WkM k} {q : Option (σ × Ent)} {p : Nat} {s : σ} {cs : List Value} {av : Nat → Prop} {w w' : World} (h : q = none) (hw : WS K p s cs w w') : Walked K q p s cs av w (.returned (.bool false)) w' := by
  subst h
  exact ⟨rfl, hw⟩

set_option maxHeartbeats 16000000 in
set_option maxRecDepth 100000 in
theorem walk_1 (K : WkM k) (hK : K.OK) (s : σ) (x : Ent) (w : World) (p : Nat) (es : List Value) (av : Nat → Prop) (hk : x.kind = 1) (h1 : K.St s w) (h2 : K.base ≤ p) (h3 : p ≠ K.b) (h4 : PAt w p es) (h6 : entE.rep av w es x) (h7 : ∀ i, av i → i ≠ K.b ∧ i ≠ p) (h8 : ∀ q, k.ent s x = some q → k.sz q.1 ≤ 10000000) :
    Calls Try.prog 25 #[K.recv, .pointer (some ⟨p, 0, none⟩)] w (Walked K (k.ent s x) p s es av w) := by
  have HK := Lib.hid hK
  obtain ⟨f_int, m_int, w_int⟩ := hK.int
  have HM_int := Lib.hid m_int
  have HB : Hid (K.b < w.heap.size) := (hK.lt h1).2
  have HPl : Hid (p < w.heap.size) := h4.lt
  have HAv := Lib.hid h7
  obtain ⟨vR, vB, v0, v1, v2, v3, v4, v5, v6, v7, rfl, h6⟩ := h6
  have HE := Lib.hid h6
  have HW0 : Hid (WS K p s (entCells x vR vB v0 v1 v2 v3 v4 v5 v6 v7) w w) := WS.start h1 h4
  have HQ : Hid (k.ent s x = some ((k.int s x.now).1, { x with now := (k.int s x.now).2 })) := by unfold Hid Wk.ent; rw [if_pos hk]
  have HSz : Hid (k.sz ((k.int s x.now).1) ≤ 10000000) := h8 _ HQ.out
  have hc0 : w.cell? ⟨p, 0, none⟩ = some (.int .i64 1) := by rw [← hk]; exact h4.1.at 0 rfl
  clear h1 h4 h6 h7 h8 hK hk
  go_enter Try.func25, Try.ntmps25
  go_wp2_with fail
  refine wp_region_seq (by kernel_rfl) (fun _ => True) [(0, true), (1, true), (2, true), (3, true), (4, true), (5, true), (6, true), (7, false)] (by kernel_rfl) (trivial) ?_
  refine seq_q (d := some 11) rfl rfl rfl (K.recv) (fun w hw => rfl) ?_
  simp only [Act.put, List.setIfInBounds_toArray, List.set_cons_zero, List.set_cons_succ]
  refine seq_q (d := some 12) rfl rfl rfl (.pointer (some ⟨p, 0, none⟩)) (fun w hw => rfl) ?_
  simp only [Act.put, List.setIfInBounds_toArray, List.set_cons_zero, List.set_cons_succ]
  refine seq_q (d := some 13) rfl rfl rfl (.pointer (some ⟨p, 0, none⟩)) (fun w hw => rfl) ?_
  simp only [Act.put, List.setIfInBounds_toArray, List.set_cons_zero, List.set_cons_succ]
  refine seq_q (d := some 14) rfl rfl rfl (.pointer (some ⟨p, 1, none⟩)) (fun w hw => by go_simp) ?_
  simp only [Act.put, List.setIfInBounds_toArray, List.set_cons_zero, List.set_cons_succ]
  refine seq_q (d := some 15) rfl rfl rfl (.func (.method "synoptic/store.int") #[K.recv] #[]) (fun w hw => run_makeFunc (.tmp 11) rfl (K.recv) rfl w) ?_
  simp only [Act.put, List.setIfInBounds_toArray, List.set_cons_zero, List.set_cons_succ]
  refine seq_q (d := some 16) rfl rfl rfl (.func (.method "synoptic/store.int") #[K.recv] #[]) (fun w hw => run_nilMethod HM_int.out.ahead (.tmp 15) rfl rfl w) ?_
  simp only [Act.put, List.setIfInBounds_toArray, List.set_cons_zero, List.set_cons_succ]
  refine seq_q (d := some 17) rfl rfl rfl (K.recv) (fun w hw => rfl) ?_
  simp only [Act.put, List.setIfInBounds_toArray, List.set_cons_zero, List.set_cons_succ]
  refine seq_invoke (d := some 18) rfl rfl rfl HM_int.out.b _ _ _ rfl rfl [.pointer (some ⟨p, 1, none⟩)] rfl ((HW0.out.drew HK.out).step w_int intE_ok h2 h3 (at_now x vR vB v0 v1 v2 v3 v4 v5 v6 v7) ⟨rfl, HE.out.now⟩ HAv.out HSz.out) ?_
  rintro e w1 ⟨rfl, es1, h1, ⟨rfl, i1⟩, -, hf⟩
  refine ⟨_, rfl, trivial, ?_⟩
  simp only [Act.put, List.setIfInBounds_toArray, List.set_cons_zero, List.set_cons_succ]
  refine seq_end ?_
  rw [put_now] at h1
  have HW1 := Lib.hid h1
  have I1 := Lib.hid i1
  have HEn : Hid (EntP (fresh av w) w1 x vR vB v0 v1 v2 v3 v4 v5 v6 v7) := (HE.out.keep (((Fr.drew w).trans hf).keeps.mono fun i _ hi => HAv.out i hi)).weak fun i hi _ => Or.inl hi
  clear h1 hf i1 HW0
  try go_wp2_with fail
  go_ret
  refine Walked.yes HQ.out HW1.out (EntP.shut ?_)
  exact ⟨HEn.out.kind, I1.out, HEn.out.rep, HEn.out.corr, HEn.out.arr, HEn.out.st, HEn.out.name, HEn.out.per, HEn.out.cyc⟩

set_option maxHeartbeats 16000000 in
set_option maxRecDepth 100000 in
theorem walk_2 (K : WkM k) (hK : K.OK) (s : σ) (x : Ent) (w : World) (p : Nat) (es : List Value) (av : Nat → Prop) (hk : x.kind = 2) (h1 : K.St s w) (h2 : K.base ≤ p) (h3 : p ≠ K.b) (h4 : PAt w p es) (h6 : entE.rep av w es x) (h7 : ∀ i, av i → i ≠ K.b ∧ i ≠ p) (h8 : ∀ q, k.ent s x = some q → k.sz q.1 ≤ 10000000) :
    Calls Try.prog 25 #[K.recv, .pointer (some ⟨p, 0, none⟩)] w (Walked K (k.ent s x) p s es av w) := by
  have HK := Lib.hid hK
  have HB : Hid (K.b < w.heap.size) := (hK.lt h1).2
  have HPl : Hid (p < w.heap.size) := h4.lt
  have HAv := Lib.hid h7
  obtain ⟨vR, vB, v0, v1, v2, v3, v4, v5, v6, v7, rfl, h6⟩ := h6
  have HE := Lib.hid h6
  have HW0 : Hid (WS K p s (entCells x vR vB v0 v1 v2 v3 v4 v5 v6 v7) w w) := WS.start h1 h4
  have HQ : Hid (k.ent s x = some ((k.itm s ⟨x.rep, x.corr, x.arr⟩).1, { x with rep := (k.itm s ⟨x.rep, x.corr, x.arr⟩).2.rep, corr := (k.itm s ⟨x.rep, x.corr, x.arr⟩).2.corr, arr := (k.itm s ⟨x.rep, x.corr, x.arr⟩).2.arr })) := by unfold Hid Wk.ent; rw [if_neg (by omega), if_pos hk]; rfl
  have HSz : Hid (k.sz ((k.itm s ⟨x.rep, x.corr, x.arr⟩).1) ≤ 10000000) := h8 _ HQ.out
  have hc0 : w.cell? ⟨p, 0, none⟩ = some (.int .i64 2) := by rw [← hk]; exact h4.1.at 0 rfl
  clear h1 h4 h6 h7 h8 hK hk
  go_enter Try.func25, Try.ntmps25
  go_wp2_with fail
  have h5 : Hid (itmE.rep av w (repCells x.rep vR ++ [.int .i64 x.corr, .int .i64 x.arr]) ⟨x.rep, x.corr, x.arr⟩) := ⟨vR, rfl, HE.out.rep, HE.out.corr, HE.out.arr⟩
  have h9 := Lib.hid (HW0.out.step (item_walks K HK.out) itmE_ok h2 h3 (at_itm x vR vB v0 v1 v2 v3 v4 v5 v6 v7) h5.out HAv.out HSz.out)
  refine h9.out.mono ?_
  rintro e w1 ⟨rfl, es1, h1, ⟨vR', rfl, g1, g2, g3⟩, -, hf⟩
  rw [put_itm] at h1
  have HW1 := Lib.hid h1
  have G := Lib.hid (And.intro g1 (And.intro g2 g3))
  have HEn : Hid (EntP (fresh av w) w1 x vR vB v0 v1 v2 v3 v4 v5 v6 v7) := (HE.out.keep (hf.keeps.mono fun i _ hi => HAv.out i hi)).weak fun i hi _ => Or.inl hi
  clear h1 hf g1 g2 g3 HW0 h5 h9
  try go_wp2_with fail
  go_ret
  refine Walked.yes HQ.out HW1.out (EntP.shut ?_)
  exact ⟨HEn.out.kind, HEn.out.now, G.out.1, G.out.2.1, G.out.2.2, HEn.out.st, HEn.out.name, HEn.out.per, HEn.out.cyc⟩

set_option maxHeartbeats 16000000 in
set_option maxRecDepth 100000 in
theorem walk_3 (K : WkM k) (hK : K.OK) (s : σ) (x : Ent) (w : World) (p : Nat) (es : List Value) (av : Nat → Prop) (hk : x.kind = 3) (h1 : K.St s w) (h2 : K.base ≤ p) (h3 : p ≠ K.b) (h4 : PAt w p es) (h6 : entE.rep av w es x) (h7 : ∀ i, av i → i ≠ K.b ∧ i ≠ p) (h8 : ∀ q, k.ent s x = some q → k.sz q.1 ≤ 10000000) :
    Calls Try.prog 25 #[K.recv, .pointer (some ⟨p, 0, none⟩)] w (Walked K (k.ent s x) p s es av w) := by
  have HK := Lib.hid hK
  obtain ⟨f_int, m_int, w_int⟩ := hK.int
  have HM_int := Lib.hid m_int
  obtain ⟨f_text, m_text, w_text⟩ := hK.text
  have HM_text := Lib.hid m_text
  have HB : Hid (K.b < w.heap.size) := (hK.lt h1).2
  have HPl : Hid (p < w.heap.size) := h4.lt
  have HAv := Lib.hid h7
  obtain ⟨vR, vB, v0, v1, v2, v3, v4, v5, v6, v7, rfl, h6⟩ := h6
  have HE := Lib.hid h6
  have HW0 : Hid (WS K p s (entCells x vR vB v0 v1 v2 v3 v4 v5 v6 v7) w w) := WS.start h1 h4
  have HQ : Hid (k.ent s x = some ((k.per (k.text (k.int s x.st).1 x.name).1 ⟨x.from_, x.closed, x.pl, x.bias⟩).1, { x with st := (k.int s x.st).2, name := (k.text (k.int s x.st).1 x.name).2, from_ := (k.per (k.text (k.int s x.st).1 x.name).1 ⟨x.from_, x.closed, x.pl, x.bias⟩).2.from_, closed := (k.per (k.text (k.int s x.st).1 x.name).1 ⟨x.from_, x.closed, x.pl, x.bias⟩).2.closed, pl := (k.per (k.text (k.int s x.st).1 x.name).1 ⟨x.from_, x.closed, x.pl, x.bias⟩).2.pl, bias := (k.per (k.text (k.int s x.st).1 x.name).1 ⟨x.from_, x.closed, x.pl, x.bias⟩).2.bias })) := by unfold Hid Wk.ent; rw [if_neg (by omega), if_neg (by omega), if_pos hk]; rfl
  have HSz : Hid (k.sz ((k.per (k.text (k.int s x.st).1 x.name).1 ⟨x.from_, x.closed, x.pl, x.bias⟩).1) ≤ 10000000) := h8 _ HQ.out
  have hc0 : w.cell? ⟨p, 0, none⟩ = some (.int .i64 3) := by rw [← hk]; exact h4.1.at 0 rfl
  clear h1 h4 h6 h7 h8 hK hk
  go_enter Try.func25, Try.ntmps25
  go_wp2_with fail
  refine wp_region_seq (by kernel_rfl) (fun _ => True) [(0, true), (1, true), (2, true), (3, true), (4, true), (5, true), (6, true), (7, false)] (by kernel_rfl) (trivial) ?_
  refine seq_q (d := some 28) rfl rfl rfl (K.recv) (fun w hw => rfl) ?_
  simp only [Act.put, List.setIfInBounds_toArray, List.set_cons_zero, List.set_cons_succ]
  refine seq_q (d := some 29) rfl rfl rfl (.pointer (some ⟨p, 0, none⟩)) (fun w hw => rfl) ?_
  simp only [Act.put, List.setIfInBounds_toArray, List.set_cons_zero, List.set_cons_succ]
  refine seq_q (d := some 30) rfl rfl rfl (.pointer (some ⟨p, 0, none⟩)) (fun w hw => rfl) ?_
  simp only [Act.put, List.setIfInBounds_toArray, List.set_cons_zero, List.set_cons_succ]
  refine seq_q (d := some 31) rfl rfl rfl (.pointer (some ⟨p, 12, none⟩)) (fun w hw => by go_simp) ?_
  simp only [Act.put, List.setIfInBounds_toArray, List.set_cons_zero, List.set_cons_succ]
  refine seq_q (d := some 32) rfl rfl rfl (.func (.method "synoptic/store.int") #[K.recv] #[]) (fun w hw => run_makeFunc (.tmp 28) rfl (K.recv) rfl w) ?_
  simp only [Act.put, List.setIfInBounds_toArray, List.set_cons_zero, List.set_cons_succ]
  refine seq_q (d := some 33) rfl rfl rfl (.func (.method "synoptic/store.int") #[K.recv] #[]) (fun w hw => run_nilMethod HM_int.out.ahead (.tmp 32) rfl rfl w) ?_
  simp only [Act.put, List.setIfInBounds_toArray, List.set_cons_zero, List.set_cons_succ]
  refine seq_q (d := some 34) rfl rfl rfl (K.recv) (fun w hw => rfl) ?_
  simp only [Act.put, List.setIfInBounds_toArray, List.set_cons_zero, List.set_cons_succ]
  refine seq_invoke (d := some 35) rfl rfl rfl HM_int.out.b _ _ _ rfl rfl [.pointer (some ⟨p, 12, none⟩)] rfl ((HW0.out.drew HK.out).step w_int intE_ok h2 h3 (at_st x vR vB v0 v1 v2 v3 v4 v5 v6 v7) ⟨rfl, HE.out.st⟩ HAv.out (Nat.le_trans (HK.out.mono.text _ _) (Nat.le_trans (HK.out.mono.per _ _) HSz.out))) ?_
  rintro e w1 ⟨rfl, es1, h1, ⟨rfl, i1⟩, -, hf⟩
  refine ⟨_, rfl, trivial, ?_⟩
  simp only [Act.put, List.setIfInBounds_toArray, List.set_cons_zero, List.set_cons_succ]
  refine seq_end ?_
  rw [put_st] at h1
  have HW1 := Lib.hid h1
  have I1 := Lib.hid i1
  have HF1 := Lib.hid ((Fr.drew w).trans hf)
  clear h1 hf i1 HW0
  try go_wp2_with fail
  refine wp_region_seq (by kernel_rfl) (fun _ => True) [(0, true), (1, true), (2, true), (3, true), (4, true), (5, true), (6, true), (7, false)] (by kernel_rfl) (trivial) ?_
  refine seq_q (d := some 36) rfl rfl rfl (K.recv) (fun w hw => rfl) ?_
  simp only [Act.put, List.setIfInBounds_toArray, List.set_cons_zero, List.set_cons_succ]
  refine seq_q (d := some 37) rfl rfl rfl (.pointer (some ⟨p, 0, none⟩)) (fun w hw => rfl) ?_
  simp only [Act.put, List.setIfInBounds_toArray, List.set_cons_zero, List.set_cons_succ]
  refine seq_q (d := some 38) rfl rfl rfl (.pointer (some ⟨p, 0, none⟩)) (fun w hw => rfl) ?_
  simp only [Act.put, List.setIfInBounds_toArray, List.set_cons_zero, List.set_cons_succ]
  refine seq_q (d := some 39) rfl rfl rfl (.pointer (some ⟨p, 13, none⟩)) (fun w hw => by go_simp) ?_
  simp only [Act.put, List.setIfInBounds_toArray, List.set_cons_zero, List.set_cons_succ]
  refine seq_q (d := some 40) rfl rfl rfl (.func (.method "synoptic/store.text") #[K.recv] #[]) (fun w hw => run_makeFunc (.tmp 36) rfl (K.recv) rfl w) ?_
  simp only [Act.put, List.setIfInBounds_toArray, List.set_cons_zero, List.set_cons_succ]
  refine seq_q (d := some 41) rfl rfl rfl (.func (.method "synoptic/store.text") #[K.recv] #[]) (fun w hw => run_nilMethod HM_text.out.ahead (.tmp 40) rfl rfl w) ?_
  simp only [Act.put, List.setIfInBounds_toArray, List.set_cons_zero, List.set_cons_succ]
  refine seq_q (d := some 42) rfl rfl rfl (K.recv) (fun w hw => rfl) ?_
  simp only [Act.put, List.setIfInBounds_toArray, List.set_cons_zero, List.set_cons_succ]
  refine seq_invoke (d := some 43) rfl rfl rfl HM_text.out.b _ _ _ rfl rfl [.pointer (some ⟨p, 13, none⟩)] rfl ((HW1.out.drew HK.out).step w_text strE_ok h2 h3 (at_name _ vR vB v0 v1 v2 v3 v4 v5 v6 v7) ⟨rfl, HE.out.name⟩ HAv.out (Nat.le_trans (HK.out.mono.per _ _) HSz.out)) ?_
  rintro e w2 ⟨rfl, es1, h1, ⟨rfl, i1⟩, -, hf⟩
  refine ⟨_, rfl, trivial, ?_⟩
  simp only [Act.put, List.setIfInBounds_toArray, List.set_cons_zero, List.set_cons_succ]
  refine seq_end ?_
  rw [put_name] at h1
  have HW2 := Lib.hid h1
  have I2 := Lib.hid i1
  have HF2 := Lib.hid (HF1.out.trans ((Fr.drew w1).trans hf))
  clear h1 hf i1 HW1 HF1
  go_wp2_with fail
  have h5 : Hid (perE.rep av w ([.int .i64 x.from_, .bool x.closed, .int .i64 x.pl.f, .int .i64 x.pl.a, .int .i64 x.pl.b, .int .i64 x.pl.c, vB]) ⟨x.from_, x.closed, x.pl, x.bias⟩) := ⟨vB, rfl, HE.out.per⟩
  have h9 := Lib.hid (HW2.out.step (period_walks K HK.out) perE_ok h2 h3 (at_per _ vR vB v0 v1 v2 v3 v4 v5 v6 v7) h5.out HAv.out HSz.out)
  refine h9.out.mono ?_
  rintro e w3 ⟨rfl, es1, h1, ⟨vB', rfl, g1⟩, -, hf⟩
  rw [put_per] at h1
  have HW3 := Lib.hid h1
  have G := Lib.hid g1
  have HEn : Hid (EntP (fresh av w) w3 x vR vB v0 v1 v2 v3 v4 v5 v6 v7) := (HE.out.keep ((HF2.out.trans hf).keeps.mono fun i _ hi => HAv.out i hi)).weak fun i hi _ => Or.inl hi
  clear h1 hf g1 HW2 HF2 h5 h9
  try go_wp2_with fail
  go_ret
  refine Walked.yes HQ.out HW3.out (EntP.shut ?_)
  exact ⟨HEn.out.kind, HEn.out.now, HEn.out.rep, HEn.out.corr, HEn.out.arr, I1.out, I2.out, G.out, HEn.out.cyc⟩

set_option maxHeartbeats 16000000 in
set_option maxRecDepth 100000 in
theorem walk_4 (K : WkM k) (hK : K.OK) (s : σ) (x : Ent) (w : World) (p : Nat) (es : List Value) (av : Nat → Prop) (hk : x.kind = 4) (h1 : K.St s w) (h2 : K.base ≤ p) (h3 : p ≠ K.b) (h4 : PAt w p es) (h6 : entE.rep av w es x) (h7 : ∀ i, av i → i ≠ K.b ∧ i ≠ p) (h8 : ∀ q, k.ent s x = some q → k.sz q.1 ≤ 10000000) :
    Calls Try.prog 25 #[K.recv, .pointer (some ⟨p, 0, none⟩)] w (Walked K (k.ent s x) p s es av w) := by
  have HK := Lib.hid hK
  have HB : Hid (K.b < w.heap.size) := (hK.lt h1).2
  have HPl : Hid (p < w.heap.size) := h4.lt
  have HAv := Lib.hid h7
  obtain ⟨vR, vB, v0, v1, v2, v3, v4, v5, v6, v7, rfl, h6⟩ := h6
  have HE := Lib.hid h6
  have HW0 : Hid (WS K p s (entCells x vR vB v0 v1 v2 v3 v4 v5 v6 v7) w w) := WS.start h1 h4
  have HQ : Hid (k.ent s x = some ((k.cyc s x.cyc).1, { x with cyc := (k.cyc s x.cyc).2 })) := by unfold Hid Wk.ent; rw [if_neg (by omega), if_neg (by omega), if_neg (by omega), if_pos hk]
  have HSz : Hid (k.sz ((k.cyc s x.cyc).1) ≤ 10000000) := h8 _ HQ.out
  have hc0 : w.cell? ⟨p, 0, none⟩ = some (.int .i64 4) := by rw [← hk]; exact h4.1.at 0 rfl
  clear h1 h4 h6 h7 h8 hK hk
  go_enter Try.func25, Try.ntmps25
  go_wp2_with fail
  have h5 : Hid (cycE.rep av w (cycCells x.cyc v0 v1 v2 v3 v4 v5 v6 v7) x.cyc) := HE.out.cyc
  have h9 := Lib.hid (HW0.out.step (cycle_walks K HK.out) cycE_ok h2 h3 (at_cyc x vR vB v0 v1 v2 v3 v4 v5 v6 v7) h5.out HAv.out HSz.out)
  refine h9.out.mono ?_
  rintro e w1 ⟨rfl, es1, h1, hr, hl, hf⟩
  obtain ⟨u0, u1, u2, u3, u4, u5, u6, u7, rfl, hr'⟩ := hr
  rw [put_cyc] at h1
  have HW1 := Lib.hid h1
  have G : Hid (cycE.rep (fresh av w) w1 (cycCells (k.cyc s x.cyc).2 u0 u1 u2 u3 u4 u5 u6 u7) (k.cyc s x.cyc).2) := ⟨u0, u1, u2, u3, u4, u5, u6, u7, rfl, hr'⟩
  have HEn : Hid (EntP (fresh av w) w1 x vR vB v0 v1 v2 v3 v4 v5 v6 v7) := (HE.out.keep (hf.keeps.mono fun i _ hi => HAv.out i hi)).weak fun i hi _ => Or.inl hi
  clear h1 hf hr' hl HW0 h5 h9
  try go_wp2_with fail
  go_ret
  refine Walked.yes HQ.out HW1.out (EntP.shut ?_)
  exact ⟨HEn.out.kind, HEn.out.now, HEn.out.rep, HEn.out.corr, HEn.out.arr, HEn.out.st, HEn.out.name, HEn.out.per, G.out⟩

set_option maxHeartbeats 16000000 in
set_option maxRecDepth 100000 in
theorem walk_no (K : WkM k) (hK : K.OK) (s : σ) (x : Ent) (w : World) (p : Nat) (es : List Value) (av : Nat → Prop) (hk : x.kind ≠ 1 ∧ x.kind ≠ 2 ∧ x.kind ≠ 3 ∧ x.kind ≠ 4) (h1 : K.St s w) (h2 : K.base ≤ p) (h3 : p ≠ K.b) (h4 : PAt w p es) (h6 : entE.rep av w es x) (h7 : ∀ i, av i → i ≠ K.b ∧ i ≠ p) (h8 : ∀ q, k.ent s x = some q → k.sz q.1 ≤ 10000000) :
    Calls Try.prog 25 #[K.recv, .pointer (some ⟨p, 0, none⟩)] w (Walked K (k.ent s x) p s es av w) := by
  have HK := Lib.hid hK
  have HB : Hid (K.b < w.heap.size) := (hK.lt h1).2
  have HPl : Hid (p < w.heap.size) := h4.lt
  have HAv := Lib.hid h7
  obtain ⟨vR, vB, v0, v1, v2, v3, v4, v5, v6, v7, rfl, h6⟩ := h6
  have HE := Lib.hid h6
  have HW0 : Hid (WS K p s (entCells x vR vB v0 v1 v2 v3 v4 v5 v6 v7) w w) := WS.start h1 h4
  have HQ : Hid (k.ent s x = none) := by unfold Hid Wk.ent; rw [if_neg hk.1, if_neg hk.2.1, if_neg hk.2.2.1, if_neg hk.2.2.2]
  have hc0 : w.cell? ⟨p, 0, none⟩ = some (.int .i64 x.kind) := h4.1.at 0 rfl
  have b1 : (x.kind == 1) = false := by simpa using hk.1
  have b2 : (x.kind == 2) = false := by simpa using hk.2.1
  have b3 : (x.kind == 3) = false := by simpa using hk.2.2.1
  have b4 : (x.kind == 4) = false := by simpa using hk.2.2.2
  clear h1 h4 h6 h7 h8 hK hk
  go_enter Try.func25, Try.ntmps25
  go_wp2_with fail
  go_ret
  exact Walked.no HQ.out HW0.out

theorem walk_any (K : WkM k) (hK : K.OK) (s : σ) (x : Ent) (w : World) (p : Nat) (es : List Value) (av : Nat → Prop) (h1 : K.St s w) (h2 : K.base ≤ p) (h3 : p ≠ K.b) (h4 : PAt w p es) (h6 : entE.rep av w es x) (h7 : ∀ i, av i → i ≠ K.b ∧ i ≠ p) (h8 : ∀ q, k.ent s x = some q → k.sz q.1 ≤ 10000000) :
    Calls Try.prog 25 #[K.recv, .pointer (some ⟨p, 0, none⟩)] w (Walked K (k.ent s x) p s es av w) := by
  by_cases e1 : x.kind = 1
  · exact walk_1 K hK s x w p es av e1 h1 h2 h3 h4 h6 h7 h8
  by_cases e2 : x.kind = 2
  · exact walk_2 K hK s x w p es av e2 h1 h2 h3 h4 h6 h7 h8
  by_cases e3 : x.kind = 3
  · exact walk_3 K hK s x w p es av e3 h1 h2 h3 h4 h6 h7 h8
  by_cases e4 : x.kind = 4
  · exact walk_4 K hK s x w p es av e4 h1 h2 h3 h4 h6 h7 h8
  exact walk_no K hK s x w p es av ⟨e1, e2, e3, e4⟩ h1 h2 h3 h4 h6 h7 h8
end
end Go.Proofs.Ytpknalpdcfjffaa
/- store.get: the number that bytes are. -/
namespace Go.Proofs.Ytpknalpdcfjffaa
open Go Go.RowKit

/-- Bytes that lie below block base. -/
def BytesL (w : World) (base : Nat) (v : Value) (l : List UInt8) : Prop := ∃ (a : Option Addr) (c : Nat), v = .slice a l.length c ∧ l.length ≤ c ∧ c ≤ 9223372036854775807 ∧
  ∀ i, (hi : i < l.length) → ∃ ab ao : Nat, a = some ⟨ab, ao, none⟩ ∧ ab < base ∧ w.cell? ⟨ab, ao + i, none⟩ = some (.int .u8 (l[i].toNat : Nat))
theorem BytesL.below {w w' : World} {base : Nat} {v : Value} {l : List UInt8} (h : BytesL w base v l) (hb : Below base w w') : BytesL w' base v l := by
  obtain ⟨a, c, e, h1, h2, h3⟩ := h
  refine ⟨a, c, e, h1, h2, fun i hi => ?_⟩
  obtain ⟨ab, ao, ea, hlt, hc⟩ := h3 i hi
  exact ⟨ab, ao, ea, hlt, by rw [hb.cell (p := ⟨ab, ao + i, none⟩) hlt]; exact hc⟩
theorem BytesL.slice {w : World} {base : Nat} {v : Value} {l : List UInt8} (h : BytesL w base v l) : ∃ a c, v = .slice a l.length c := by
  obtain ⟨a, c, e, _⟩ := h
  exact ⟨a, c, e⟩
theorem num_take (l : List UInt8) (m : Nat) (h : m < l.length) : num (l.take (m + 1)) = num (l.take m) * 256 + l[m].toNat := by
  have : l.take (m + 1) = l.take m ++ [l[m]] := by rw [List.take_add_one]; simp [h]
  rw [this, num_snoc]
theorem num_take_lt (l : List UInt8) (m : Nat) (h : m < l.length) (h8 : l.length ≤ 8) : num (l.take m) < 72057594037927936 := by
  have h1 := num_lt (l.take m)
  have h2 : (l.take m).length ≤ 7 := by rw [List.length_take]; omega
  have h3 : 256 ^ (l.take m).length ≤ 256 ^ 7 := Nat.pow_le_pow_right (by decide) h2
  have h4 : (256 : Nat) ^ 7 = 72057594037927936 := by decide
  omega
theorem wraps_u64' : ∀ n : Int, 0 ≤ n → n < 2 ^ 64 → IntKind.u64.wrap n = n := fun n h0 h1 => by
  have h1' : n < 18446744073709551616 := h1
  simp [IntKind.wrap, IntKind.bits, IntKind.signed]; omega
theorem or_byte (n c : Nat) (hn : n < 72057594037927936) (hc : c < 256) : bits .or .u64 ((n : Int) * 256) (c : Int) = ((n * 256 + c : Nat) : Int) := by
  have h := bits_join .u64 64 (by decide) wraps_u64' 8 ((n : Int) * 256) (c : Int) (by omega) (by omega) (by omega) (by omega) (by omega) (by omega)
  rw [h]; omega
set_option maxHeartbeats 16000000 in
set_option maxRecDepth 100000 in
theorem get_any (base : Nat) (v : Value) (l : List UInt8) (w : World) (h : BytesL w base v l) (h8 : l.length ≤ 8) :
    Calls Try.prog 31 #[v] w fun e w' => e = .returned (.int .u64 (num l : Nat)) ∧ w = w' := by
  obtain ⟨a, c, rfl, h1, h2, h3⟩ := h
  have H3 := Lib.hid h3
  have n0 : (l.length : Int) ≤ 8 := by omega
  clear h3
  go_enter Try.func31, Try.ntmps31
  go_wp2_with fail
  go_loop [3, 8] (fun nv kv => ∃ m : Nat, kv = .int .i64 m ∧ m ≤ l.length ∧ nv = .int .u64 (num (l.take m) : Nat)) (fun _ kv => (20 - intOf kv).toNat)
  case atStart => exact ⟨0, rfl, by omega, by simp [num]⟩
  case round =>
    obtain ⟨m, rfl, hm, rfl⟩ := hrel
    by_cases hlt : m < l.length
    · have m0 : (m : Int) < (l.length : Int) := by omega
      obtain ⟨ab, ao, rfl, _, hc⟩ := H3.out m hlt
      have hn := num_take_lt l m hlt h8
      have hcc := l[m].toNat_lt
      have ho := or_byte (num (l.take m)) l[m].toNat hn hcc
      have HT := Lib.hid (num_take l m hlt)
      have n1 : (num (l.take m) : Int) < 72057594037927936 := by omega
      generalize num (l.take m) = N at hn ho HT n1 ⊢
      generalize l[m].toNat = C at hc hcc ho HT
      have c1 : (C : Int) < 256 := by omega
      clear hn hcc
      go_wp2_with fail
      go_round
      case rel => exact ⟨m + 1, by go_num, by omega, by rw [HT.out, Int.natCast_add, Int.natCast_mul]; rfl⟩
      case measure => simp [intOf]; omega
    · obtain rfl : m = l.length := by omega
      go_wp2_with fail
      go_ret
      exact ⟨rfl, rfl⟩
end Go.Proofs.Ytpknalpdcfjffaa
/- The reader of package store: take, its methods, and that it is a walker. -/
namespace Go.Proofs.Ytpknalpdcfjffaa
open Go Go.RowKit

theorem BytesL.nil (w : World) (base : Nat) : BytesL w base (.slice none 0 0) [] := ⟨none, 0, rfl, Nat.le_refl _, by omega, fun i hi => by simp at hi⟩
theorem BytesL.take {w : World} {base : Nat} {a : Option Addr} {m c : Nat} {l : List UInt8} (h : BytesL w base (.slice a m c) l) (n : Nat) (hn : n ≤ l.length) : BytesL w base (.slice a n c) (l.take n) := by
  obtain ⟨a', c', e, h1, h2, h3⟩ := h
  obtain ⟨rfl, rfl, rfl⟩ : a = a' ∧ m = l.length ∧ c = c' := by simpa using e
  have hl : (l.take n).length = n := by rw [List.length_take]; omega
  refine ⟨a, c, by rw [hl], by omega, h2, fun i hi => ?_⟩
  obtain ⟨ab, ao, ea, hlt, hc⟩ := h3 i (by omega)
  exact ⟨ab, ao, ea, hlt, by rw [hc]; simp⟩
theorem BytesL.drop {w : World} {base : Nat} {a a2 : Option Addr} {m c : Nat} {l : List UInt8} (h : BytesL w base (.slice a m c) l) (n : Nat) (hn : n ≤ l.length) (ha : n < l.length → ∀ ab ao, a = some ⟨ab, ao, none⟩ → a2 = some ⟨ab, ao + n, none⟩) : BytesL w base (.slice a2 (l.length - n) (c - n)) (l.drop n) := by
  obtain ⟨a', c', e, h1, h2, h3⟩ := h
  obtain ⟨rfl, rfl, rfl⟩ : a = a' ∧ m = l.length ∧ c = c' := by simpa using e
  have hl : (l.drop n).length = l.length - n := by rw [List.length_drop]
  refine ⟨a2, c - n, by rw [hl], by omega, by omega, fun i hi => ?_⟩
  obtain ⟨ab, ao, ea, hlt, hc⟩ := h3 (n + i) (by omega)
  refine ⟨ab, ao + n, ha (by omega) ab ao ea, hlt, ?_⟩
  rw [Nat.add_assoc, hc]; simp
/-- Block b is a reader; what is left is s, none if something did not fit. -/
def ReSt (base b : Nat) (s : Option (List UInt8)) (w : World) : Prop := base ≤ b ∧ match s with
  | some l => l.length ≤ 1048576 ∧ ∃ v, PAt w b [v, .bool false] ∧ BytesL w base v l
  | none => ∃ a n c, PAt w b [.slice a n c, .bool true]
theorem ReSt.lt {base b : Nat} {s : Option (List UInt8)} {w : World} (h : ReSt base b s w) : base ≤ b ∧ b < w.heap.size := by
  obtain ⟨h0, h1⟩ := h
  cases s with
  | some l => obtain ⟨_, v, h2, _⟩ := h1; exact ⟨h0, h2.lt⟩
  | none => obtain ⟨a, n, c, h2⟩ := h1; exact ⟨h0, h2.lt⟩
theorem ReSt.stable {base b : Nat} {s : Option (List UInt8)} {w w' : World} (h : ReSt base b s w) (hq : Quiet base b w w') : ReSt base b s w' := by
  obtain ⟨h0, h1⟩ := h
  refine ⟨h0, ?_⟩
  cases s with
  | some l => obtain ⟨hl, v, h2, h3⟩ := h1; exact ⟨hl, v, h2.of_block hq.blk, h3.below hq.below⟩
  | none => obtain ⟨a, n, c, h2⟩ := h1; exact ⟨a, n, c, h2.of_block hq.blk⟩
/-- What reader.take leaves. -/
def Took (base b : Nat) (q : Option (List UInt8) × List UInt8) (w : World) (e : Ending) (w' : World) : Prop := ∃ v, e = .returned v ∧ BytesL w' base v q.2 ∧ ReSt base b q.1 w' ∧ ApartR b w w'
theorem apartR_set (b o : Nat) (w : World) (u : Value) : ApartR b w (w.setCell ⟨b, o, none⟩ u) := apartR_setCells b [u] o w
set_option maxHeartbeats 16000000 in
set_option maxRecDepth 100000 in
theorem take_any (base b : Nat) (s : Option (List UInt8)) (n : Nat) (w : World) (h : ReSt base b s w) (hn : n ≤ 4294967296) :
    Calls Try.prog 123 #[.pointer (some ⟨b, 0, none⟩), .int .i64 n] w (Took base b (rkTake s n) w) := by
  obtain ⟨hb, h1⟩ := h
  have n0 : (n : Int) ≤ 4294967296 := by omega
  cases s with
  | none =>
    obtain ⟨a, m, c, h2⟩ := h1
    have c0 := h2.1.at 0 rfl
    have c1 := h2.1.at 1 rfl
    have f1 := h2.1.2.2 1 (by simp)
    have HF : Hid (Took base b (rkTake none n) w (.returned (.slice none 0 0)) (w.setCell ⟨b, 1, none⟩ (.bool true))) :=
      ⟨_, rfl, BytesL.nil _ _, ⟨hb, a, m, c, by have := h2.set 1 (by simp) (.bool true); exact this⟩, apartR_set _ _ _ _⟩
    clear h2
    go_enter Try.func123, Try.ntmps123
    go_wp2_with fail
    go_ret
    exact HF.out
  | some l =>
    obtain ⟨hl, v, h2, h3⟩ := h1
    obtain ⟨a, c, rfl⟩ := h3.slice
    have c0 := h2.1.at 0 rfl
    have c1 := h2.1.at 1 rfl
    have f1 := h2.1.2.2 1 (by simp)
    have f0 := h2.1.2.2 0 (by simp)
    have l0 : (l.length : Int) ≤ 1048576 := by omega
    by_cases hnl : n ≤ l.length
    · have i0 : (n : Int) ≤ (l.length : Int) := by omega
      have hcap : l.length ≤ c ∧ c ≤ 9223372036854775807 := by
        obtain ⟨a', c', e, q1, q2, _⟩ := h3
        obtain ⟨_, rfl⟩ : a = a' ∧ c = c' := by simpa using e
        exact ⟨q1, q2⟩
      have i1 : (n : Int) ≤ (c : Int) := by omega
      have i2 : (l.length : Int) ≤ (c : Int) := by omega
      have HF : Hid (∀ a2, (n < l.length → ∀ ab ao, a = some ⟨ab, ao, none⟩ → a2 = some ⟨ab, ao + n, none⟩) → Took base b (rkTake (some l) n) w (.returned (.slice a n c)) (w.setCell ⟨b, 0, none⟩ (.slice a2 (l.length - n) (c - n)))) := fun a2 ha2 => by
        rw [rkTake_yes _ _ hnl]
        have hap := apartR_set b 0 w (.slice a2 (l.length - n) (c - n))
        refine ⟨_, rfl, (h3.take n hnl).below (hap.below hb), ⟨hb, by rw [List.length_drop]; omega, .slice a2 (l.length - n) (c - n), by have := h2.set 0 (by simp) (.slice a2 (l.length - n) (c - n)); exact this, (h3.drop n hnl ha2).below (hap.below hb)⟩, hap⟩
      clear h2 h3 hcap
      go_enter Try.func123, Try.ntmps123
      go_wp2_with fail
      · obtain rfl : c = n := by assumption
        go_ret
        have := HF.out a (fun h => absurd h (by omega))
        rw [Nat.sub_self] at this
        exact this
      · go_ret
        exact HF.out _ (fun _ ab ao e => by rw [e]; simp [Addr.add_mid])
    · have i0 : (l.length : Int) < (n : Int) := by omega
      have HF : Hid (Took base b (rkTake (some l) n) w (.returned (.slice none 0 0)) (w.setCell ⟨b, 1, none⟩ (.bool true))) := by
        rw [rkTake_no _ _ hnl]
        exact ⟨_, rfl, BytesL.nil _ _, ⟨hb, a, l.length, c, by have := h2.set 1 (by simp) (.bool true); exact this⟩, apartR_set _ _ _ _⟩
      clear h2 h3
      go_enter Try.func123, Try.ntmps123
      go_wp2_with fail
      go_ret
      exact HF.out
theorem ApartR.trans {b : Nat} {x y z : World} (h : ApartR b x y) (g : ApartR b y z) : ApartR b x z := ⟨g.1.trans h.1, g.2.1.trans h.2.1, g.2.2.1.trans h.2.2.1, g.2.2.2.1.trans h.2.2.2.1, fun k hk => (g.2.2.2.2 k hk).trans (h.2.2.2.2 k hk)⟩
/-- Behind what is taken, and the store of what it is. -/
theorem ReSt.wrote {base b p o : Nat} {s : Option (List UInt8)} {cs : List Value} {w w1 : World} {u : Value} (h : ReSt base b s w1) (ha : ApartR b w w1) (hp : PAt w p cs) (hbase : base ≤ p) (hpb : p ≠ b) (ho : o < cs.length) :
    ReSt base b s (w1.setCell ⟨p, o, none⟩ u) ∧ Fr base b p w (w1.setCell ⟨p, o, none⟩ u) ∧ PAt (w1.setCell ⟨p, o, none⟩ u) p (putL cs o [u]) := by
  have hp1 : PAt w1 p cs := hp.of_block (ha.2.2.2.2 p hpb)
  refine ⟨h.stable (hp1.quiet hbase hpb o u), ⟨(ha.below h.1).setCell hbase _, fun k c t f _ _ hk => ?_⟩, by rw [← putL_one ho]; exact hp1.set o ho u⟩
  rw [Below.heap_setCell _ _ _ _ (fun e => hk.2 e)]
  exact ha.2.2.2.2 k hk.1
theorem rkTake_len (s : Option (List UInt8)) (n : Nat) : (rkTake s n).2.length ≤ n := by
  unfold rkTake
  cases s with
  | none => simp
  | some l => simp only; split <;> simp; omega
theorem ReSt.take_len {base b : Nat} {t : Option (List UInt8)} {w : World} (h : ReSt base b t w) (n : Nat) : (rkTake t n).2.length ≤ 1048576 := by
  cases t with
  | none => simp [rkTake]
  | some l =>
    have := h.2.1
    unfold rkTake
    simp only
    split
    · rw [List.length_take]; omega
    · simp
theorem run_bytes_none (w : World) (c : Nat) : (convert 22 9 (.slice none 0 c)).run Try.prog w = .ok (.string ⟨#[]⟩) w := by
  simp [convert, run_underlying Try.underlying22, run_underlying Try.underlying9, run_underlying Try.underlying5, Conv.bytesToString, go_sem]
  rfl
theorem pow8 : (256 : Nat) ^ 8 = 18446744073709551616 := by decide
theorem pow4 : (256 : Nat) ^ 4 = 4294967296 := by decide
theorem num_take_lt' (s : Option (List UInt8)) (n m : Nat) (hn : n ≤ m) : num (rkTake s n).2 < 256 ^ m := by
  have h1 := num_lt (rkTake s n).2
  have h2 := rkTake_len s n
  exact Nat.lt_of_lt_of_le h1 (Nat.pow_le_pow_right (by decide) (by omega))
def ReK (K : WkM rk) : Prop := K.St = ReSt K.base K.b
set_option maxHeartbeats 16000000 in
set_option maxRecDepth 100000 in
theorem re_int (K : WkM rk) (hK : ReK K) : Walks K 120 K.ptr [] intE rk.int := by
  intro s x w p o cs es av h1 h2 h3 h4 h5 h6 h7 h8
  obtain ⟨base, b, ty, St⟩ := K
  unfold ReK at hK
  simp only at hK
  subst hK
  obtain ⟨rfl, _⟩ := h6
  have HS := Lib.hid h1
  have HP := Lib.hid h4
  have hle := h5.le (by simp)
  have HO : Hid (o < cs.length) := by unfold Hid; simp at hle; omega
  have cp : w.cell? ⟨p, o, none⟩ = some (.int .i64 x) := h4.1.at o (h5 0 (by simp))
  clear h1 h4 h5 h7 h8 hle cp
  unfold WkM.ptr
  go_enter Try.func120, Try.ntmps120
  go_wp2_with fail
  refine (take_any base b s 8 w HS.out (by omega)).mono ?_
  rintro e w1 ⟨v, rfl, hbl, hst, hap⟩
  have hn := num_take_lt' s 8 8 (Nat.le_refl _)
  rw [pow8] at hn
  have hw := wrap_i64of _ hn
  have HW := Lib.hid (ReSt.wrote (u := .int .i64 (i64of (num (rkTake s 8).2))) hst hap HP.out h2 h3 HO.out)
  have HI := Lib.hid (i64of_I64 hn)
  have HBl := Lib.hid hbl
  have HL := Lib.hid (rkTake_len s 8)
  have hp1 : PAt w1 p cs := HP.out.of_block (hap.2.2.2.2 p h3)
  obtain ⟨cv, hcv⟩ : ∃ cv, w1.cell? ⟨p, o, none⟩ = some cv := ⟨cs[o]'HO.out, hp1.1.at o (List.getElem?_eq_getElem HO.out)⟩
  have hf := hp1.1.2.2 o HO.out
  obtain ⟨va, vc, rfl⟩ := hbl.slice
  clear hbl hst hap hp1 hn
  go_wp2_with fail
  refine (get_any base _ _ w1 HBl.out HL.out).mono ?_
  rintro e w2 ⟨rfl, rfl⟩
  go_wp2_with fail
  go_end0
  exact ⟨rfl, HW.out.1, HW.out.2.1, _, HW.out.2.2, rfl, HI.out⟩
set_option maxHeartbeats 16000000 in
set_option maxRecDepth 100000 in
theorem re_word (K : WkM rk) (hK : ReK K) : Walks K 122 K.ptr [] wordE rk.word := by
  intro s x w p o cs es av h1 h2 h3 h4 h5 h6 h7 h8
  obtain ⟨base, b, ty, St⟩ := K
  unfold ReK at hK
  simp only at hK
  subst hK
  obtain ⟨rfl, _⟩ := h6
  have HS := Lib.hid h1
  have HP := Lib.hid h4
  have hle := h5.le (by simp)
  have HO : Hid (o < cs.length) := by unfold Hid; simp at hle; omega
  clear h1 h4 h5 h7 h8 hle
  unfold WkM.ptr
  go_enter Try.func122, Try.ntmps122
  go_wp2_with fail
  refine (take_any base b s 8 w HS.out (by omega)).mono ?_
  rintro e w1 ⟨v, rfl, hbl, hst, hap⟩
  have hn := num_take_lt' s 8 8 (Nat.le_refl _)
  rw [pow8] at hn
  have HW := Lib.hid (ReSt.wrote (u := .int .u64 (num (rkTake s 8).2 : Nat)) hst hap HP.out h2 h3 HO.out)
  have HI := Lib.hid hn
  have HBl := Lib.hid hbl
  have HL := Lib.hid (rkTake_len s 8)
  have hp1 : PAt w1 p cs := HP.out.of_block (hap.2.2.2.2 p h3)
  obtain ⟨cv, hcv⟩ : ∃ cv, w1.cell? ⟨p, o, none⟩ = some cv := ⟨cs[o]'HO.out, hp1.1.at o (List.getElem?_eq_getElem HO.out)⟩
  have hf := hp1.1.2.2 o HO.out
  obtain ⟨va, vc, rfl⟩ := hbl.slice
  clear hbl hst hap hp1 hn
  go_wp2_with fail
  refine (get_any base _ _ w1 HBl.out HL.out).mono ?_
  rintro e w2 ⟨rfl, rfl⟩
  go_wp2_with fail
  go_end0
  exact ⟨rfl, HW.out.1, HW.out.2.1, _, HW.out.2.2, rfl, HI.out⟩
set_option maxHeartbeats 16000000 in
set_option maxRecDepth 100000 in
theorem re_text (K : WkM rk) (hK : ReK K) : Walks K 121 K.ptr [] strE rk.text := by
  intro s x w p o cs es av h1 h2 h3 h4 h5 h6 h7 h8
  obtain ⟨base, b, ty, St⟩ := K
  unfold ReK at hK
  simp only at hK
  subst hK
  obtain ⟨rfl, _⟩ := h6
  have HS := Lib.hid h1
  have HP := Lib.hid h4
  have hle := h5.le (by simp)
  have HO : Hid (o < cs.length) := by unfold Hid; simp at hle; omega
  clear h1 h4 h5 h7 h8 hle
  unfold WkM.ptr
  go_enter Try.func121, Try.ntmps121
  go_wp2_with fail
  refine (take_any base b s 4 w HS.out (by omega)).mono ?_
  rintro e w1 ⟨v, rfl, hbl, hst, hap⟩
  have hn := num_take_lt' s 4 4 (Nat.le_refl _)
  rw [pow4] at hn
  have HBl := Lib.hid hbl
  have HL := Lib.hid (rkTake_len s 4)
  have HS1 := Lib.hid hst
  have HA1 := Lib.hid hap
  obtain ⟨va, vc, rfl⟩ := hbl.slice
  clear hbl hst hap HS
  go_wp2_with fail
  refine (get_any base _ _ w1 HBl.out (by have := HL.out; omega)).mono ?_
  rintro e w2 ⟨rfl, rfl⟩
  have HD : Hid (∀ r : Option (List UInt8) × List UInt8, r = rkTake (rkTake s 4).1 (num (rkTake s 4).2) → rk.text s x = (r.1, ⟨r.2.toArray⟩)) := fun r hr => by rw [hr]; rfl
  obtain ⟨N, hN⟩ : ∃ N, N = num (rkTake s 4).2 := ⟨_, rfl⟩
  rw [← hN] at hn HD ⊢
  have n0 : (N : Int) < 4294967296 := by omega
  have HNn := Lib.hid hN
  clear hN HBl HL
  go_wp2_with fail
  refine (take_any base b (rkTake s 4).1 N w1 HS1.out (by omega)).mono ?_
  rintro e w3 ⟨u, rfl, hbl, hst, hap⟩
  have hsz := HS1.out.take_len N
  have HD2 := Lib.hid (HD.out _ rfl)
  generalize rkTake (rkTake s 4).1 N = q at hbl hst hsz HD2
  have HW := Lib.hid (ReSt.wrote (u := .string ⟨q.2.toArray⟩) hst (HA1.out.trans hap) HP.out h2 h3 HO.out)
  have hp1 : PAt w3 p cs := HP.out.of_block ((HA1.out.trans hap).2.2.2.2 p h3)
  obtain ⟨cv, hcv⟩ : ∃ cv, w3.cell? ⟨p, o, none⟩ = some cv := ⟨cs[o]'HO.out, hp1.1.at o (List.getElem?_eq_getElem HO.out)⟩
  have hf := hp1.1.2.2 o HO.out
  have hcv1 : (convert 22 9 u).run Try.prog w3 = .ok (.string ⟨q.2.toArray⟩) w3 := by
    obtain ⟨a, c, e, q1, q2, q3⟩ := hbl
    subst e
    rcases Nat.eq_zero_or_pos q.2.length with h0 | h0
    · have e0 : q.2 = [] := List.eq_nil_of_length_eq_zero h0
      rw [e0]
      cases a with
      | none => exact run_bytes_none w3 c
      | some a => exact run_convert_bytes_back (P := Try.prog) w3 22 9 5 a c [] Try.underlying22 Try.underlying5 Try.underlying9 (fun j hj => by simp at hj)
    · obtain ⟨ab, ao, rfl, _, _⟩ := q3 0 h0
      refine run_convert_bytes_back (P := Try.prog) w3 22 9 5 ⟨ab, ao, none⟩ c q.2 Try.underlying22 Try.underlying5 Try.underlying9 (fun j hj => ?_)
      obtain ⟨ab', ao', e', _, hc⟩ := q3 j hj
      obtain ⟨rfl, rfl⟩ : ab = ab' ∧ ao = ao' := by simpa using e'
      rw [Addr.add_mid]; exact hc
  have HI : Hid (ByteArray.size ⟨q.2.toArray⟩ ≤ 10000000) := by
    unfold Hid
    rw [← size_list]; simp; omega
  obtain ⟨va', vc', rfl⟩ := hbl.slice
  clear hbl hst hap hp1 hsz HD HNn
  go_wp2_with fail
  go_end0
  rw [HD2.out]
  exact ⟨rfl, HW.out.1, HW.out.2.1, _, HW.out.2.2, rfl, HI.out⟩
theorem ReSt.bad {base b : Nat} {l : List UInt8} {w : World} (h : ReSt base b (some l) w) : ReSt base b none (w.setCell ⟨b, 1, none⟩ (.bool true)) := by
  obtain ⟨h0, _, v, h2, h3⟩ := h
  obtain ⟨a, c, rfl⟩ := h3.slice
  exact ⟨h0, a, l.length, c, by have := h2.set 1 (by simp) (.bool true); exact this⟩
theorem ReSt.good {base b : Nat} {l : List UInt8} {w : World} (h : ReSt base b (some l) w) : ReSt base b (some l) (w.setCell ⟨b, 1, none⟩ (.bool false)) := by
  obtain ⟨h0, hl, v, h2, h3⟩ := h
  exact ⟨h0, hl, v, by have := h2.set 1 (by simp) (.bool false); exact this, h3.below ((apartR_set b 1 w _).below h0)⟩
theorem ReSt.none_ {base b : Nat} {w : World} (h : ReSt base b none w) : ReSt base b none (w.setCell ⟨b, 1, none⟩ (.bool true)) := by
  obtain ⟨h0, a, n, c, h2⟩ := h
  exact ⟨h0, a, n, c, by have := h2.set 1 (by simp) (.bool true); exact this⟩
set_option maxHeartbeats 16000000 in
set_option maxRecDepth 100000 in
theorem re_bool (K : WkM rk) (hK : ReK K) : Walks K 118 K.ptr [] boolE rk.bool := by
  intro s x w p o cs es av h1 h2 h3 h4 h5 h6 h7 h8
  obtain ⟨base, b, ty, St⟩ := K
  unfold ReK at hK
  simp only at hK
  subst hK
  obtain rfl := h6
  have HS := Lib.hid h1
  have HP := Lib.hid h4
  have hle := h5.le (by simp)
  have HO : Hid (o < cs.length) := by unfold Hid; simp at hle; omega
  clear h1 h4 h5 h7 h8 hle
  unfold WkM.ptr
  go_enter Try.func118, Try.ntmps118
  go_wp2_with fail
  refine (take_any base b s 1 w HS.out (by omega)).mono ?_
  rintro e w1 ⟨v, rfl, hbl, hst, hap⟩
  have HBl := Lib.hid hbl
  have HL := Lib.hid (rkTake_len s 1)
  have HS1 := Lib.hid hst
  have HA1 := Lib.hid hap
  obtain ⟨va, vc, rfl⟩ := hbl.slice
  clear hbl hst hap HS
  go_wp2_with fail
  refine (get_any base _ _ w1 HBl.out (by have := HL.out; omega)).mono ?_
  rintro e w2 ⟨rfl, rfl⟩
  have HD : Hid (∀ r : Option (List UInt8) × List UInt8, r = rkTake s 1 → rk.bool s x = (if 1 < num r.2 then none else r.1, num r.2 == 1)) := fun r hr => by rw [hr]; rfl
  have HNb : Hid (∀ r : Option (List UInt8) × List UInt8, r = rkTake s 1 → r.1 = none → num r.2 = 0) := fun r hr h0 => by
    rw [hr] at h0 ⊢
    unfold rkTake at h0 ⊢
    cases s with
    | none => rfl
    | some l => simp only at h0 ⊢; split at h0 <;> rename_i h1; · cases h0
                · rw [if_neg h1]; rfl
  have HD2 := Lib.hid (HD.out _ rfl)
  have HN2 := Lib.hid (HNb.out _ rfl)
  clear HD HNb HL HBl
  obtain ⟨q, hq⟩ : ∃ q, q = rkTake s 1 := ⟨_, rfl⟩
  rw [← hq] at HD2 HN2 HS1 ⊢
  clear hq
  obtain ⟨q1, q2⟩ := q
  simp only at HD2 HN2 HS1 ⊢
  obtain ⟨N, hN⟩ : ∃ N, N = num q2 := ⟨_, rfl⟩
  rw [← hN] at HD2 HN2 ⊢
  clear hN
  cases q1 with
  | none =>
    obtain rfl : N = 0 := HN2.out rfl
    have HW := Lib.hid (ReSt.wrote (u := .bool false) HS1.out.none_ (HA1.out.trans (apartR_set b 1 w1 (.bool true))) HP.out h2 h3 HO.out)
    obtain ⟨_, ba, bn, bc, hp0⟩ := HS1.out
    have c1 := hp0.1.at 1 rfl
    have f1 := hp0.1.2.2 1 (by simp)
    have hp1 : PAt (w1.setCell ⟨b, 1, none⟩ (.bool true)) p cs := HP.out.of_block ((HA1.out.trans (apartR_set b 1 w1 (.bool true))).2.2.2.2 p h3)
    obtain ⟨cv, hcv⟩ : ∃ cv, (w1.setCell ⟨b, 1, none⟩ (.bool true)).cell? ⟨p, o, none⟩ = some cv := ⟨cs[o]'HO.out, hp1.1.at o (List.getElem?_eq_getElem HO.out)⟩
    have hf := hp1.1.2.2 o HO.out
    clear hp0 hp1
    go_wp2_with fail
    go_end0
    rw [HD2.out]
    exact ⟨rfl, HW.out.1, HW.out.2.1, _, HW.out.2.2, rfl⟩
  | some l =>
    obtain ⟨_, _, bv, hp0, hby⟩ := HS1.out
    obtain ⟨ba, bc, rfl⟩ := hby.slice
    have c1 := hp0.1.at 1 rfl
    have f1 := hp0.1.2.2 1 (by simp)
    clear hp0 hby
    by_cases hN1 : 1 < N
    · have i1 : (1 : Int) < (N : Int) := by omega
      have i2 : ((N : Int) == 1) = false := by rw [beq_eq_false_iff_ne]; omega
      have HW := Lib.hid (ReSt.wrote (u := .bool false) HS1.out.bad (HA1.out.trans (apartR_set b 1 w1 (.bool true))) HP.out h2 h3 HO.out)
      have hp1 : PAt (w1.setCell ⟨b, 1, none⟩ (.bool true)) p cs := HP.out.of_block ((HA1.out.trans (apartR_set b 1 w1 (.bool true))).2.2.2.2 p h3)
      obtain ⟨cv, hcv⟩ : ∃ cv, (w1.setCell ⟨b, 1, none⟩ (.bool true)).cell? ⟨p, o, none⟩ = some cv := ⟨cs[o]'HO.out, hp1.1.at o (List.getElem?_eq_getElem HO.out)⟩
      have hf := hp1.1.2.2 o HO.out
      have HD3 : Hid (rk.bool s x = (none, false)) := by unfold Hid; rw [HD2.out, if_pos hN1]; congr 1; rw [beq_eq_false_iff_ne]; omega
      clear hp1 hN1
      go_wp2_with fail
      go_end0
      rw [HD3.out]
      exact ⟨rfl, HW.out.1, HW.out.2.1, _, HW.out.2.2, rfl⟩
    · have hp1 : PAt (w1.setCell ⟨b, 1, none⟩ (.bool false)) p cs := HP.out.of_block ((HA1.out.trans (apartR_set b 1 w1 (.bool false))).2.2.2.2 p h3)
      obtain ⟨cv, hcv⟩ : ∃ cv, (w1.setCell ⟨b, 1, none⟩ (.bool false)).cell? ⟨p, o, none⟩ = some cv := ⟨cs[o]'HO.out, hp1.1.at o (List.getElem?_eq_getElem HO.out)⟩
      have hf := hp1.1.2.2 o HO.out
      have HW := fun u : Bool => Lib.hid (ReSt.wrote (u := .bool u) HS1.out.good (HA1.out.trans (apartR_set b 1 w1 (.bool false))) HP.out h2 h3 HO.out)
      have HD3 : Hid (rk.bool s x = (some l, N == 1)) := by unfold Hid; rw [HD2.out, if_neg hN1]
      have HWf := HW false
      have HWt := HW true
      clear HW hp1
      obtain rfl | rfl : N = 0 ∨ N = 1 := by omega
      · clear hN1
        go_wp2_with fail
        go_end0
        rw [HD3.out]
        exact ⟨rfl, HWf.out.1, HWf.out.2.1, _, HWf.out.2.2, rfl⟩
      · clear hN1
        go_wp2_with fail
        go_end0
        rw [HD3.out]
        exact ⟨rfl, HWt.out.1, HWt.out.2.1, _, HWt.out.2.2, rfl⟩
end Go.Proofs.Ytpknalpdcfjffaa
/- The reader's count; the reader is a walker. -/
namespace Go.Proofs.Ytpknalpdcfjffaa
open Go Go.RowKit

theorem ApartR.fr {base b : Nat} {w w' : World} (h : ApartR b w w') (hb : base ≤ b) : Fr base b b w w' := ⟨h.below hb, fun k _ _ _ _ _ hk => h.2.2.2.2 k hk.1⟩
set_option maxHeartbeats 16000000 in
set_option maxRecDepth 100000 in
theorem re_count (K : WkM rk) (hK : ReK K) (s : Option (List UInt8)) (n : Nat) (w : World) (h1 : K.St s w) :
    Calls Try.prog 119 #[K.ptr, .int .i64 n] w fun e w' => e = .returned (.int .i64 (rk.count s n).2) ∧ (rk.count s n).2 ≤ 1000000 ∧ K.St (rk.count s n).1 w' ∧ Fr K.base K.b K.b w w' := by
  obtain ⟨base, b, ty, St⟩ := K
  unfold ReK at hK
  simp only at hK
  subst hK
  have HS := Lib.hid h1
  have hbb : base ≤ b := HS.out.1
  clear h1
  unfold WkM.ptr
  go_enter Try.func119, Try.ntmps119
  go_wp2_with fail
  refine (take_any base b s 4 w HS.out (by omega)).mono ?_
  rintro e w1 ⟨v, rfl, hbl, hst, hap⟩
  have hn := num_take_lt' s 4 4 (Nat.le_refl _)
  rw [pow4] at hn
  have HBl := Lib.hid hbl
  have HL := Lib.hid (rkTake_len s 4)
  have HS1 := Lib.hid hst
  have HA1 := Lib.hid hap
  obtain ⟨va, vc, rfl⟩ := hbl.slice
  clear hbl hst hap HS
  go_wp2_with fail
  refine (get_any base _ _ w1 HBl.out (by have := HL.out; omega)).mono ?_
  rintro e w2 ⟨rfl, rfl⟩
  have HD : Hid (∀ r : Option (List UInt8) × List UInt8, r = rkTake s 4 → rk.count s n = rkCount r) := fun r hr => by rw [hr]; rfl
  have HD2 := Lib.hid (HD.out _ rfl)
  clear HD HL HBl
  obtain ⟨q, hq⟩ : ∃ q, q = rkTake s 4 := ⟨_, rfl⟩
  rw [← hq] at HD2 HS1 hn ⊢
  clear hq
  obtain ⟨q1, q2⟩ := q
  simp only at HD2 HS1 hn ⊢
  unfold rkCount at HD2
  simp only at HD2
  obtain ⟨N, hN⟩ : ∃ N, N = num q2 := ⟨_, rfl⟩
  rw [← hN] at HD2 hn ⊢
  clear hN
  have n0 : (N : Int) < 4294967296 := by omega
  cases q1 with
  | none =>
    simp only at HD2
    have HW := Lib.hid (And.intro HS1.out.none_ ((HA1.out.trans (apartR_set b 1 w1 (.bool true))).fr hbb))
    obtain ⟨_, ba, bn, bc, hp0⟩ := HS1.out
    have c1 := hp0.1.at 1 rfl
    have f1 := hp0.1.2.2 1 (by simp)
    clear hp0
    go_wp2_with fail
    go_ret
    rw [HD2.out]
    exact ⟨rfl, by decide, HW.out.1, HW.out.2⟩
  | some l =>
    simp only at HD2
    have HW := Lib.hid (And.intro HS1.out.bad ((HA1.out.trans (apartR_set b 1 w1 (.bool true))).fr hbb))
    have HW0 := Lib.hid (And.intro HS1.out (HA1.out.fr hbb))
    obtain ⟨_, hl, bv, hp0, hby⟩ := HS1.out
    obtain ⟨ba, bc, rfl⟩ := hby.slice
    have c0 := hp0.1.at 0 rfl
    have c1 := hp0.1.at 1 rfl
    have f1 := hp0.1.2.2 1 (by simp)
    have l0 : (l.length : Int) ≤ 1048576 := by omega
    have hq4 : (l.length : Int) / 4 ≤ 262144 := by omega
    clear hp0 hby
    by_cases hle : N ≤ l.length / 4
    · have HD3 : Hid (rk.count s n = (some l, N)) := by unfold Hid; rw [HD2.out, if_pos hle]
      have i1 : ¬ (l.length : Int) / 4 < (N : Int) := by omega
      have hb1 : decide ((l.length : Int) / 4 < (N : Int)) = false := by simpa using i1
      have HNle : Hid (N ≤ 1000000) := by unfold Hid; omega
      clear hle i1
      go_wp2_with fail
      go_ret
      rw [HD3.out]
      exact ⟨rfl, HNle.out, HW0.out.1, HW0.out.2⟩
    · have HD3 : Hid (rk.count s n = (none, 0)) := by unfold Hid; rw [HD2.out, if_neg hle]
      have i1 : (l.length : Int) / 4 < (N : Int) := by omega
      clear hle
      go_wp2_with fail
      go_ret
      rw [HD3.out]
      exact ⟨rfl, by decide, HW.out.1, HW.out.2⟩
/-- The reader is a walker. -/
theorem re_ok (base b : Nat) : WkM.OK (k := rk) ⟨base, b, 92, ReSt base b⟩ := by
  refine ⟨rk_mono, fun h => h.lt, fun h hq => h.stable hq, ?_, ?_, ?_, ?_, ?_⟩
  · exact ⟨_, ⟨fun w => by kernel_rfl, ⟨fun w => by kernel_rfl, _, Try.func120, by kernel_rfl, by kernel_rfl⟩⟩, re_int _ rfl⟩
  · exact ⟨_, ⟨fun w => by kernel_rfl, ⟨fun w => by kernel_rfl, _, Try.func122, by kernel_rfl, by kernel_rfl⟩⟩, re_word _ rfl⟩
  · exact ⟨_, ⟨fun w => by kernel_rfl, ⟨fun w => by kernel_rfl, _, Try.func118, by kernel_rfl, by kernel_rfl⟩⟩, re_bool _ rfl⟩
  · exact ⟨_, ⟨fun w => by kernel_rfl, ⟨fun w => by kernel_rfl, _, Try.func121, by kernel_rfl, by kernel_rfl⟩⟩, re_text _ rfl⟩
  · exact ⟨_, ⟨fun w => by kernel_rfl, ⟨fun w => by kernel_rfl, _, Try.func119, by kernel_rfl, by kernel_rfl⟩⟩, fun s n w h1 _ _ => re_count ⟨base, b, 92, ReSt base b⟩ rfl s n w h1⟩
end Go.Proofs.Ytpknalpdcfjffaa
/- The writer of package store: its methods, and that it is a walker. Printed by gen_writer.py. -/
namespace Go.Proofs.Ytpknalpdcfjffaa
open Go Go.RowKit

/-- Bytes below block ob stand. -/
def ByOld (ob : Nat) (w0 w : World) : Prop := ∀ (k : Nat) (c : Array Value) (f : Nat × Nat), k < ob → w0.heap[k]? = some (Obj.cells c 5 f) → w.heap[k]? = w0.heap[k]?
/-- Block b is a writer that has written these bytes, into blocks from ob on; the bytes of world w0 below ob stand. -/
def WrSt (base b ob : Nat) (w0 : World) (s : List UInt8) (w : World) : Prop := base ≤ b ∧ base ≤ ob ∧ ob ≤ w.heap.size ∧ ByOld ob w0 w ∧ s.length ≤ 10000000 ∧ ∃ bv, PAt w b [bv] ∧ OwnB w ob bv s
theorem OwnB.bytes {w w' : World} {base : Nat} {v : Value} {l : List UInt8} (h : OwnB w base v l) (hb : ∀ (k : Nat) (c : Array Value) (f : Nat × Nat), w.heap[k]? = some (Obj.cells c 5 f) → w'.heap[k]? = w.heap[k]?) : OwnB w' base v l :=
  ownsRow_block h fun g hg => by
    obtain ⟨_, c, f, e⟩ := ownsRow_typed h g hg
    exact hb g c f e
theorem OwnB.slice {w : World} {base : Nat} {v : Value} {l : List UInt8} (h : OwnB w base v l) : ∃ a c, v = .slice a l.length c := by
  rcases h.2 with ⟨e, h0⟩ | ⟨g, cap, cur, e, _⟩
  · exact ⟨none, 0, by rw [e, h0]⟩
  · exact ⟨_, _, e⟩
theorem OwnB.form {w : World} {base : Nat} {v : Value} {l : List UInt8} (h : OwnB w base v l) : ∃ a n c, v = .slice a n c := by
  obtain ⟨a, c, e⟩ := h.slice
  exact ⟨a, _, c, e⟩
theorem PAt.nb {w w' : World} {p : Nat} {cs : List Value} (h : PAt w p cs) (hn : NB w w') : PAt w' p cs := by
  obtain ⟨c, t, f, h2, h3⟩ := h.2
  exact h.of_block (hn p c t f h2 h3)
theorem PAt.ne_byte {w : World} {p : Nat} {cs : List Value} (h : PAt w p cs) {k : Nat} {c : Array Value} {f : Nat × Nat} (hk : w.heap[k]? = some (Obj.cells c 5 f)) : k ≠ p := by
  obtain ⟨_, c', t, f', h2, h3⟩ := h
  intro e
  subst e
  rw [h2] at hk
  injection hk with hk
  injection hk with _ hk _
  exact h3 hk
theorem WrSt.stable {base b ob : Nat} {w0 : World} {s : List UInt8} {w w' : World} (h : WrSt base b ob w0 s w) (hq : Quiet base b w w') : WrSt base b ob w0 s w' := by
  obtain ⟨h0, h3, h4, h5, hl, bv, h1, h2⟩ := h
  refine ⟨h0, h3, Nat.le_trans h4 hq.below.size, fun k c f hk e => ?_, hl, bv, h1.of_block hq.blk, h2.bytes hq.bytes⟩
  have e1 := h5 k c f hk e
  rw [← e1]
  exact hq.bytes k c f (by rw [e1]; exact e)
theorem putL_same {cs es : List Value} {o : Nat} (h : At cs o es) (h0 : 0 < es.length) : putL cs o es = cs := by
  apply List.ext_getElem?
  intro i
  have hl := h.le h0
  rw [putL_get hl]
  by_cases h1 : o ≤ i ∧ i < o + es.length
  · rw [if_pos h1]
    have := h (i - o) (by omega)
    rw [show o + (i - o) = i by omega] at this
    exact this.symm
  · rw [if_neg h1]
/-- Behind an append to the writer's bytes and the store of what comes of it. -/
theorem WrSt.wrote {base b ob p : Nat} {w0 : World} {s l : List UInt8} {bv v : Value} {cs : List Value} {w w2 : World} (hb : base ≤ b) (hbo : base ≤ ob) (hos : ob ≤ w.heap.size) (hJ : ByOld ob w0 w) (hl : (s ++ l).length ≤ 10000000) (h1 : PAt w b [bv]) (hP : PAt w p cs) (hpb : p ≠ b) (hB : Below ob w w2) (hN : NB w w2) (hO : OwnB w2 ob v (s ++ l)) :
    WrSt base b ob w0 (s ++ l) (w2.setCell ⟨b, 0, none⟩ v) ∧ Fr base b p w (w2.setCell ⟨b, 0, none⟩ v) ∧ PAt (w2.setCell ⟨b, 0, none⟩ v) p cs := by
  have h2 := h1.nb hN
  refine ⟨⟨hb, hbo, by have := hB.size; simp [World.setCell]; omega, fun k c f hk e => ?_, hl, v, h2.set 0 (by simp) v, hO.bytes fun k c f hk => Below.heap_setCell _ _ _ _ (h2.ne_byte hk)⟩, ⟨(hB.mono hbo).setCell hb _, fun k c t f e1 e2 e3 => ?_⟩, (hP.nb hN).of_block (Below.heap_setCell _ _ _ _ hpb)⟩
  · have e1 := hJ k c f hk e
    have e2 : w2.heap[k]? = w0.heap[k]? := (hB.block k hk).trans e1
    rw [← e2]
    exact Below.heap_setCell _ _ _ _ (h2.ne_byte (by rw [e2]; exact e))
  · rw [Below.heap_setCell _ _ _ _ (fun e => e3.1 e)]
    exact hN k c t f e1 e2

set_option maxHeartbeats 16000000 in
set_option maxRecDepth 100000 in
theorem wr_int (ob : Nat) (w0 : World) (K : WkM wk) (hK : K.St = WrSt K.base K.b ob w0) : Walks K 115 K.ptr [] intE wk.int := by
  intro s x w p o cs es av h1 h2 h3 h4 h5 h6 h7 h8
  obtain ⟨base, b, ty, St⟩ := K
  simp only at hK
  subst hK
  obtain ⟨hb, hbo, hos, hJ, hsl, bv, hbv, hO⟩ := h1
  have HJ := Lib.hid hJ
  clear hJ
  obtain ⟨rfl, r1⟩ := h6
  obtain ⟨ba, bc, rfl⟩ := hO.slice
  have hSz : (s ++ be 8 (u64 x)).length ≤ 10000000 := h8
  have HSz := Lib.hid hSz
  have HO := Lib.hid hO
  have HB := Lib.hid hbv
  have HP := Lib.hid h4
  have HAt := Lib.hid h5
  have HS : Hid (w.drew.cell? ⟨b, 0, none⟩ = some (.slice ba s.length bc) ∧ w.drew.cell? ⟨p, o, none⟩ = some (.int .i64 x)) := ⟨hbv.drew.1.at 0 rfl, h4.drew.1.at o (h5 0 (by simp))⟩
  have hsl' : s.length ≤ 10000000 := hsl
  clear h4 h5 h7 h8 hO hbv
  unfold WkM.ptr
  go_enter Try.func115, Try.ntmps115
  refine wp_region_seqL (by kernel_rfl) (fun w' => w'.cell? ⟨b, 0, none⟩ = some (.slice ba s.length bc) ∧ w'.cell? ⟨p, o, none⟩ = some (.int .i64 x)) 12 [(0, 0), (1, 0), (2, 0), (3, 0), (4, 1), (5, 0), (6, 0), (7, 1), (8, 0), (9, 2), (10, 0), (11, 0), (12, 2)] (by kernel_rfl) (HS.out) ?_
  refine sl_q (d := some 4) rfl rfl rfl (.pointer (some ⟨b, 0, none⟩)) (fun w => rfl) ?_
  simp only [Act.put, List.setIfInBounds_toArray, List.set_cons_zero, List.set_cons_succ]
  refine sl_q (d := some 5) rfl rfl rfl (.pointer (some ⟨b, 0, none⟩)) (fun w => rfl) ?_
  simp only [Act.put, List.setIfInBounds_toArray, List.set_cons_zero, List.set_cons_succ]
  refine sl_q (d := some 6) rfl rfl rfl (.pointer (some ⟨b, 0, none⟩)) (fun w => rfl) ?_
  simp only [Act.put, List.setIfInBounds_toArray, List.set_cons_zero, List.set_cons_succ]
  refine sl_q (d := some 7) rfl rfl rfl (.pointer (some ⟨b, 0, none⟩)) (fun w => by go_simp) ?_
  simp only [Act.put, List.setIfInBounds_toArray, List.set_cons_zero, List.set_cons_succ]
  refine sl_s (d := some 8) rfl rfl rfl (.slice ba s.length bc) (fun w hw => by simp [execOp, Act.eval, hw.1, go_sem]) ?_
  simp only [Act.put, List.setIfInBounds_toArray, List.set_cons_zero, List.set_cons_succ]
  refine sl_q (d := some 9) rfl rfl rfl (.pointer (some ⟨p, o, none⟩)) (fun w => rfl) ?_
  simp only [Act.put, List.setIfInBounds_toArray, List.set_cons_zero, List.set_cons_succ]
  refine sl_q (d := some 10) rfl rfl rfl (.pointer (some ⟨p, o, none⟩)) (fun w => rfl) ?_
  simp only [Act.put, List.setIfInBounds_toArray, List.set_cons_zero, List.set_cons_succ]
  refine sl_s (d := some 11) rfl rfl rfl (.int .i64 x) (fun w hw => by simp [execOp, Act.eval, hw.2, go_sem]) ?_
  simp only [Act.put, List.setIfInBounds_toArray, List.set_cons_zero, List.set_cons_succ]
  refine sl_q (d := some 12) rfl rfl rfl (.int .u64 (u64 x : Nat)) (fun w => by simp [execOp, Act.eval, go_sem, wrap_u64]) ?_
  simp only [Act.put, List.setIfInBounds_toArray, List.set_cons_zero, List.set_cons_succ]
  refine sl_call (d := some 13) rfl rfl rfl ⟨_, Try.func26, by kernel_rfl, by kernel_rfl⟩ _ _ _ rfl rfl [.slice ba s.length bc, .int .u64 (u64 x : Nat), .int .i64 8] rfl (put_any 8 (u64 x) ob (by omega) (u64_lt _) _ s w.drew (HO.out.bytes fun _ _ _ _ => rfl) (by omega) hos) ?_
  rintro e w2 ⟨v2, rfl, hO2, hB2, hN2⟩
  obtain ⟨va, vn, vc, rfl⟩ := hO2.form
  have HN2 : Hid (NB w w2) := hN2
  have HB2 : Hid (Below ob w w2) := (Below.refl _ _).drew.trans hB2
  have HO2 := Lib.hid hO2
  refine ⟨_, rfl, fun _ => ⟨(HB.out.nb HN2.out).1.at 0 rfl, (HP.out.nb HN2.out).1.at o (HAt.out 0 (by simp))⟩, ?_⟩
  simp only [Act.put, List.setIfInBounds_toArray, List.set_cons_zero, List.set_cons_succ]
  clear hO2 hB2 hN2
  refine sl_q (d := some 14) rfl rfl rfl (.pointer (some ⟨b, 0, none⟩)) (fun w => rfl) ?_
  simp only [Act.put, List.setIfInBounds_toArray, List.set_cons_zero, List.set_cons_succ]
  refine sl_q (d := some 15) rfl rfl rfl (.pointer (some ⟨b, 0, none⟩)) (fun w => by go_simp) ?_
  simp only [Act.put, List.setIfInBounds_toArray, List.set_cons_zero, List.set_cons_succ]
  have c2 := (HB.out.nb HN2.out).1.at 0 rfl
  have f2 := (HB.out.nb HN2.out).1.2.2 0 (by simp)
  have HW := Lib.hid (WrSt.wrote hb hbo hos HJ.out HSz.out HB.out HP.out h3 HB2.out HN2.out HO2.out)
  refine sl_skip (d := none) rfl rfl rfl (w2.setCell ⟨b, 0, none⟩ (.slice va vn vc)) (by simp [execOp, Act.eval, c2, f2, go_sem]) (fun h => by cases h) ?_
  simp only [Act.put, List.setIfInBounds_toArray, List.set_cons_zero, List.set_cons_succ]
  clear c2 f2
  refine sl_end ?_
  try go_wp2_with fail
  go_end0
  exact ⟨rfl, ⟨HW.out.1, HW.out.2.1, [.int .i64 x], by rw [putL_same HAt.out (by simp)]; exact HW.out.2.2, rfl, r1⟩⟩

set_option maxHeartbeats 16000000 in
set_option maxRecDepth 100000 in
theorem wr_word (ob : Nat) (w0 : World) (K : WkM wk) (hK : K.St = WrSt K.base K.b ob w0) : Walks K 117 K.ptr [] wordE wk.word := by
  intro s x w p o cs es av h1 h2 h3 h4 h5 h6 h7 h8
  obtain ⟨base, b, ty, St⟩ := K
  simp only at hK
  subst hK
  obtain ⟨hb, hbo, hos, hJ, hsl, bv, hbv, hO⟩ := h1
  have HJ := Lib.hid hJ
  clear hJ
  obtain ⟨rfl, r1⟩ := h6
  obtain ⟨ba, bc, rfl⟩ := hO.slice
  have hSz : (s ++ be 8 x).length ≤ 10000000 := h8
  have HSz := Lib.hid hSz
  have HO := Lib.hid hO
  have HB := Lib.hid hbv
  have HP := Lib.hid h4
  have HAt := Lib.hid h5
  have HS : Hid (w.drew.cell? ⟨b, 0, none⟩ = some (.slice ba s.length bc) ∧ w.drew.cell? ⟨p, o, none⟩ = some (.int .u64 x)) := ⟨hbv.drew.1.at 0 rfl, h4.drew.1.at o (h5 0 (by simp))⟩
  have hsl' : s.length ≤ 10000000 := hsl
  clear h4 h5 h7 h8 hO hbv
  unfold WkM.ptr
  go_enter Try.func117, Try.ntmps117
  refine wp_region_seqL (by kernel_rfl) (fun w' => w'.cell? ⟨b, 0, none⟩ = some (.slice ba s.length bc) ∧ w'.cell? ⟨p, o, none⟩ = some (.int .u64 x)) 11 [(0, 0), (1, 0), (2, 0), (3, 0), (4, 1), (5, 0), (6, 0), (7, 1), (8, 2), (9, 0), (10, 0), (11, 2)] (by kernel_rfl) (HS.out) ?_
  refine sl_q (d := some 4) rfl rfl rfl (.pointer (some ⟨b, 0, none⟩)) (fun w => rfl) ?_
  simp only [Act.put, List.setIfInBounds_toArray, List.set_cons_zero, List.set_cons_succ]
  refine sl_q (d := some 5) rfl rfl rfl (.pointer (some ⟨b, 0, none⟩)) (fun w => rfl) ?_
  simp only [Act.put, List.setIfInBounds_toArray, List.set_cons_zero, List.set_cons_succ]
  refine sl_q (d := some 6) rfl rfl rfl (.pointer (some ⟨b, 0, none⟩)) (fun w => rfl) ?_
  simp only [Act.put, List.setIfInBounds_toArray, List.set_cons_zero, List.set_cons_succ]
  refine sl_q (d := some 7) rfl rfl rfl (.pointer (some ⟨b, 0, none⟩)) (fun w => by go_simp) ?_
  simp only [Act.put, List.setIfInBounds_toArray, List.set_cons_zero, List.set_cons_succ]
  refine sl_s (d := some 8) rfl rfl rfl (.slice ba s.length bc) (fun w hw => by simp [execOp, Act.eval, hw.1, go_sem]) ?_
  simp only [Act.put, List.setIfInBounds_toArray, List.set_cons_zero, List.set_cons_succ]
  refine sl_q (d := some 9) rfl rfl rfl (.pointer (some ⟨p, o, none⟩)) (fun w => rfl) ?_
  simp only [Act.put, List.setIfInBounds_toArray, List.set_cons_zero, List.set_cons_succ]
  refine sl_q (d := some 10) rfl rfl rfl (.pointer (some ⟨p, o, none⟩)) (fun w => rfl) ?_
  simp only [Act.put, List.setIfInBounds_toArray, List.set_cons_zero, List.set_cons_succ]
  refine sl_s (d := some 11) rfl rfl rfl (.int .u64 x) (fun w hw => by simp [execOp, Act.eval, hw.2, go_sem]) ?_
  simp only [Act.put, List.setIfInBounds_toArray, List.set_cons_zero, List.set_cons_succ]
  refine sl_call (d := some 12) rfl rfl rfl ⟨_, Try.func26, by kernel_rfl, by kernel_rfl⟩ _ _ _ rfl rfl [.slice ba s.length bc, .int .u64 (x : Nat), .int .i64 8] rfl (put_any 8 (x) ob (by omega) (by omega) _ s w.drew (HO.out.bytes fun _ _ _ _ => rfl) (by omega) hos) ?_
  rintro e w2 ⟨v2, rfl, hO2, hB2, hN2⟩
  obtain ⟨va, vn, vc, rfl⟩ := hO2.form
  have HN2 : Hid (NB w w2) := hN2
  have HB2 : Hid (Below ob w w2) := (Below.refl _ _).drew.trans hB2
  have HO2 := Lib.hid hO2
  refine ⟨_, rfl, fun _ => ⟨(HB.out.nb HN2.out).1.at 0 rfl, (HP.out.nb HN2.out).1.at o (HAt.out 0 (by simp))⟩, ?_⟩
  simp only [Act.put, List.setIfInBounds_toArray, List.set_cons_zero, List.set_cons_succ]
  clear hO2 hB2 hN2
  refine sl_q (d := some 13) rfl rfl rfl (.pointer (some ⟨b, 0, none⟩)) (fun w => rfl) ?_
  simp only [Act.put, List.setIfInBounds_toArray, List.set_cons_zero, List.set_cons_succ]
  refine sl_q (d := some 14) rfl rfl rfl (.pointer (some ⟨b, 0, none⟩)) (fun w => by go_simp) ?_
  simp only [Act.put, List.setIfInBounds_toArray, List.set_cons_zero, List.set_cons_succ]
  have c2 := (HB.out.nb HN2.out).1.at 0 rfl
  have f2 := (HB.out.nb HN2.out).1.2.2 0 (by simp)
  have HW := Lib.hid (WrSt.wrote hb hbo hos HJ.out HSz.out HB.out HP.out h3 HB2.out HN2.out HO2.out)
  refine sl_skip (d := none) rfl rfl rfl (w2.setCell ⟨b, 0, none⟩ (.slice va vn vc)) (by simp [execOp, Act.eval, c2, f2, go_sem]) (fun h => by cases h) ?_
  simp only [Act.put, List.setIfInBounds_toArray, List.set_cons_zero, List.set_cons_succ]
  clear c2 f2
  refine sl_end ?_
  try go_wp2_with fail
  go_end0
  exact ⟨rfl, ⟨HW.out.1, HW.out.2.1, [.int .u64 x], by rw [putL_same HAt.out (by simp)]; exact HW.out.2.2, rfl, r1⟩⟩

set_option maxHeartbeats 16000000 in
set_option maxRecDepth 100000 in
theorem wr_text (ob : Nat) (w0 : World) (K : WkM wk) (hK : K.St = WrSt K.base K.b ob w0) : Walks K 116 K.ptr [] strE wk.text := by
  intro s x w p o cs es av h1 h2 h3 h4 h5 h6 h7 h8
  obtain ⟨base, b, ty, St⟩ := K
  simp only at hK
  subst hK
  obtain ⟨hb, hbo, hos, hJ, hsl, bv, hbv, hO⟩ := h1
  have HJ := Lib.hid hJ
  clear hJ
  obtain ⟨rfl, r1⟩ := h6
  obtain ⟨ba, bc, rfl⟩ := hO.slice
  have hSz : (s ++ strB x).length ≤ 10000000 := h8
  have HSz := Lib.hid hSz
  have HO := Lib.hid hO
  have HB := Lib.hid hbv
  have HP := Lib.hid h4
  have HAt := Lib.hid h5
  have HS : Hid (w.drew.cell? ⟨b, 0, none⟩ = some (.slice ba s.length bc) ∧ w.drew.cell? ⟨p, o, none⟩ = some (.string x)) := ⟨hbv.drew.1.at 0 rfl, h4.drew.1.at o (h5 0 (by simp))⟩
  have hsl' : s.length ≤ 10000000 := hsl
  clear h4 h5 h7 h8 hO hbv
  unfold WkM.ptr
  go_enter Try.func116, Try.ntmps116
  refine wp_region_seqL (by kernel_rfl) (fun w' => w'.cell? ⟨b, 0, none⟩ = some (.slice ba s.length bc) ∧ w'.cell? ⟨p, o, none⟩ = some (.string x)) 17 [(0, 0), (1, 0), (2, 0), (3, 0), (4, 1), (5, 0), (6, 0), (7, 1), (8, 0), (9, 0), (11, 0), (12, 0), (13, 1), (10, 2), (14, 2), (15, 0), (16, 0), (17, 2)] (by kernel_rfl) (HS.out) ?_
  refine sl_q (d := some 4) rfl rfl rfl (.pointer (some ⟨b, 0, none⟩)) (fun w => rfl) ?_
  simp only [Act.put, List.setIfInBounds_toArray, List.set_cons_zero, List.set_cons_succ]
  refine sl_q (d := some 5) rfl rfl rfl (.pointer (some ⟨b, 0, none⟩)) (fun w => rfl) ?_
  simp only [Act.put, List.setIfInBounds_toArray, List.set_cons_zero, List.set_cons_succ]
  refine sl_q (d := some 6) rfl rfl rfl (.pointer (some ⟨b, 0, none⟩)) (fun w => rfl) ?_
  simp only [Act.put, List.setIfInBounds_toArray, List.set_cons_zero, List.set_cons_succ]
  refine sl_q (d := some 7) rfl rfl rfl (.pointer (some ⟨b, 0, none⟩)) (fun w => by go_simp) ?_
  simp only [Act.put, List.setIfInBounds_toArray, List.set_cons_zero, List.set_cons_succ]
  refine sl_s (d := some 8) rfl rfl rfl (.slice ba s.length bc) (fun w hw => by simp [execOp, Act.eval, hw.1, go_sem]) ?_
  simp only [Act.put, List.setIfInBounds_toArray, List.set_cons_zero, List.set_cons_succ]
  refine sl_q (d := some 9) rfl rfl rfl (.pointer (some ⟨p, o, none⟩)) (fun w => rfl) ?_
  simp only [Act.put, List.setIfInBounds_toArray, List.set_cons_zero, List.set_cons_succ]
  refine sl_q (d := some 10) rfl rfl rfl (.pointer (some ⟨p, o, none⟩)) (fun w => rfl) ?_
  simp only [Act.put, List.setIfInBounds_toArray, List.set_cons_zero, List.set_cons_succ]
  refine sl_s (d := some 11) rfl rfl rfl (.string x) (fun w hw => by simp [execOp, Act.eval, hw.2, go_sem]) ?_
  simp only [Act.put, List.setIfInBounds_toArray, List.set_cons_zero, List.set_cons_succ]
  refine sl_q (d := some 12) rfl rfl rfl (.int .i64 x.size) (fun w => by simp [execOp, Act.eval, go_sem]) ?_
  simp only [Act.put, List.setIfInBounds_toArray, List.set_cons_zero, List.set_cons_succ]
  refine sl_q (d := some 13) rfl rfl rfl (.int .u64 (x.size : Nat)) (fun w => by simp [execOp, Act.eval, go_sem, wrap_u64_nat x.size (by omega)]) ?_
  simp only [Act.put, List.setIfInBounds_toArray, List.set_cons_zero, List.set_cons_succ]
  refine sl_q (d := some 15) rfl rfl rfl (.pointer (some ⟨p, o, none⟩)) (fun w => rfl) ?_
  simp only [Act.put, List.setIfInBounds_toArray, List.set_cons_zero, List.set_cons_succ]
  refine sl_q (d := some 16) rfl rfl rfl (.pointer (some ⟨p, o, none⟩)) (fun w => rfl) ?_
  simp only [Act.put, List.setIfInBounds_toArray, List.set_cons_zero, List.set_cons_succ]
  refine sl_s (d := some 17) rfl rfl rfl (.string x) (fun w hw => by simp [execOp, Act.eval, hw.2, go_sem]) ?_
  simp only [Act.put, List.setIfInBounds_toArray, List.set_cons_zero, List.set_cons_succ]
  refine sl_call (d := some 14) rfl rfl rfl ⟨_, Try.func26, by kernel_rfl, by kernel_rfl⟩ _ _ _ rfl rfl [.slice ba s.length bc, .int .u64 (x.size : Nat), .int .i64 4] rfl (put_any 4 (x.size) ob (by omega) (by omega) _ s w.drew (HO.out.bytes fun _ _ _ _ => rfl) (by omega) hos) ?_
  rintro e w2 ⟨v2, rfl, hO2, hB2, hN2⟩
  obtain ⟨va, vn, vc, rfl⟩ := hO2.form
  have HN2 : Hid (NB w w2) := hN2
  have HB2 : Hid (Below ob w w2) := (Below.refl _ _).drew.trans hB2
  have HO2 := Lib.hid hO2
  refine ⟨_, rfl, fun _ => ⟨(HB.out.nb HN2.out).1.at 0 rfl, (HP.out.nb HN2.out).1.at o (HAt.out 0 (by simp))⟩, ?_⟩
  simp only [Act.put, List.setIfInBounds_toArray, List.set_cons_zero, List.set_cons_succ]
  clear hO2 hB2 hN2
  have HAp : Hid (∃ (v' : Value) (w' : World), (Builtin.append_ #[22, 9] 22 #[.slice va vn vc, .string x]).run Try.prog w2 = .ok v' w' ∧ OwnB w' ob v' (s ++ strB x) ∧ Below ob w w' ∧ NB w w') := by
    obtain ⟨v', w', a1, a2, a3, a4⟩ := append_s HO2.out x (by rw [List.length_append, be_length]; omega) (by omega) (Nat.le_trans hos HB2.out.size) 22
    exact ⟨v', w', a1, by unfold strB; rw [← List.append_assoc]; exact a2, HB2.out.trans a3, HN2.out.trans a4⟩
  obtain ⟨v3, w3, hrun, hO3, hB3, hN3⟩ := HAp.out
  obtain ⟨ua, un, uc, rfl⟩ := hO3.form
  have HN3 := Lib.hid hN3
  have HB3 := Lib.hid hB3
  have HO3 := Lib.hid hO3
  have Hrun := Lib.hid hrun
  clear hrun hO3 hB3 hN3
  refine sl_run (d := some 18) rfl rfl rfl _ w3 (run_append _ _ _ rfl _ _ rfl rfl Hrun.out) (fun _ => ⟨(HB.out.nb HN3.out).1.at 0 rfl, (HP.out.nb HN3.out).1.at o (HAt.out 0 (by simp))⟩) ?_
  simp only [Act.put, List.setIfInBounds_toArray, List.set_cons_zero, List.set_cons_succ]
  refine sl_q (d := some 19) rfl rfl rfl (.pointer (some ⟨b, 0, none⟩)) (fun w => rfl) ?_
  simp only [Act.put, List.setIfInBounds_toArray, List.set_cons_zero, List.set_cons_succ]
  refine sl_q (d := some 20) rfl rfl rfl (.pointer (some ⟨b, 0, none⟩)) (fun w => by go_simp) ?_
  simp only [Act.put, List.setIfInBounds_toArray, List.set_cons_zero, List.set_cons_succ]
  have c2 := (HB.out.nb HN3.out).1.at 0 rfl
  have f2 := (HB.out.nb HN3.out).1.2.2 0 (by simp)
  have HW := Lib.hid (WrSt.wrote hb hbo hos HJ.out HSz.out HB.out HP.out h3 HB3.out HN3.out HO3.out)
  refine sl_skip (d := none) rfl rfl rfl (w3.setCell ⟨b, 0, none⟩ (.slice ua un uc)) (by simp [execOp, Act.eval, c2, f2, go_sem]) (fun h => by cases h) ?_
  simp only [Act.put, List.setIfInBounds_toArray, List.set_cons_zero, List.set_cons_succ]
  clear c2 f2
  refine sl_end ?_
  try go_wp2_with fail
  go_end0
  exact ⟨rfl, ⟨HW.out.1, HW.out.2.1, [.string x], by rw [putL_same HAt.out (by simp)]; exact HW.out.2.2, rfl, r1⟩⟩

set_option maxHeartbeats 16000000 in
set_option maxRecDepth 100000 in
theorem wr_bool (ob : Nat) (w0 : World) (K : WkM wk) (hK : K.St = WrSt K.base K.b ob w0) : Walks K 113 K.ptr [] boolE wk.bool := by
  intro s x w p o cs es av h1 h2 h3 h4 h5 h6 h7 h8
  obtain ⟨base, b, ty, St⟩ := K
  simp only at hK
  subst hK
  obtain ⟨hb, hbo, hos, hJ, hsl, bv, hbv, hO⟩ := h1
  have HJ := Lib.hid hJ
  clear hJ
  obtain rfl := h6
  obtain ⟨ba, bc, rfl⟩ := hO.slice
  have HSz : Hid ((s ++ boolB x).length ≤ 10000000) := h8
  have HB := Lib.hid hbv
  have HP := Lib.hid h4
  have HAt := Lib.hid h5
  have cb : w.cell? ⟨b, 0, none⟩ = some (.slice ba s.length bc) := hbv.1.at 0 rfl
  have cp : w.cell? ⟨p, o, none⟩ = some (.bool x) := h4.1.at o (h5 0 (by simp))
  have H1 : Hid (∃ (v' : Value) (w' : World), (Builtin.append_ #[22, 22] 22 #[.slice ba s.length bc, .slice (some ⟨w.heap.size, 0, none⟩) 1 1]).run Try.prog (w.alloc (.cells #[.int .u8 1] 5)) = .ok v' w' ∧ OwnB w' ob v' (s ++ boolB true) ∧ Below ob w w' ∧ NB w w') := append_b hO 1 (by omega) hos 22
  have H0 : Hid (∃ (v' : Value) (w' : World), (Builtin.append_ #[22, 22] 22 #[.slice ba s.length bc, .slice (some ⟨w.heap.size, 0, none⟩) 1 1]).run Try.prog (w.alloc (.cells #[.int .u8 0] 5)) = .ok v' w' ∧ OwnB w' ob v' (s ++ boolB false) ∧ Below ob w w' ∧ NB w w') := append_b hO 0 (by omega) hos 22
  clear h4 h5 h7 h8 hO hbv hsl
  unfold WkM.ptr
  go_enter Try.func113, Try.ntmps113
  cases x
  · go_wp2_with (at_builtin; obtain ⟨v', w', hrun, hs'⟩ := H0.out; obtain ⟨va, vn, vc, rfl⟩ := hs'.1.form; have c2 := (HB.out.nb hs'.2.2).1.at 0 rfl; have f2 := (HB.out.nb hs'.2.2).1.2.2 0 (by simp); have HW := Lib.hid (WrSt.wrote hb hbo hos HJ.out HSz.out HB.out HP.out h3 hs'.2.1 hs'.2.2 hs'.1); have Hrun := Lib.hid hrun; clear hrun hs'; refine wpList_append_run rfl _ _ _ rfl _ _ _ _ rfl rfl Hrun.out ?_)
    go_end0
    exact ⟨rfl, HW.out.1, HW.out.2.1, [.bool false], by rw [putL_same HAt.out (by simp)]; exact HW.out.2.2, rfl⟩
  · go_wp2_with (at_builtin; obtain ⟨v', w', hrun, hs'⟩ := H1.out; obtain ⟨va, vn, vc, rfl⟩ := hs'.1.form; have c2 := (HB.out.nb hs'.2.2).1.at 0 rfl; have f2 := (HB.out.nb hs'.2.2).1.2.2 0 (by simp); have HW := Lib.hid (WrSt.wrote hb hbo hos HJ.out HSz.out HB.out HP.out h3 hs'.2.1 hs'.2.2 hs'.1); have Hrun := Lib.hid hrun; clear hrun hs'; refine wpList_append_run rfl _ _ _ rfl _ _ _ _ rfl rfl Hrun.out ?_)
    go_end0
    exact ⟨rfl, HW.out.1, HW.out.2.1, [.bool true], by rw [putL_same HAt.out (by simp)]; exact HW.out.2.2, rfl⟩

set_option maxHeartbeats 16000000 in
set_option maxRecDepth 100000 in
theorem wr_count (ob : Nat) (w0 : World) (K : WkM wk) (hK : K.St = WrSt K.base K.b ob w0) (s : List UInt8) (n : Nat) (w : World) (h1 : K.St s w) (hn : n ≤ 1000000) (h8 : (s ++ be 4 n).length ≤ 10000000) :
    Calls Try.prog 114 #[K.ptr, .int .i64 n] w fun e w' => e = .returned (.int .i64 n) ∧ n ≤ 1000000 ∧ K.St (s ++ be 4 n) w' ∧ Fr K.base K.b K.b w w' := by
  obtain ⟨base, b, ty, St⟩ := K
  simp only at hK
  subst hK
  obtain ⟨hb, hbo, hos, hJ, hsl, bv, hbv, hO⟩ := h1
  have HJ := Lib.hid hJ
  clear hJ
  obtain ⟨ba, bc, rfl⟩ := hO.slice
  have HSz := Lib.hid h8
  have HB := Lib.hid hbv
  have HO := Lib.hid hO
  have cb : w.cell? ⟨b, 0, none⟩ = some (.slice ba s.length bc) := hbv.1.at 0 rfl
  have hsl' : s.length ≤ 10000000 := hsl
  have HN := Lib.hid hn
  have hw := wrap_u64_nat n (by omega)
  clear h8 hO hbv hsl hn
  unfold WkM.ptr
  go_enter Try.func114, Try.ntmps114
  go_wp2_with fail
  refine (put_any 4 n ob (by omega) (by have := HN.out; omega) _ s w HO.out (by omega) hos).mono ?_
  rintro e w2 ⟨v2, rfl, hO2, hB2, hN2⟩
  obtain ⟨va, vn, vc, rfl⟩ := hO2.form
  have c2 := (HB.out.nb hN2).1.at 0 rfl
  have f2 := (HB.out.nb hN2).1.2.2 0 (by simp)
  have HW : Hid (WrSt base b ob w0 (s ++ be 4 n) (w2.setCell ⟨b, 0, none⟩ (.slice va vn vc)) ∧ Fr base b b w (w2.setCell ⟨b, 0, none⟩ (.slice va vn vc))) := by
    have h2 := HB.out.nb hN2
    refine ⟨⟨hb, hbo, by have := hB2.size; simp [World.setCell]; omega, fun k c f hk e => ?_, HSz.out, _, h2.set 0 (by simp) _, hO2.bytes fun k c f hk => Below.heap_setCell _ _ _ _ (h2.ne_byte hk)⟩, ⟨(hB2.mono hbo).setCell hb _, fun k c t f e1 e2 e3 => ?_⟩⟩
    · have e1 := HJ.out k c f hk e
      have e2 : w2.heap[k]? = w0.heap[k]? := (hB2.block k hk).trans e1
      rw [← e2]
      exact Below.heap_setCell _ _ _ _ (h2.ne_byte (by rw [e2]; exact e))
    · rw [Below.heap_setCell _ _ _ _ (fun e => e3.1 e)]
      exact hN2 k c t f e1 e2
  clear hO2 hB2 hN2 hw
  go_wp2_with fail
  go_ret
  exact ⟨rfl, HN.out, HW.out.1, HW.out.2⟩
/-- The writer is a walker. -/
theorem wr_ok (base b ob : Nat) (w0 : World) : WkM.OK (k := wk) ⟨base, b, 83, WrSt base b ob w0⟩ := by
  refine ⟨wk_mono, fun h => ⟨h.1, by obtain ⟨_, _, _, _, _, bv, h1, _⟩ := h; exact h1.lt⟩, fun h hq => h.stable hq, ?_, ?_, ?_, ?_, ?_⟩
  · exact ⟨_, ⟨fun w => by kernel_rfl, ⟨fun w => by kernel_rfl, _, Try.func115, by kernel_rfl, by kernel_rfl⟩⟩, wr_int ob w0 _ rfl⟩
  · exact ⟨_, ⟨fun w => by kernel_rfl, ⟨fun w => by kernel_rfl, _, Try.func117, by kernel_rfl, by kernel_rfl⟩⟩, wr_word ob w0 _ rfl⟩
  · exact ⟨_, ⟨fun w => by kernel_rfl, ⟨fun w => by kernel_rfl, _, Try.func113, by kernel_rfl, by kernel_rfl⟩⟩, wr_bool ob w0 _ rfl⟩
  · exact ⟨_, ⟨fun w => by kernel_rfl, ⟨fun w => by kernel_rfl, _, Try.func116, by kernel_rfl, by kernel_rfl⟩⟩, wr_text ob w0 _ rfl⟩
  · exact ⟨_, ⟨fun w => by kernel_rfl, ⟨fun w => by kernel_rfl, _, Try.func114, by kernel_rfl, by kernel_rfl⟩⟩, fun s n w h1 hn h8 => wr_count ob w0 _ rfl s n w h1 hn h8⟩
end Go.Proofs.Ytpknalpdcfjffaa
/- Bytes that are read; the check number, the program's and the reference's. -/
namespace Go.Proofs.Ytpknalpdcfjffaa
open Go Go.RowKit

/-- Bytes that lie somewhere. -/
def BytesR (w : World) (v : Value) (l : List UInt8) : Prop := ∃ (a : Option Addr) (c : Nat), v = .slice a l.length c ∧ l.length ≤ c ∧ c ≤ 9223372036854775807 ∧
  ∀ i, (hi : i < l.length) → ∃ ab ao : Nat, a = some ⟨ab, ao, none⟩ ∧ w.cell? ⟨ab, ao + i, none⟩ = some (.int .u8 (l[i].toNat : Nat))
theorem BytesL.r {w : World} {base : Nat} {v : Value} {l : List UInt8} (h : BytesL w base v l) : BytesR w v l := by
  obtain ⟨a, c, e, h1, h2, h3⟩ := h
  refine ⟨a, c, e, h1, h2, fun i hi => ?_⟩
  obtain ⟨ab, ao, ea, _, hc⟩ := h3 i hi
  exact ⟨ab, ao, ea, hc⟩
theorem OwnB.r {w : World} {base : Nat} {v : Value} {l : List UInt8} (h : OwnB w base v l) : BytesR w v l := by
  have h' := h
  obtain ⟨h1, h2⟩ := h
  rcases h2 with ⟨e, h0⟩ | ⟨g, cap, cur, e, hg, hh, hc, hm, hsz, htk⟩
  · exact ⟨none, 0, by rw [e, h0], by omega, by omega, fun i hi => by omega⟩
  · refine ⟨some ⟨g, 0, none⟩, cap, e, hc, by unfold maxLen at hm; omega, fun i hi => ⟨g, 0, rfl, ?_⟩⟩
    have := World.ownsRow.cells h' (g := g) (by rw [e]; rfl) i (.int .u8 (l[i].toNat : Nat)) (by simp [bcs, hi])
    rw [Addr.add_mid] at this
    exact this
theorem BytesR.slice {w : World} {v : Value} {l : List UInt8} (h : BytesR w v l) : ∃ a c, v = .slice a l.length c := by
  obtain ⟨a, c, e, _⟩ := h
  exact ⟨a, c, e⟩
theorem BytesR.below {w w' : World} {v : Value} {l : List UInt8} (h : BytesR w v l) (hb : Below w.heap.size w w') : BytesR w' v l := by
  obtain ⟨a, c, e, h1, h2, h3⟩ := h
  refine ⟨a, c, e, h1, h2, fun i hi => ?_⟩
  obtain ⟨ab, ao, ea, hc⟩ := h3 i hi
  exact ⟨ab, ao, ea, cell_then hb hc⟩
/-- The check number. -/
def chk (l : List UInt8) : Nat := l.foldl (fun h c => (h * 31 + c.toNat) % 4294967291) 1
theorem chk_take (l : List UInt8) (m : Nat) (h : m < l.length) : chk (l.take (m + 1)) = (chk (l.take m) * 31 + l[m].toNat) % 4294967291 := by
  have : l.take (m + 1) = l.take m ++ [l[m]] := by rw [List.take_add_one]; simp [h]
  rw [this]
  unfold chk
  rw [List.foldl_append]
  rfl
theorem chk_lt (l : List UInt8) : chk l < 4294967291 := by
  rcases List.eq_nil_or_concat l with rfl | ⟨l', c, rfl⟩
  · decide
  · unfold chk
    rw [List.concat_eq_append, List.foldl_append]
    exact Nat.mod_lt _ (by decide)
set_option maxHeartbeats 16000000 in
set_option maxRecDepth 100000 in
theorem checksum_any (v : Value) (l : List UInt8) (w : World) (h : BytesR w v l) (hl : l.length ≤ 1000000000) :
    Calls Try.prog 27 #[v] w fun e w' => e = .returned (.int .i64 (chk l : Nat)) ∧ w = w' := by
  obtain ⟨a, c, rfl, h1, h2, h3⟩ := h
  have H3 := Lib.hid h3
  have n0 : (l.length : Int) ≤ 1000000000 := by omega
  clear h3
  go_enter Try.func27, Try.ntmps27
  go_wp2_with fail
  go_loop [3, 8] (fun nv kv => ∃ m : Nat, kv = .int .i64 m ∧ m ≤ l.length ∧ nv = .int .i64 (chk (l.take m) : Nat)) (fun _ kv => (2000000000 - intOf kv).toNat)
  case atStart => exact ⟨0, rfl, by omega, rfl⟩
  case round =>
    obtain ⟨m, rfl, hm, rfl⟩ := hrel
    by_cases hlt : m < l.length
    · have m0 : (m : Int) < (l.length : Int) := by omega
      obtain ⟨ab, ao, rfl, hc⟩ := H3.out m hlt
      have hcc := l[m].toNat_lt
      have HT := Lib.hid (chk_take l m hlt)
      have hn := chk_lt (l.take m)
      generalize chk (l.take m) = N at hn HT ⊢
      generalize l[m].toNat = C at hc hcc HT
      have c1 : (C : Int) < 256 := by omega
      have n1 : (N : Int) < 4294967291 := by omega
      have HE : Hid (((N : Int) * 31 + (C : Int)) % 4294967291 = (((N * 31 + C) % 4294967291 : Nat) : Int)) := by unfold Hid; omega
      clear hn hcc
      go_wp2_with fail
      go_round
      case rel => exact ⟨m + 1, by go_num, by omega, by rw [HT.out]; exact congrArg _ HE.out⟩
      case measure => simp [intOf]; omega
    · obtain rfl : m = l.length := by omega
      go_wp2_with fail
      go_ret
      exact ⟨rfl, rfl⟩
set_option maxHeartbeats 16000000 in
set_option maxRecDepth 100000 in
theorem rchecksum_any (v : Value) (l : List UInt8) (w : World) (h : BytesR w v l) (hl : l.length ≤ 1000000000) :
    Calls Try.prog 13 #[v] w fun e w' => e = .returned (.int .u64 (chk l : Nat)) ∧ w = w' := by
  obtain ⟨a, c, rfl, h1, h2, h3⟩ := h
  have H3 := Lib.hid h3
  have n0 : (l.length : Int) ≤ 1000000000 := by omega
  clear h3
  go_enter Try.func13, Try.ntmps13
  go_wp2_with fail
  go_loop [3, 4] (fun nv kv => ∃ m : Nat, kv = .int .i64 m ∧ m ≤ l.length ∧ nv = .int .u64 (chk (l.take m) : Nat)) (fun _ kv => (2000000000 - intOf kv).toNat)
  case atStart => exact ⟨0, rfl, by omega, rfl⟩
  case round =>
    obtain ⟨m, rfl, hm, rfl⟩ := hrel
    by_cases hlt : m < l.length
    · have m0 : (m : Int) < (l.length : Int) := by omega
      obtain ⟨ab, ao, rfl, hc⟩ := H3.out m hlt
      have hcc := l[m].toNat_lt
      have HT := Lib.hid (chk_take l m hlt)
      have hn := chk_lt (l.take m)
      generalize chk (l.take m) = N at hn HT ⊢
      generalize l[m].toNat = C at hc hcc HT
      have c1 : (C : Int) < 256 := by omega
      have n1 : (N : Int) < 4294967291 := by omega
      have HE : Hid (((N : Int) * 31 + (C : Int)) % 4294967291 = (((N * 31 + C) % 4294967291 : Nat) : Int)) := by unfold Hid; omega
      clear hn hcc
      go_wp2_with fail
      go_round
      case rel => exact ⟨m + 1, by go_num, by omega, by rw [HT.out]; exact congrArg _ HE.out⟩
      case measure => simp [intOf]; omega
    · obtain rfl : m = l.length := by omega
      go_wp2_with fail
      go_ret
      exact ⟨rfl, rfl⟩
end Go.Proofs.Ytpknalpdcfjffaa
/- As SeqL, where now and then one of several operations may come next: each way is walked. And a cut behind a region. No program. -/
namespace Go.Proofs.Ytpknalpdcfjffaa
open Go Go.RowKit

/-- An order with forks. -/
inductive Tr
  | nil
  | q (i f : Nat) (r : Tr)
  | e (i : Nat) (r : Tr)
  | fork (x y : Tr)
def Tr.more : Tr → Bool
  | .nil => false
  | .q _ _ r => r.more
  | .e _ _ => true
  | .fork _ _ => true
def Tr.depth : Tr → Nat
  | .nil => 0
  | .q _ _ r => r.depth + 1
  | .e _ r => r.depth + 1
  | .fork x _ => x.depth
def Tr.heads : Tr → List Nat
  | .e i _ => [i]
  | .fork x y => x.heads ++ y.heads
  | _ => []
section
variable {P : Program} {ops : Array Oper} {Q : Exit → Act → World → Prop} {S : World → Prop} {L : Nat}
def wpT (P : Program) (ops : Array Oper) (Q : Exit → Act → World → Prop) (S : World → Prop) : Tr → Act → World → Prop
  | .nil, a, w => Q .normal a w
  | .q i f r, a, w => ∃ o, ops[i]? = some o ∧ ∃ v, YieldsIf P ops (fun w => f = 1 → S w) o v a ∧ wpT P ops Q S r (a.put o.dst v) w
  | .e i r, a, w => ∃ o, ops[i]? = some o ∧ if Region.wanted o (yielded ops a.tmps) = true then Oper.wp P o a w (fun a' w' => (r.more = true → S w') ∧ wpT P ops Q S r a' w') Q else wpT P ops Q S r (a.put o.dst undef) w
  | .fork x y, a, w => wpT P ops Q S x a w ∧ wpT P ops Q S y a w
def chkT (ops : Array Oper) (L : Nat) : Bool → Tr → Array Bool → Bool
  | fl, .nil, listed => !fl && (Region.ready .any ops listed).isEmpty
  | fl, .q i f r, listed => !fl && i != L && (f == 0 || (anc ops ops.size L).contains i) && Region.free .any ops listed i && (Region.ready .any ops listed).contains i && chkT ops L false r (listed.setIfInBounds i true)
  | fl, .e i r, listed => (fl || Region.ready .any ops listed == [i]) && (Region.ready .any ops listed).contains i && (i == L || r.more) && chkT ops L false r (listed.setIfInBounds i true)
  | fl, .fork x y, listed => (fl || Region.ready .any ops listed == x.heads ++ y.heads) && (x.depth == y.depth) && chkT ops L true x listed && chkT ops L true y listed
theorem chkT_depth : ∀ (t : Tr) (listed : Array Bool), chkT ops L true t listed = true → 0 < t.depth
  | .nil, _, h => by simp [chkT] at h
  | .q _ _ _, _, h => by simp [chkT] at h
  | .e _ _, _, _ => Nat.succ_pos _
  | .fork x y, listed, h => by
    simp only [chkT, Bool.and_eq_true] at h
    exact chkT_depth x listed h.1.2
theorem chkT_heads : ∀ (t : Tr) (listed : Array Bool), chkT ops L true t listed = true → t.heads ≠ []
  | .nil, _, h => by simp [chkT] at h
  | .q _ _ _, _, h => by simp [chkT] at h
  | .e _ _, _, _ => by simp [Tr.heads]
  | .fork x y, listed, h => by
    simp only [chkT, Bool.and_eq_true] at h
    have := chkT_heads x listed h.1.2
    intro e
    exact this (List.append_eq_nil_iff.1 e).1
theorem wpT_sound (hn : Region.noSelect ops = true) (hL : L < ops.size) (hQ : ∀ c a d v w, Q (.panic c) (Act.put a d v) w → Q (.panic c) a w) : ∀ (t : Tr) (listed : Array Bool) (a : Act) (w : World), ClosedL ops listed → listed.size = ops.size → (listed.getD L false = false → S w) → wpT P ops Q S t a w →
    (chkT ops L false t listed = true → wpAnyL P ops Q S L t.depth listed a w) ∧
    (chkT ops L true t listed = true → ∀ i ∈ t.heads, wpOp P ops Q i (fun a' w' => ((listed.setIfInBounds i true).getD L false = false → S w') ∧ wpAnyL P ops Q S L (t.depth - 1) (listed.setIfInBounds i true) a' w') a w)
  | .nil, listed, a, w, _, _, _, h => ⟨fun hb => ⟨by simpa [chkT] using hb, h⟩, fun hb => by simp [chkT] at hb⟩
  | .q i f r, listed, a, w, hc, hsz, hS, ⟨o, ho, v, hy, h⟩ => by
    refine ⟨fun hb => ?_, fun hb => by simp [chkT] at hb⟩
    simp only [chkT, Bool.and_eq_true, bne_iff_ne, Bool.or_eq_true, beq_iff_eq] at hb
    obtain ⟨⟨⟨⟨⟨_, h1⟩, h5⟩, h2⟩, h3⟩, h4⟩ := hb
    have hr : i ∈ Region.ready .any ops listed := by simpa using h3
    have hno : (listed.setIfInBounds i true).getD L false = false → listed.getD L false = false := fun h => by rw [getD_set_ne false h1] at h; exact h
    have hun : f = 1 → ∀ listed : Array Bool, ClosedL ops listed → listed.size = ops.size → i ∈ Region.ready .any ops listed → listed.getD L false = false ∧ L ∉ Region.ready .any ops listed := fun hf1 listed hc hsz hi => by
      have ha : i ∈ anc ops ops.size L := by
        rcases h5 with h5 | h5
        · omega
        · simpa using h5
      have h0 := (mem_ready.1 hi).1
      have hf : listed.getD i false = false := by
        have hlt : i < listed.size := by
          rcases Nat.lt_or_ge i listed.size with h | h
          · exact h
          · simp [Array.getElem?_eq_none h] at h0
        simp [hlt] at h0 ⊢; exact h0
      have hoL : ops[L]? = some ops[L] := Array.getElem?_eq_getElem hL
      refine ⟨?_, fun hLr => ?_⟩
      · cases hq : listed.getD L false with
        | false => rfl
        | true =>
          have := anc_listed hc ops.size L _ hoL (hc L _ hoL hq) hsz i ha
          rw [hf] at this; cases this
      · obtain ⟨_, oL, hoL', hall⟩ := mem_ready.1 hLr
        have := anc_listed hc ops.size L _ hoL' hall hsz i ha
        rw [hf] at this; cases this
    have hSw : f = 1 → S w := fun hf1 => hS (hun hf1 listed hc hsz hr).1
    have ih := wpT_sound hn hL hQ r (listed.setIfInBounds i true) (a.put o.dst v) w (hc.set hr) (by simp [hsz]) (fun h => hS (hno h)) h
    exact wpAnyL_first (T := fun w => f = 1 → S w) h1 ho (Region.noSelect_spec hn) (fun c a w => hQ c a _ _ w) (fun j listed w' hc hsz hj hi hji hS' hf1 => hS' (by
        have h6 := hun hf1 listed hc hsz hi
        have hjL : j ≠ L := fun e => h6.2 (e ▸ hj)
        rw [getD_set_ne false hjL]; exact h6.1)) r.depth listed a w (Region.free_spec ho h2) hc hsz hr hy hSw (fun h => hS (hno h)) (ih.1 h4)
  | .e i r, listed, a, w, hc, hsz, hS, ⟨o, ho, h⟩ => by
    have key : (Region.ready .any ops listed).contains i = true → (i == L || r.more) = true → chkT ops L false r (listed.setIfInBounds i true) = true → wpOp P ops Q i (fun a' w' => ((listed.setIfInBounds i true).getD L false = false → S w') ∧ wpAnyL P ops Q S L r.depth (listed.setIfInBounds i true) a' w') a w := fun hr0 h1 h3 => by
      have hr : i ∈ Region.ready .any ops listed := by simpa using hr0
      have h1 : i = L ∨ r.more = true := by simpa using h1
      have hLt : i = L → (listed.setIfInBounds i true).getD L false = false → False := fun e hf => by
        subst e
        have : i < listed.size := by omega
        simp [this] at hf
      unfold wpOp
      rw [ho]
      simp only
      split
      · rename_i hw
        rw [if_pos hw] at h
        refine Or.inl (Oper.wp_mono (fun a' w' h' => ?_) h)
        have hs : (listed.setIfInBounds i true).getD L false = false → S w' := fun hf => by
          rcases h1 with h1 | h1
          · exact (hLt h1 hf).elim
          · exact h'.1 h1
        exact ⟨hs, (wpT_sound hn hL hQ r _ a' w' (hc.set hr) (by simp [hsz]) hs h'.2).1 h3⟩
      · rename_i hw
        rw [if_neg hw] at h
        have hs : (listed.setIfInBounds i true).getD L false = false → S w := fun hf => hS (by
          by_cases e : i = L
          · exact (hLt e hf).elim
          · rw [getD_set_ne false e] at hf; exact hf)
        exact ⟨hs, (wpT_sound hn hL hQ r _ _ w (hc.set hr) (by simp [hsz]) hs h).1 h3⟩
    refine ⟨fun hb => ?_, fun hb j hj => ?_⟩
    · simp only [chkT, Bool.and_eq_true, Bool.false_or, beq_iff_eq] at hb
      obtain ⟨⟨⟨h1, h2⟩, h3⟩, h4⟩ := hb
      refine ⟨fun h0 => by (rw [h1] at h0; cases h0), fun j hj => ?_⟩
      obtain rfl : j = i := by rw [h1] at hj; simpa using hj
      exact key h2 h3 h4
    · simp only [chkT, Bool.and_eq_true] at hb
      obtain ⟨⟨⟨_, h2⟩, h3⟩, h4⟩ := hb
      obtain rfl : j = i := by simpa [Tr.heads] using hj
      exact key h2 h3 h4
  | .fork x y, listed, a, w, hc, hsz, hS, ⟨hx, hy⟩ => by
    have ix := (wpT_sound hn hL hQ x listed a w hc hsz hS hx).2
    have iy := (wpT_sound hn hL hQ y listed a w hc hsz hS hy).2
    have key : (x.depth == y.depth) = true → chkT ops L true x listed = true → chkT ops L true y listed = true → ∀ i ∈ x.heads ++ y.heads, wpOp P ops Q i (fun a' w' => ((listed.setIfInBounds i true).getD L false = false → S w') ∧ wpAnyL P ops Q S L (x.depth - 1) (listed.setIfInBounds i true) a' w') a w := fun hd h1 h2 i hi => by
      have hd : x.depth = y.depth := by simpa using hd
      rcases List.mem_append.1 hi with hi | hi
      · exact ix h1 i hi
      · rw [hd]; exact iy h2 i hi
    refine ⟨fun hb => ?_, fun hb => ?_⟩
    · simp only [chkT, Bool.and_eq_true, Bool.false_or] at hb
      obtain ⟨⟨⟨h1, h2⟩, h3⟩, h4⟩ := hb
      have h1 : Region.ready .any ops listed = x.heads ++ y.heads := by simpa using h1
      have hdep := chkT_depth x listed h3
      obtain ⟨n, hn'⟩ : ∃ n, x.depth = n + 1 := ⟨x.depth - 1, by omega⟩
      have k := key h2 h3 h4
      show wpAnyL P ops Q S L x.depth listed a w
      rw [hn'] at k ⊢
      have hne : x.heads ++ y.heads ≠ [] := by
        intro e
        exact chkT_heads x listed h3 (List.append_eq_nil_iff.1 e).1
      refine ⟨fun h0 => by (rw [h1] at h0; exact absurd h0 hne), fun j hj => ?_⟩
      rw [h1] at hj
      exact k j hj
    · simp only [chkT, Bool.and_eq_true] at hb
      obtain ⟨⟨⟨_, h2⟩, h3⟩, h4⟩ := hb
      exact key h2 h3 h4
theorem wp_region_tree {id : Nat} {a : Act} {w : World} (hm : P.follows .mixedOrders = true) (S : World → Prop) (L : Nat) (t : Tr) (hb : (Region.noSelect ops && (t.depth == ops.size) && decide (L < ops.size) && chkT ops L false t (Array.replicate ops.size false)) = true)
    (hS : S w.drew) (h : wpT P ops (NoPanic Q) S t a w.drew) : (Code.region id ops true).wp P Q a w := by
  simp only [Bool.and_eq_true, beq_iff_eq, decide_eq_true_eq] at hb
  obtain ⟨⟨⟨h1, h2⟩, h3⟩, h4⟩ := hb
  refine wp_region_noPanic (wp_region_any hm ?_)
  have hc : ClosedL ops (Array.replicate ops.size false) := fun k o ho hk => by
    have hk' := (Array.getElem?_eq_some_iff.1 ho).1
    simp [hk'] at hk
  have h5 := wpAny_of_L _ _ _ _ ((wpT_sound h1 h3 (fun _ _ _ _ _ h => h) t _ a _ hc (by simp) (fun _ => hS) h).1 h4)
  rw [h2] at h5
  exact h5
variable {r : Tr} {i : Nat} {o : Oper} {d : Option Tmp} {a : Act} {w : World}
theorem tr_end (h : Q .normal a w) : wpT P ops (NoPanic Q) S .nil a w := h
theorem tr_fork {x y : Tr} (h1 : wpT P ops Q S x a w) (h2 : wpT P ops Q S y a w) : wpT P ops Q S (.fork x y) a w := ⟨h1, h2⟩
theorem tr_q (ho : ops[i]? = some o) (hd : o.dst = d) (hw : Region.wanted o (yielded ops a.tmps) = true) (v : Value) (hy : ∀ w, (execOp a.eval o).run P w = .ok (.value v) w) (h : wpT P ops Q S r (a.put d v) w) : wpT P ops Q S (.q i 0 r) a w := by
  subst hd
  exact ⟨o, ho, v, Or.inl ⟨hw, fun w _ => hy w⟩, h⟩
theorem tr_s (ho : ops[i]? = some o) (hd : o.dst = d) (hw : Region.wanted o (yielded ops a.tmps) = true) (v : Value) (hy : ∀ w, S w → (execOp a.eval o).run P w = .ok (.value v) w) (h : wpT P ops Q S r (a.put d v) w) : wpT P ops Q S (.q i 1 r) a w := by
  subst hd
  exact ⟨o, ho, v, Or.inl ⟨hw, fun w hs => hy w (hs rfl)⟩, h⟩
theorem tr_off (ho : ops[i]? = some o) (hd : o.dst = d) (hw : Region.wanted o (yielded ops a.tmps) = false) (h : wpT P ops Q S r (a.put d undef) w) : wpT P ops Q S (.q i 0 r) a w := by
  subst hd
  exact ⟨o, ho, undef, Or.inr ⟨hw, rfl⟩, h⟩
theorem tr_load (ho : ops[i]? = some o) (hd : o.dst = d) (hw : Region.wanted o (yielded ops a.tmps) = true) (ty : TypeId) (x : Operand) (hop : o.op = .load ty x) (ad : Addr) (hx : a.eval x = .pointer (some ad)) (v : Value) (hy : ∀ w, S w → (loadVar ty ad).run P w = .ok v w) (h : wpT P ops Q S r (a.put d v) w) : wpT P ops Q S (.q i 1 r) a w := by
  subst hd
  exact ⟨o, ho, v, yields_load hw ty x hop ad hx (fun w hs => hy w (hs rfl)), h⟩
theorem tr_wp (ho : ops[i]? = some o) (hw : Region.wanted o (yielded ops a.tmps) = true) (h : ∀ K : Act → World → Prop, (∀ a' w', (r.more = true → S w') → wpT P ops Q S r a' w' → K a' w') → Oper.wp P o a w K Q) : wpT P ops Q S (.e i r) a w :=
  ⟨o, ho, by rw [if_pos hw]; exact h _ (fun _ _ hs hr => ⟨hs, hr⟩)⟩
theorem tr_run (ho : ops[i]? = some o) (hd : o.dst = d) (hw : Region.wanted o (yielded ops a.tmps) = true) (v : Value) (w' : World) (hrun : (execOp a.eval o).run P w = .ok (.value v) w') (hS : r.more = true → S w') (h : wpT P ops Q S r (a.put d v) w') : wpT P ops Q S (.e i r) a w := by
  subst hd
  refine tr_wp ho hw fun K hK => ?_
  unfold Oper.wp
  rw [hrun]
  exact hK _ _ hS h
theorem tr_skip (ho : ops[i]? = some o) (hd : o.dst = d) (hw : Region.wanted o (yielded ops a.tmps) = true) (w' : World) (hrun : (execOp a.eval o).run P w = .ok .skip w') (hS : r.more = true → S w') (h : wpT P ops Q S r (a.put d undef) w') : wpT P ops Q S (.e i r) a w := by
  subst hd
  refine tr_wp ho hw fun K hK => ?_
  unfold Oper.wp
  rw [hrun]
  exact hK _ _ hS h
theorem tr_call (ho : ops[i]? = some o) (hd : o.dst = d) (hw : Region.wanted o (yielded ops a.tmps) = true) {f : FuncId} (hf : Has P f) (fo : Operand) (args : Array Operand) (ts : Array TypeId) (hop : o.op = .call { callee := .value fo, args := args, argTypes := ts }) (hfo : a.eval fo = .func (.func f) #[] #[]) (vs : List Value) (hv : args.toList.map a.eval = vs)
    {R : Ending → World → Prop} (hc : Calls P f vs.toArray w R) (h : ∀ e w', R e w' → ∃ v, e = .returned v ∧ (r.more = true → S w') ∧ wpT P ops Q S r (a.put d v) w') : wpT P ops Q S (.e i r) a w := by
  subst hd
  refine tr_wp ho hw fun K hK => ?_
  unfold Oper.wp
  rw [run_call hf fo args ts hop hfo vs hv, Oper.upon_enter]
  refine hc.mono fun e w' hr => ?_
  obtain ⟨v, rfl, h1, h2⟩ := h e w' hr
  exact hK _ _ h1 h2
/-- A cut behind a region: what is known of it, whichever way it went. -/
theorem region_cut {id : Nat} {b : Bool} (R : Act → World → Prop) (h : (Code.region id ops b).wp P (fun e a w => e = .normal ∧ R a w) a w) (k : ∀ a w, R a w → Q .normal a w) : (Code.region id ops b).wp P Q a w :=
  Code.wp_mono (fun e a w ⟨he, hr⟩ => by subst he; exact k a w hr) h
end
end Go.Proofs.Ytpknalpdcfjffaa
/- Laws for store.Encode. Printed by gen_enc.py. -/
namespace Go.Proofs.Ytpknalpdcfjffaa
open Go Go.RowKit

/-- A kind as a byte. -/
def k8 (k : Int) : UInt8 := UInt8.ofNat (k % 256).toNat
theorem wrap_k8 (k : Int) : IntKind.u8.wrap k = ((k8 k).toNat : Int) := by
  have h : IntKind.u8.wrap k = k % 256 := by simp [IntKind.wrap, IntKind.bits, IntKind.signed]
  rw [h]; unfold k8
  rw [UInt8.toNat_ofNat']
  omega
/-- What Encode returns of the bytes behind the kind. -/
def encRes (kind : Int) : Option (List UInt8) → List UInt8 × Int
  | none => ([], 4)
  | some b => if 1048576 < b.length + 9 then ([], 2) else (be 4 (b.length + 1) ++ (k8 kind :: b) ++ be 4 (chk (be 4 (b.length + 1) ++ (k8 kind :: b))), 0)
theorem ownB_made {w : World} {base g : Nat} (hb : base ≤ g) (hh : w.heap[g]? = some (.cells #[.int .u8 0, .int .u8 0, .int .u8 0, .int .u8 0] 5 (0, 0))) : OwnB w base (.slice (some ⟨g, 0, none⟩) 4 4) [0, 0, 0, 0] :=
  ⟨rfl, Or.inr ⟨g, 4, _, rfl, hb, hh, by decide, by decide, rfl, rfl⟩⟩
theorem append_b' {w : World} {base : Nat} {v : Value} {l : List UInt8} (h : OwnB w base v l) (c : UInt8) (q : Nat) (hq : w.cell? ⟨q, 0, none⟩ = some (.int .u8 (c.toNat : Nat))) (hn : l.length ≤ 1000000000) (hb : base ≤ w.heap.size) (ty : TypeId) :
    ∃ (v' : Value) (w' : World), (Builtin.append_ #[22, 22] ty #[v, .slice (some ⟨q, 0, none⟩) 1 1]).run Try.prog w = .ok v' w' ∧ OwnB w' base v' (l ++ [c]) ∧ Below base w w' ∧ NB w w' := by
  have hnews : ∀ j u, [Value.int .u8 (c.toNat : Nat)][j]? = some u → w.cell? ((⟨q, 0, none⟩ : Addr).add j) = some u := by
    intro j u hj
    match j, hj with
    | 0, hj => rw [Addr.add_mid]; simp at hj; subst hj; exact hq
    | j + 1, hj => simp at hj
  obtain ⟨v', w', h1, h2, h3, h4⟩ := append_at 22 5 Try.underlying22 binfo rfl (by decide) h ⟨q, 0, none⟩ 1 1 [.int .u8 (c.toNat : Nat)] rfl hnews (by intro u hu; simp at hu; subst hu; rfl) hn (by omega) (by decide) hb ty
  refine ⟨v', w', h1, ?_, h3, NB.grown h h4⟩
  unfold OwnB
  rw [List.length_append]
  have e : bcs (l ++ [c]) = bcs l ++ [.int .u8 (c.toNat : Nat)] := by simp [bcs]
  rw [e]; exact h2
theorem bytes1 : (Try.prog.info? 5).map (·.size) = some 1 := by kernel_rfl
/-- The first bytes of an own slice, copied over. -/
theorem copy_front {w : World} {base : Nat} {v : Value} {l m : List UInt8} {sp : Addr} {sc : Nat} (h : OwnB w base v l) (hm : m.length ≤ l.length) (h0 : 0 < m.length) (hs : ∀ j u, (bcs m)[j]? = some u → w.cell? (sp.add j) = some u) (ty : TypeId) :
    ∃ w', (Builtin.copy_ #[22, 22] ty #[v, .slice (some sp) m.length sc]).run Try.prog w = .ok (.int .i64 m.length) w' ∧ OwnB w' base v (m ++ l.drop m.length) ∧ Below base w w' ∧ NB w w' := by
  have h' := h
  obtain ⟨h1, h2⟩ := h
  rcases h2 with ⟨e, hl⟩ | ⟨g, cap, cur, e, hg, hh, hc, hmx, hsz, htk⟩
  · omega
  · subst e
    have hbm : (bcs m).length = m.length := by simp [bcs]
    have hrun := run_copy_row (P := Try.prog) w 22 22 ty 5 g 0 l.length cap sp m.length sc cur 5 (bcs m) Try.underlying22 bytes1 hh (by rw [hbm]; exact (Nat.min_eq_left hm).symm) hs (by rw [hbm]; omega) (bcs_one m)
    have hlen : (m ++ l.drop m.length).length = l.length := by rw [List.length_append, List.length_drop]; omega
    rw [hbm] at hrun
    refine ⟨_, hrun, ⟨by simp [bcs], Or.inr ⟨g, cap, _, by rw [hlen], hg, setRow_heap _ _ _ _ _ _ hh, by rw [hlen]; exact hc, hmx, ?_, ?_⟩⟩, below_setRow (Below.refl _ _) hg _, fun k c t f hk ht => setRow_other _ _ _ _ (fun hkg => ?_)⟩
    · rw [List.size_toArray]
      simp only [List.length_append, List.length_take, List.length_drop, Array.length_toList, hbm]
      omega
    · rw [hlen, Nat.mul_one]
      show (cur.toList.take 0 ++ (bcs m ++ cur.toList.drop (0 + m.length))).take l.length = _
      rw [List.take_zero, List.nil_append, Nat.zero_add]
      have e2 : bcs (m ++ l.drop m.length) = bcs m ++ (bcs l).drop m.length := by simp [bcs]
      rw [e2, ← htk, Nat.mul_one, List.take_append, List.take_of_length_le (by omega), hbm, List.drop_take]
    · subst hkg
      rw [hh] at hk
      injection hk with hk
      injection hk with _ hk2 _
      exact ht hk2.symm
end Go.Proofs.Ytpknalpdcfjffaa
