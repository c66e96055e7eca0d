/- Part 10 of the proof: laws on memory and what functions of the program return. No conditions but those that each theorem names. -/
import Derived.Test.YtmmmebdgannpgaaGreatDoorR09
import Derived.Test.YtmmmebdgannpgaaGreatDoorRows
import Derived.WalkKit
import Derived.ProofKit
import Derived.OpenShut
import Derived.Deep.DeepHandedRow
import Derived.Lib.LaidTab
import Derived.Lib.SmallJoins
import Derived.Deep.SlicePairs
set_option linter.unusedVariables false
set_option linter.unusedSimpArgs false
/- The law's state: the boxes of its arguments, the choices, the cycle that is made. -/
namespace Go.Proofs.YtmmmebdgannpgaaGreatDoor
open Go Go.RowKit

theorem mod_any (x n : Int) (w : World) (hx : I64 x) (hn : 1 ≤ n ∧ n ≤ 1000000) : Calls Tryz.prog 10 #[.int .i64 x, .int .i64 n] w fun e w' => ∃ y : Int, I64 y ∧ e = .returned (.int .i64 y) ∧ w = w' := by
  have h1 := Int.lt_tmod_of_pos x (show 0 < n by omega)
  have h2 := Int.tmod_lt_of_pos x (show 0 < n by omega)
  unfold I64
  by_cases h : x.tmod n < 0
  · go_enter Tryz.func10, Tryz.ntmps10
    go_wp2
    go_ret
    exact ⟨_, by omega, rfl, rfl⟩
  · go_enter Tryz.func10, Tryz.ntmps10
    go_wp2
    go_ret
    exact ⟨_, by omega, rfl, rfl⟩
/-- The cycle's cells. -/
def cyC (num tm cut : Int) (rv : Value) (rad rnd : Int) (g cap : Nat) (fv : Value) : List Value := [.int .i64 num, .int .i64 tm, .int .i64 cut, rv, .slice none 0 0, .slice none 0 0, .slice none 0 0, .int .i64 0, .int .u64 0, .int .i64 0, .int .i64 rad, .int .i64 rnd, .int .i64 1, .slice (some ⟨g, 0, none⟩) 12 cap, fv, .slice none 0 0, .slice none 0 0]
/-- Since the entry (world w) and since the choices were made (world w0). -/
structure LS (w w0 : World) (b xb g : Nat) (dl : List Int) (cy : List Value) (W : World) : Prop where
  st : St w0 w.heap.size b W
  x : RowAt W xb cy
  d : ∀ j, j < 12 → W.cell? ⟨g, j, none⟩ = some (.int .i64 (dl.getD j 0))
  bel : Below w.heap.size w W
  nx : xb ≠ b
  lx : w0.heap.size ≤ xb
  bb : b < w0.heap.size
  hB : w.heap.size ≤ b
  gx : g < xb
  gb : g ≠ b
section
variable {w w0 W W' : World} {b xb g : Nat} {dl : List Int} {cy cy' : List Value}
theorem LS.call (h : LS w w0 b xb g dl cy W) (hs : St W w.heap.size b W') : LS w w0 b xb g dl cy W' := by
  have hlt := h.x.lt
  have hgx := h.gx
  refine ⟨h.st.then hs, h.x.but hs.2 h.nx, fun j hj => ?_, ?_, h.nx, h.lx, h.bb, h.hB, h.gx, h.gb⟩
  · rw [hs.2.cell (p := ⟨g, j, none⟩) (show g < W.heap.size by omega) h.gb]; exact h.d j hj
  · exact h.bel.trans ((hs.2.mono h.bel.size).below h.hB)
theorem LS.new (h : LS w w0 b xb g dl cy W) (hb : Below W.heap.size W W') : LS w w0 b xb g dl cy W' := h.call ⟨h.st.1.below hb h.st.1.lt, But.of_below hb⟩
theorem LS.lt (h : LS w w0 b xb g dl cy W) : b < W.heap.size := h.st.1.lt
theorem LS.put (h : LS w w0 b xb g dl cy W) (hr : RowAt W' xb cy') (ha : ApartR xb W W') : LS w w0 b xb g dl cy' W' := by
  have hlt := h.gx
  have h1 := h.lx
  have h2 := h.bb
  have h3 := h.hB
  refine ⟨h.st.apart ha h.lx h.nx (by omega), hr, fun j hj => ?_, h.bel.trans (ha.below (by omega)), h.nx, h.lx, h.bb, h.hB, h.gx, h.gb⟩
  rw [World.cell?_of_block (ha.2.2.2.2 g (by omega))]; exact h.d j hj
theorem LS.grown (h : LS w w0 b xb g dl cy W) {base : Nat} (hb : Below base W W') (hx : xb < base) : LS w w0 b xb g dl cy W' := by
  have h0 := h.gx
  have h1 := h.lx
  have h2 := h.bb
  have h3 := h.hB
  refine ⟨h.st.grown hb (by omega) (by omega), h.x.of_block (hb.block xb hx), fun j hj => ?_, h.bel.trans (hb.mono (by omega)), h.nx, h.lx, h.bb, h.hB, h.gx, h.gb⟩
  rw [hb.cell (p := ⟨g, j, none⟩) (show g < base by omega)]; exact h.d j hj
/-- What was there when the choices were made is there. -/
theorem LS.box (h : LS w w0 b xb g dl cy W) {k : Nat} {cs : List Value} (hr : RowAt w0 k cs) (hk : k ≠ b) : RowAt W k cs := hr.but h.st.2 hk
theorem LS.mass (h : LS w w0 b xb g dl cy W) (hl : dl.length = 12) {cap : Nat} (hc : 12 ≤ cap ∧ cap ≤ 9223372036854775807) (hd : ∀ x ∈ dl, 0 ≤ x ∧ x ≤ 16777216) : MassL W.heap.size W (.slice (some ⟨g, 0, none⟩) 12 cap) dl := by
  refine ⟨.inr ⟨g, 0, cap, by rw [hl], by omega, by omega, by have := h.x.lt; have := h.gx; omega, fun j hj => ?_⟩, hd, by omega⟩
  rw [Nat.zero_add]; exact h.d j (by omega)
end
theorem rowT_cyc : RowT 56 17 := ⟨by kernel_rfl, _, Tryz.underlying56, rfl⟩
/-- Reports in a slice of the call's own; what they are is not said. -/
def OwnRp (w : World) (base : Nat) (v : Value) (n : Nat) : Prop := ∃ cs : List Value, w.ownsRow base 29 8 v n cs
theorem repinfo : (Tryz.prog.info? 29).map (fun i => (i.zero, i.size, i.bytes)) = some (some (.agg #[.int .i64 0, .string ⟨#[]⟩, .int .i64 0, .int .i64 0, .int .i64 0, .int .i64 0, .int .i64 0, .slice none 0 0]), 8, 88) := by kernel_rfl
/-- Behind a region: its slots are what they are, the others stand. -/
theorem region_cutP {P : Program} {Q : Exit → Act → World → Prop} {ops : Array Oper} {id : Nat} {bb : Bool} {a : Act} {w : World} (ds : List Nat) (F : (Nat → Value) → World → Prop)
    (h : (Code.region id ops bb).wp P (fun e a' w' => e = .normal ∧ ∃ u : Nat → Value, a' = ds.foldl (fun x d => x.put (some d) (u d)) a ∧ F u w') a w)
    (k : ∀ (u : Nat → Value) w', F u w' → Q .normal (ds.foldl (fun x d => x.put (some d) (u d)) a) w') : (Code.region id ops bb).wp P Q a w :=
  Code.wp_mono (fun e a' w' ⟨he, u, ha, hf⟩ => by subst he ha; exact k u w' hf) h
end Go.Proofs.YtmmmebdgannpgaaGreatDoor
/- A text that is not empty differs from the empty one. -/
namespace Go.Proofs.YtmmmebdgannpgaaGreatDoor
open Go Go.RowKit

theorem neq_run {o : Oper} {a : Act} {w : World} (x : Operand) (ho : o.op = .binOp .neq 9 x (.const (.string ⟨#[]⟩)) 9) (s : List UInt8) (hs : s ≠ []) (hx : a.eval x = .string ⟨s.toArray⟩) :
    (execOp a.eval o).run Tryz.prog w = .ok (.value (.bool true)) w := by
  unfold execOp
  simp only [ho, hx]
  cases s with
  | nil => exact absurd rfl hs
  | cons c r =>
    simp [go_sem, Act.eval]
theorem eql_run {o : Oper} {a : Act} {w : World} (x y : Operand) (ho : o.op = .binOp .eql 9 x y 9) (s : List UInt8) (hx : a.eval x = .string ⟨s.toArray⟩) (hy : a.eval y = .string ⟨s.toArray⟩) :
    (execOp a.eval o).run Tryz.prog w = .ok (.value (.bool true)) w := by
  unfold execOp
  simp only [ho, hx, hy]
  simp [go_sem, Act.eval]
end Go.Proofs.YtmmmebdgannpgaaGreatDoor
/- The law about the monitor's texts holds. Printed by gen_lawb.py. -/
namespace Go.Proofs.YtmmmebdgannpgaaGreatDoor
open Go Go.RowKit

/-- Behind a region: its slots are what they are, the others stand. -/
theorem region_cutQ {P : Program} {Q : Exit → Act → World → Prop} {ops : Array Oper} {id : Nat} {bb : Bool} {a : Act} {w : World} (F : List (Nat × Value) → World → Prop)
    (h : (Code.region id ops bb).wp P (fun e a' w' => e = .normal ∧ ∃ ps : List (Nat × Value), a' = ps.foldl (fun x p => x.put (some p.1) p.2) a ∧ F ps w') a w)
    (k : ∀ (ps : List (Nat × Value)) w', F ps w' → Q .normal (ps.foldl (fun x p => x.put (some p.1) p.2) a) w') : (Code.region id ops bb).wp P Q a w :=
  Code.wp_mono (fun e a' w' ⟨he, ps, ha, hf⟩ => by subst he ha; exact k ps w' hf) h
/-- The boxes of the arguments. -/
structure Bx (w : World) (c1 c2 c3 c4 : List Value) (W : World) : Prop where
  f : RowAt W w.heap.size c1
  r : RowAt W (w.heap.size + 1) c2
  e : RowAt W (w.heap.size + 2) c3
  t : RowAt W (w.heap.size + 3) c4
  b : Below w.heap.size w W
theorem Bx.new {w W W' : World} {c1 c2 c3 c4 : List Value} (h : Bx w c1 c2 c3 c4 W) (hb : Below W.heap.size W W') : Bx w c1 c2 c3 c4 W' := ⟨h.f.below hb, h.r.below hb, h.e.below hb, h.t.below hb, below_then h.b hb⟩
theorem OwnRp.slice {w : World} {base : Nat} {v : Value} {n : Nat} (h : OwnRp w base v n) : ∃ a c, v = .slice a n c := by
  obtain ⟨cs, h⟩ := h
  rcases h.2 with ⟨e, e2⟩ | ⟨g, cap, cur, e, _⟩
  · exact ⟨none, 0, by rw [e, e2]⟩
  · exact ⟨_, _, e⟩
theorem append_rep {w : World} {base : Nat} {v : Value} {n : Nat} (h : OwnRp w base v n) (es : List Value) (hes : es.length = 8) (h1 : ∀ u ∈ es, u.oneCell' = true) (hn : n ≤ 1000000000) (hb : base ≤ w.heap.size) (ty : TypeId) :
    ∃ (v' : Value) (w' : World), (Builtin.append_ #[43, 43] ty #[v, .slice (some ⟨w.heap.size, 0, none⟩) 1 1]).run Tryz.prog (w.alloc (.cells es.toArray 29)) = .ok v' w' ∧
      OwnRp w' base v' (n + 1) ∧ Below base w w' := by
  obtain ⟨cs, h⟩ := h
  obtain ⟨v', w', a1, a2, a3⟩ := append_new 43 29 Tryz.underlying43 repinfo rfl (by decide) h es 1 (by rw [hes]) h1 hn (by omega) (by decide) hb ty
  exact ⟨v', w', a1, ⟨_, a2⟩, a3⟩
theorem own12 {w : World} {base : Nat} {v : Value} {l : List Int} (h : OwnI w base v l) (hl : l.length = 12) : ∃ g cap, v = .slice (some ⟨g, 0, none⟩) 12 cap ∧ base ≤ g ∧ g < w.heap.size ∧ (12 ≤ cap ∧ cap ≤ 9223372036854775807) ∧ ∀ j, j < 12 → w.cell? ⟨g, j, none⟩ = some (.int .i64 (l.getD j 0)) := by
  have h' := h
  rcases h.2 with ⟨_, e⟩ | ⟨g, cap, cur, e, hg, hh, hc, hm, _⟩
  · omega
  · refine ⟨g, cap, by rw [e, hl], hg, (Array.getElem?_eq_some_iff.1 hh).1, ⟨by omega, by unfold maxLen at hm; omega⟩, fun j hj => ?_⟩
    subst e
    have h2 : w.ownsRow base 3 1 (.slice (some ⟨g, 0, none⟩) l.length cap) l.length (ics l) := h'
    rw [World.ownsRow.cellAt h2 j (by omega)]
    simp [ics, show j < l.length by omega, List.getD_eq_getElem?_getD]
theorem LS.apart {w w0 W W' : World} {b xb g : Nat} {dl : List Int} {cy : List Value} (h : LS w w0 b xb g dl cy W) {s : Nat} (ha : ApartR s W W') (hs : xb < s) : LS w w0 b xb g dl cy W' := by
  have h0 := h.gx
  have h1 := h.lx
  have h2 := h.bb
  have h3 := h.hB
  refine ⟨h.st.apart ha (by omega) (by omega) (by omega), h.x.apart ha (by omega), fun j hj => ?_, h.bel.trans (ha.below (by omega)), h.nx, h.lx, h.bb, h.hB, h.gx, h.gb⟩
  rw [World.cell?_of_block (ha.2.2.2.2 g (by omega))]; exact h.d j hj
/-- All that the last line of the law looks at. -/
structure FN (w w0 : World) (b xb g : Nat) (dl : List Int) (cy : List Value) (sm tb : Nat) (c1 c2 c3 c4 cs ct : List Value) (bv : Nat) (v : Value) (l : List Int) (W : World) : Prop where
  ls : LS w w0 b xb g dl cy W
  f : RowAt W w.heap.size c1
  r : RowAt W (w.heap.size + 1) c2
  e : RowAt W (w.heap.size + 2) c3
  t : RowAt W (w.heap.size + 3) c4
  s : RowAt W sm cs
  n : RowAt W tb ct
  ov : OwnI W bv v l
  hb : w.heap.size + 3 < b
  hs : sm ≠ b
  hn : tb ≠ b
  hv : b < bv
theorem FN.call {w w0 W W' : World} {b xb g : Nat} {dl : List Int} {cy : List Value} {sm tb : Nat} {c1 c2 c3 c4 cs ct : List Value} {bv : Nat} {v : Value} {l : List Int} (h : FN w w0 b xb g dl cy sm tb c1 c2 c3 c4 cs ct bv v l W) (k : St W w.heap.size b W') : FN w w0 b xb g dl cy sm tb c1 c2 c3 c4 cs ct bv v l W' := by
  have hb := h.hb
  exact ⟨h.ls.call k, h.f.but k.2 (by omega), h.r.but k.2 (by omega), h.e.but k.2 (by omega), h.t.but k.2 (by omega), h.s.but k.2 h.hs, h.n.but k.2 h.hn, h.ov.st k h.hv, h.hb, h.hs, h.hn, h.hv⟩
theorem FN.new {w w0 W W' : World} {b xb g : Nat} {dl : List Int} {cy : List Value} {sm tb : Nat} {c1 c2 c3 c4 cs ct : List Value} {bv : Nat} {v : Value} {l : List Int} (h : FN w w0 b xb g dl cy sm tb c1 c2 c3 c4 cs ct bv v l W) (hb : Below W.heap.size W W') : FN w w0 b xb g dl cy sm tb c1 c2 c3 c4 cs ct bv v l W' := h.call ⟨h.ls.st.1.below hb h.ls.lt, But.of_below hb⟩
theorem OwnI.ints {w : World} {base : Nat} {v : Value} {l : List Int} (h : OwnI w base v l) (hl : l.length ≤ 1000) : IntsIn w.heap.size w v l := by
  have h' := h
  rcases h.2 with ⟨e, e2⟩ | ⟨g, cap, cur, e, hg, hh, hc, hm, _⟩
  · exact .inl ⟨none, 0, e, List.eq_nil_of_length_eq_zero e2⟩
  · refine .inr ⟨g, 0, cap, e, hc, by unfold maxLen at hm; omega, (Array.getElem?_eq_some_iff.1 hh).1, fun j hj => ?_⟩
    subst e
    have h2 : w.ownsRow base 3 1 (.slice (some ⟨g, 0, none⟩) l.length cap) l.length (ics l) := h'
    rw [Nat.zero_add, World.ownsRow.cellAt h2 j (by omega)]
    simp [ics, hj, List.getD_eq_getElem?_getD]
theorem IntsIn.up {n₀ : Nat} {W : World} {v : Value} {zs : List Int} (h : IntsIn n₀ W v zs) (hn : n₀ ≤ W.heap.size) : IntsIn W.heap.size W v zs := by
  rcases h with h | ⟨b, off, cap, e, h1, h2, h3, h4⟩
  · exact .inl h
  · exact .inr ⟨b, off, cap, e, h1, h2, by omega, h4⟩
theorem PairsIn.at {n₀ : Nat} {w W : World} {v : Value} {l : List (Int × Int)} (h : PairsIn n₀ w v l) (hb : Below n₀ w W) (hn : n₀ ≤ W.heap.size) : PairsIn W.heap.size W v l := by
  rcases h with h | ⟨b, off, cap, e, h1, h2⟩
  · exact .inl h
  · refine .inr ⟨b, off, cap, e, by omega, fun j hj => ?_⟩
    rw [hb.cell (p := ⟨b, off + j * 2, none⟩) h1, hb.cell (p := ⟨b, off + j * 2 + 1, none⟩) h1]
    exact h2 j hj
theorem newMap_own {zs : List Int} {w' : World} {base : Nat} {v : Value} (h : w'.ownsRow base 9 1 v ((zs.length + 9) / 10) (linesV zs (List.range ((zs.length + 9) / 10)))) : OwnS w' base v (lns zs) := by
  unfold OwnS
  rw [lns_len]
  have e : scs (lns zs) = linesV zs (List.range ((zs.length + 9) / 10)) := by simp [scs, lns, linesV, strV]
  rw [e]; exact h
theorem repT_ne (kd : Int) (nm : List UInt8) (tm : Int) (l : List (Int × Int)) : repT kd nm tm l ≠ [] := by
  have h1 := (kindT_len kd).1
  intro e
  have h2 : 1 ≤ (repT kd nm tm l).length := by unfold repT; rw [List.length_append]; omega
  rw [e] at h2
  simp at h2
set_option maxHeartbeats 32000000 in
set_option maxRecDepth 100000 in
theorem texts_any (v0 : Value) (p q : Int) (kd : Int) (nm : List UInt8) (tm pf pa pb pc : Int) (ra : Option Addr) (rn rc : Nat) (rl : List (Int × Int)) (en es ea eq th ta tm2 tox : Int) (va : Option Addr) (vn vc : Nat) (zs : List Int) (num : Int) (w : World)
    (hT : Tab w) (hBn : Bnds w) (hU : U8At w w.heap.size v0) (hp : I64 p) (hq : I64 q) (hv : ∀ x ∈ rl, I64 x.1 ∧ I64 x.2) (hP : PairsIn w.heap.size w (.slice ra rn rc) rl) (hrl : rl.length = rn)
    (he : I64 en ∧ I64 es ∧ I64 ea ∧ I64 eq) (ht : Four th ta tm2 tox) (hI : IntsIn w.heap.size w (.slice va vn vc) zs) (hz : ∀ z ∈ zs, I64 z) (hzl : zs.length = vn) (hnum : I64 num) :
    Calls Tryz.prog 3 #[v0, .agg #[.int .i64 p, .int .i64 q], .agg #[.int .i64 kd, .string ⟨nm.toArray⟩, .int .i64 tm, .int .i64 pf, .int .i64 pa, .int .i64 pb, .int .i64 pc, .slice ra rn rc], .agg #[.int .i64 en, .int .i64 es, .int .i64 ea, .int .i64 eq], .agg #[.int .i64 th, .int .i64 ta, .int .i64 tm2, .int .i64 tox], .slice va vn vc, .int .i64 num] w fun e w' => e = .returned (.bool true) ∧ Below w.heap.size w w' := by
  have HT := Lib.hid hT
  have HBn := Lib.hid hBn
  have HU := Lib.hid hU
  have HPr := Lib.hid hP
  have HIn := Lib.hid hI
  have HB : Hid (Bx w [.int .i64 p, .int .i64 q] [.int .i64 kd, strV nm, .int .i64 tm, .int .i64 pf, .int .i64 pa, .int .i64 pb, .int .i64 pc, .slice ra rn rc] [.int .i64 en, .int .i64 es, .int .i64 ea, .int .i64 eq] [.int .i64 th, .int .i64 ta, .int .i64 tm2, .int .i64 tox] ((((w.alloc (.cells #[.int .i64 p, .int .i64 q] 24)).alloc (.cells #[.int .i64 kd, .string ⟨nm.toArray⟩, .int .i64 tm, .int .i64 pf, .int .i64 pa, .int .i64 pb, .int .i64 pc, .slice ra rn rc] 29)).alloc (.cells #[.int .i64 en, .int .i64 es, .int .i64 ea, .int .i64 eq] 31)).alloc (.cells #[.int .i64 th, .int .i64 ta, .int .i64 tm2, .int .i64 tox] 33))) :=
    ⟨(((RowAt.new w [.int .i64 p, .int .i64 q] (by simp) _ rfl).alloc _).alloc _).alloc _, ((RowAt.new _ [.int .i64 kd, strV nm, .int .i64 tm, .int .i64 pf, .int .i64 pa, .int .i64 pb, .int .i64 pc, .slice ra rn rc] (by simp) _ (by simp)).alloc _).alloc _, (RowAt.new _ [.int .i64 en, .int .i64 es, .int .i64 ea, .int .i64 eq] (by simp) _ (by simp)).alloc _, RowAt.new _ [.int .i64 th, .int .i64 ta, .int .i64 tm2, .int .i64 tox] (by simp) _ (by simp),
      ((((Below.refl _ _).alloc (Nat.le_refl _) _).alloc (by simp) _).alloc (by simp; omega) _).alloc (by simp; omega) _⟩
  have HV := Lib.hid (And.intro hp (And.intro hq (And.intro hv (And.intro hrl (And.intro he (And.intro ht (And.intro hz (And.intro hzl hnum))))))))
  clear hT hBn hU hP hI hp hq hv hrl he ht hz hzl hnum
  go_enter Tryz.func3, Tryz.ntmps3
  go_wp2_with fail
  generalize (((w.alloc _).alloc _).alloc _).alloc _ = wb at HB ⊢
  refine (awake_any wb (HT.out.below HB.out.b)).mono ?_
  rintro e w1 ⟨rfl, hb⟩
  have HB1 := Lib.hid (HB.out.new hb)
  clear hb HB
  have c7 : w1.cell? ⟨w.heap.size + 1, 7, none⟩ = some (.slice ra rn rc) := HB1.out.r.at 7 rfl
  have c1 : w1.cell? ⟨w.heap.size + 1, 1, none⟩ = some (.string ⟨nm.toArray⟩) := HB1.out.r.at 1 rfl
  have hnl : (⟨nm.toArray⟩ : ByteArray).size = nm.length := by simp [ByteArray.size]
  by_cases h1 : 40 < rn
  · have h1i : (40 : Int) < (rn : Int) := by omega
    go_wp2_with fail
    go_ret
    exact ⟨rfl, HB1.out.b⟩
  have h1i : ¬ (40 : Int) < (rn : Int) := by omega
  by_cases h2 : 100 < nm.length
  · have h2i : (100 : Int) < ((⟨nm.toArray⟩ : ByteArray).size : Int) := by omega
    generalize (⟨nm.toArray⟩ : ByteArray) = nb at *
    go_wp2_with fail
    go_ret
    exact ⟨rfl, HB1.out.b⟩
  have h2i : ¬ (100 : Int) < ((⟨nm.toArray⟩ : ByteArray).size : Int) := by omega
  by_cases h3 : 300 < vn
  · have h3i : (300 : Int) < (vn : Int) := by omega
    generalize (⟨nm.toArray⟩ : ByteArray) = nb at *
    go_wp2_with fail
    go_ret
    exact ⟨rfl, HB1.out.b⟩
  have h3i : ¬ (300 : Int) < (vn : Int) := by omega
  have HLen : Hid (rn ≤ 40 ∧ nm.length ≤ 100 ∧ vn ≤ 300) := by unfold Hid; omega
  clear h1 h2 h3
  generalize hnb : (⟨nm.toArray⟩ : ByteArray) = nb at *
  have HNb := Lib.hid hnb
  clear hnb
  go_wp2_with fail
  refine (cnew_ok v0 200 w.heap.size w1 HB1.out.b.size (by decide) (HU.out.below HB1.out.b)).mono ?_
  rintro e w0 ⟨rfl, hcd, hb2, hsz⟩
  have HB2 := Lib.hid (HB1.out.new hb2)
  have HLo : Hid (w.heap.size + 3 < w1.heap.size) := HB1.out.t.lt
  have HS0 : Hid (St w0 w.heap.size w1.heap.size w0 ∧ w1.heap.size < w0.heap.size) := ⟨St.start hcd, hcd.lt⟩
  generalize w1.heap.size = b at *
  clear hcd hb2 hsz HB1 c7 c1 h1i h2i h3i hnl
  go_wp2_with fail
  refine (int_ok w.heap.size b w0 HS0.out.1.1).mono ?_
  rintro e w2 ⟨ct, hct, rfl, hs⟩
  have HS1 := Lib.hid (HS0.out.1.then hs)
  clear hs
  go_wp2_with fail
  refine (next_ok w.heap.size b 200 w2 HS1.out.1 (by omega) (by omega)).mono ?_
  rintro e w3 ⟨cu, cu0, cu1, rfl, hs⟩
  have HS2 := Lib.hid (HS1.out.then hs)
  clear hs HS1
  go_wp2_with fail
  refine (state_ok w.heap.size b w3 HS2.out.1).mono ?_
  rintro e w4 ⟨dv, fv, dl, fl, rfl, hdl, hdb, _, _, hod, hof, hs⟩
  have HS3 := Lib.hid (HS2.out.then hs)
  have hgb3 := hs.2.size
  have hb3 : b < w3.heap.size := HS2.out.1.lt
  obtain ⟨g, cap, rfl, hg1, hg2, hcap, hdc⟩ := own12 hod hdl
  obtain ⟨fa, fc, rfl⟩ := hof.slice
  have HD := Lib.hid (And.intro hdl (And.intro hdb hcap))
  have HL0 : Hid (LS w w0 b w4.heap.size g dl (cyC num ct (100 * cu) (.slice none 0 0) 0 0 g cap (.slice fa fl.length fc)) (w4.alloc (.cells (cyC num ct (100 * cu) (.slice none 0 0) 0 0 g cap (.slice fa fl.length fc)).toArray 56))) := by
    have hq1 := HS0.out.2
    have hq2 := HLo.out
    have hq3 := HS3.out.2.size
    refine ⟨HS3.out.alloc _, RowAt.new w4 _ (by simp [cyC]) _ rfl, fun j hj => ?_, ?_, by omega, by omega, by omega, by omega, by omega, by omega⟩
    · have := hdc j hj
      exact cell_then ((Below.refl _ _).alloc (Nat.le_refl _) _) this
    · have h1 : Below w.heap.size w w4 := HB2.out.b.trans ((HS3.out.2.mono (show w.heap.size ≤ w0.heap.size by omega)).below (by omega))
      exact below_then h1 ((Below.refl _ _).alloc (Nat.le_refl _) _)
  simp only [cyC] at HL0
  generalize fl.length = fn at *
  clear hs hod hof hdl hdb hcap hdc hgb3 hg1 hg2 HS2 HS3 hb3
  go_wp2_with fail
  generalize w4.heap.size = xb at *
  generalize w4.alloc _ = w5 at HL0 ⊢
  refine (int_ok w.heap.size b w5 HL0.out.st.1).mono ?_
  rintro e w6 ⟨rad, hrad, rfl, hs⟩
  have HL1 := Lib.hid (HL0.out.call hs)
  have HRad := Lib.hid hrad
  clear hs hrad HL0
  go_wp2_with fail
  refine (next_ok w.heap.size b 9 w6 HL1.out.st.1 (by omega) (by omega)).mono ?_
  rintro e w7 ⟨rnd, rn0, rn1, rfl, hs⟩
  have HL2 := Lib.hid (HL1.out.call hs)
  clear hs HL1
  have c10 : w7.cell? ⟨xb, 10, none⟩ = some (.int .i64 0) := HL2.out.x.at 10 rfl
  have c11 : w7.cell? ⟨xb, 11, none⟩ = some (.int .i64 0) := HL2.out.x.at 11 rfl
  have f10 : w7.frozen? ⟨xb, 10, none⟩ = false := HL2.out.x.2.2 10 (by simp)
  have f11 : w7.frozen? ⟨xb, 11, none⟩ = false := HL2.out.x.2.2 11 (by simp)
  have HL3 : Hid (LS w w0 b xb g dl (cyC num ct (100 * cu) (.slice none 0 0) rad rnd g cap (.slice fa fn fc)) ((w7.setCell ⟨xb, 10, none⟩ (.int .i64 rad)).setCell ⟨xb, 11, none⟩ (.int .i64 rnd))) :=
    (HL2.out.put (HL2.out.x.set 10 (by simp) _) ((ApartR.refl xb w7).setCell 10 _)).put ((HL2.out.x.set 10 (by simp) _).set 11 (by simp) _) ((ApartR.refl xb _).setCell 11 _)
  clear HL2
  go_wp2_with fail
  generalize (w7.setCell _ _).setCell _ _ = w8 at HL3 ⊢
  clear c10 c11 f10 f11
  refine (next_ok w.heap.size b 4 w8 HL3.out.st.1 (by omega) (by omega)).mono ?_
  rintro e w9 ⟨kk, kk0, kk1, rfl, hs⟩
  obtain ⟨kk, rfl⟩ := Int.eq_ofNat_of_zero_le kk0
  have HL4 := Lib.hid (HL3.out.call hs)
  have HO4 : Hid (OwnRp w9 (xb + 1) (.slice none 0 0) 0) := ⟨[], World.ownsRow_nil _ _ _ _⟩
  clear hs HL3
  go_wp2_with fail
  go_loopw [17] (fun kv wr => ∃ (k m : Nat) (rv : Value), kv = .int .i64 k ∧ m + k ≤ 4 ∧ Hid (LS w w0 b xb g dl (cyC num ct (100 * cu) rv rad rnd g cap (.slice fa fn fc)) wr) ∧ Hid (OwnRp wr (xb + 1) rv m)) (fun kv _ => (intOf kv).toNat)
  case atStart => exact ⟨kk, 0, _, rfl, by omega, HL4, HO4⟩
  case round =>
    clear HL4 HO4
    obtain ⟨k, m, rv, rfl, hkm, HL, HO⟩ := hrel
    obtain ⟨rva, rvc, rfl⟩ := HO.out.slice
    rcases Nat.eq_zero_or_pos k with hk | hk
    case' inr =>
      have hki : (0 : Int) < (k : Int) := by omega
      go_wp2_with fail
      have HLd := Lib.hid (HL.out.new (Below.refl wr.heap.size wr).drew)
      have HOd : Hid (OwnRp wr.drew (xb + 1) (.slice rva m rvc) m) := by obtain ⟨cs, h⟩ := HO.out; exact ⟨cs, ownsRow_below h (Below.refl _ _).drew⟩
      refine wp_region_seqL (by kernel_rfl) (fun w' => RowAt w' xb (cyC num ct (100 * cu) (.slice rva m rvc) rad rnd g cap (.slice fa fn fc))) 7 [(0, 0), (1, 1), (2, 0), (3, 2), (4, 2), (5, 2), (6, 0), (7, 2)] (by kernel_rfl) (HLd.out.x) ?_
      refine sl_q (d := some 64) rfl rfl rfl (.pointer (some ⟨xb, 3, none⟩)) (fun w => by go_simp) ?_
      simp only [Act.put, List.setIfInBounds_toArray, List.set_cons_zero, List.set_cons_succ]
      refine sl_s (d := some 65) rfl rfl rfl (.slice rva m rvc) (fun w hw => by have h := hw.at 3 rfl; simp [execOp, Act.eval, go_sem, h]) ?_
      simp only [Act.put, List.setIfInBounds_toArray, List.set_cons_zero, List.set_cons_succ]
      refine sl_q (d := some 66) rfl rfl rfl (.pointer (some ⟨b, 0, none⟩)) (fun w => rfl) ?_
      simp only [Act.put, List.setIfInBounds_toArray, List.set_cons_zero, List.set_cons_succ]
      refine sl_call (d := some 67) rfl rfl rfl ⟨_, Tryz.func9, by kernel_rfl, by kernel_rfl⟩ _ _ _ rfl rfl [.pointer (some ⟨b, 0, none⟩)] rfl (obs_ok w.heap.size b wr.drew HLd.out.st.1) ?_
      rintro e wA ⟨ok, onm, ot, of, op, oq, or, oa, on, oc, ol, rfl, _, _, _, _, _, hs⟩
      have HLA := Lib.hid (HLd.out.call hs)
      have HOA : Hid (OwnRp wA (xb + 1) (.slice rva m rvc) m) := by obtain ⟨cs, h⟩ := HOd.out; exact ⟨cs, ownsRow_but h hs.2 (by have := HLd.out.bb; have := HLd.out.lx; omega)⟩
      refine ⟨_, rfl, fun _ => HLA.out.x, ?_⟩
      simp only [Act.put, List.setIfInBounds_toArray, List.set_cons_zero, List.set_cons_succ]
      clear hs HLd HOd
      have hone : ∀ u ∈ repC ok onm ot of op oq or (.slice oa on oc), u.oneCell' = true := List.all_eq_true.1 rfl
      obtain ⟨vz, wB, hrun, hOz, hBz⟩ := append_rep HOA.out (repC ok onm ot of op oq or (.slice oa on oc)) rfl hone (by omega) (by have := HLA.out.x.lt; omega) 43
      refine sl_run (d := some 68) rfl rfl rfl (.slice (some ⟨wA.heap.size, 0, none⟩) 1 1) (wA.alloc (.cells (repC ok onm ot of op oq or (.slice oa on oc)).toArray 29)) (by simp [execOp, Act.eval, go_sem, repC, strV]) (fun _ => HLA.out.x.alloc _) ?_
      simp only [Act.put, List.setIfInBounds_toArray, List.set_cons_zero, List.set_cons_succ]
      have HLB := Lib.hid (HLA.out.grown hBz (by omega))
      have hcB := HLB.out.x.at 3 (v := .slice rva m rvc) rfl
      have hfB : wB.frozen? ⟨xb, 3, none⟩ = false := HLB.out.x.2.2 3 (by simp [cyC])
      obtain ⟨zva, zvc, hvz⟩ := hOz.slice
      have HOB := Lib.hid hOz
      refine sl_run (d := some 69) rfl rfl rfl vz wB (run_append _ _ _ rfl _ _ rfl rfl hrun) (fun _ => HLB.out.x) ?_
      simp only [Act.put, List.setIfInBounds_toArray, List.set_cons_zero, List.set_cons_succ]
      clear hrun hOz hBz HLA HOA hone
      refine sl_q (d := some 70) rfl rfl rfl (.pointer (some ⟨xb, 3, none⟩)) (fun w => by go_simp) ?_
      simp only [Act.put, List.setIfInBounds_toArray, List.set_cons_zero, List.set_cons_succ]
      obtain ⟨wz, hwz⟩ : ∃ y, y = wB.setCell ⟨xb, 3, none⟩ vz := ⟨_, rfl⟩
      have hapz : ApartR xb wB wz := by rw [hwz]; exact (ApartR.refl xb wB).setCell 3 _
      have HLz : Hid (LS w w0 b xb g dl (cyC num ct (100 * cu) (vz) rad rnd g cap (.slice fa fn fc)) wz) := HLB.out.put (by rw [hwz]; exact HLB.out.x.set 3 (by simp [cyC]) vz) hapz
      have HOz : Hid (OwnRp wz (xb + 1) vz (m + 1)) := by obtain ⟨cs, h⟩ := HOB.out; exact ⟨cs, ownsRow_of_same h (fun k hk _ => hapz.2.2.2.2 k (by omega))⟩
      refine sl_skip (d := none) rfl rfl rfl wz (by rw [hwz]; simp [execOp, Act.eval, go_sem, hcB, hfB, hvz]) (fun h => by cases h) ?_
      simp only [Act.put, List.setIfInBounds_toArray, List.set_cons_zero, List.set_cons_succ]
      clear hcB hfB hapz hwz HLB HOB hvz
      refine sl_end ?_
      go_wp2_with fail
      go_roundw
      case rel => exact ⟨k - 1, m + 1, vz, by first | rfl | (congr 1; omega), by omega, HLz, HOz⟩
      case measure => simp [intOf]; omega
    case' inl =>
      subst hk
      have hm4 : m ≤ 4 := by omega
      clear hkm
      go_wp2_with fail
      have HEb : Hid (RowAt w0 (w.heap.size + 2) [.int .i64 en, .int .i64 es, .int .i64 ea, .int .i64 eq] ∧ w.heap.size + 2 ≠ b) := ⟨HB2.out.e, by have := HLo.out; omega⟩
      have HTb : Hid (RowAt w0 (w.heap.size + 3) [.int .i64 th, .int .i64 ta, .int .i64 tm2, .int .i64 tox] ∧ w.heap.size + 3 ≠ b) := ⟨HB2.out.t, by have := HLo.out; omega⟩
      have L0 := Lib.hid (HL.out.new (Below.refl wr.heap.size wr).drew)
      clear HL HO
      refine region_cutQ (fun ps W => ∃ (u71 u72 u73 u74 u75 u76 u77 u78 u79 u80 : Value) (sm : Nat) (y1 y2 s1 : Int), ps = [(71, u71), (72, u72), (73, u73), (74, u74), (75, u75), (76, u76), (77, u77), (78, u78), (79, u79), (80, u80), (18, .pointer (some ⟨sm, 0, none⟩))] ∧ I64 y1 ∧ xb < sm ∧ LS w w0 b xb g dl (cyC num ct (100 * cu) (.slice rva m rvc) rad rnd g cap (.slice fa fn fc)) W ∧ RowAt W sm [.int .i64 y1, .int .i64 s1, .int .i64 0, .int .i64 y2]) ?_ ?_
      · refine wp_region_tree (by kernel_rfl) (fun w' => RowAt w' (w.heap.size + 2) [.int .i64 en, .int .i64 es, .int .i64 ea, .int .i64 eq]) 11 (.q 0 0 (.q 1 1 (.q 3 0 (.q 4 1 (.q 5 0 (.q 6 0 (.q 7 1 (.fork (.e 2 (.fork (.e 8 (.q 9 0 (.e 10 (.e 11 (.nil))))) (.e 10 (.e 8 (.q 9 0 (.e 11 (.nil))))))) (.e 10 (.e 2 (.e 8 (.q 9 0 (.e 11 (.nil)))))))))))))) (by kernel_rfl) (L0.out.box HEb.out.1 HEb.out.2) ?_
        refine tr_q (d := some 71) rfl rfl rfl (.pointer (some ⟨w.heap.size + 2, 0, none⟩)) (fun w => by go_simp) ?_
        simp only [Act.put, List.setIfInBounds_toArray, List.set_cons_zero, List.set_cons_succ]
        refine tr_s (d := some 72) rfl rfl rfl (.int .i64 en) (fun w hw => by have h := hw.at 0 rfl; simp [execOp, Act.eval, go_sem, h]) ?_
        simp only [Act.put, List.setIfInBounds_toArray, List.set_cons_zero, List.set_cons_succ]
        refine tr_q (d := some 74) rfl rfl rfl (.pointer (some ⟨w.heap.size + 2, 1, none⟩)) (fun w => by go_simp) ?_
        simp only [Act.put, List.setIfInBounds_toArray, List.set_cons_zero, List.set_cons_succ]
        refine tr_s (d := some 75) rfl rfl rfl (.int .i64 es) (fun w hw => by have h := hw.at 1 rfl; simp [execOp, Act.eval, go_sem, h]) ?_
        simp only [Act.put, List.setIfInBounds_toArray, List.set_cons_zero, List.set_cons_succ]
        refine tr_q (d := some 76) rfl rfl rfl (.int .i64 (es.tmod 500)) (fun w => by simp [execOp, Act.eval, go_sem]) ?_
        simp only [Act.put, List.setIfInBounds_toArray, List.set_cons_zero, List.set_cons_succ]
        refine tr_q (d := some 77) rfl rfl rfl (.pointer (some ⟨w.heap.size + 2, 3, none⟩)) (fun w => by go_simp) ?_
        simp only [Act.put, List.setIfInBounds_toArray, List.set_cons_zero, List.set_cons_succ]
        refine tr_s (d := some 78) rfl rfl rfl (.int .i64 eq) (fun w hw => by have h := hw.at 3 rfl; simp [execOp, Act.eval, go_sem, h]) ?_
        simp only [Act.put, List.setIfInBounds_toArray, List.set_cons_zero, List.set_cons_succ]
        refine tr_fork ?_ ?_
        · refine tr_call (d := some 73) rfl rfl rfl ⟨_, Tryz.func10, by kernel_rfl, by kernel_rfl⟩ _ _ _ rfl rfl [.int .i64 en, .int .i64 9] rfl (mod_any en 9 wr.drew HV.out.2.2.2.2.1.1 (by omega)) ?_
          rintro e _ ⟨y1, hy1, rfl, rfl⟩
          refine ⟨_, rfl, fun _ => L0.out.box HEb.out.1 HEb.out.2, ?_⟩
          simp only [Act.put, List.setIfInBounds_toArray, List.set_cons_zero, List.set_cons_succ]
          refine tr_fork ?_ ?_
          · refine tr_call (d := some 79) rfl rfl rfl ⟨_, Tryz.func10, by kernel_rfl, by kernel_rfl⟩ _ _ _ rfl rfl [.int .i64 eq, .int .i64 9000] rfl (mod_any eq 9000 wr.drew HV.out.2.2.2.2.1.2.2.2 (by omega)) ?_
            rintro e _ ⟨y2, hy2, rfl, rfl⟩
            refine ⟨_, rfl, fun _ => L0.out.box HEb.out.1 HEb.out.2, ?_⟩
            simp only [Act.put, List.setIfInBounds_toArray, List.set_cons_zero, List.set_cons_succ]
            refine tr_q (d := some 80) rfl rfl rfl (.agg #[.int .i64 y1, .int .i64 (es.tmod 500), .int .i64 0, .int .i64 y2]) (fun w => by simp [execOp, Act.eval, Instr.build, go_sem]) ?_
            simp only [Act.put, List.setIfInBounds_toArray, List.set_cons_zero, List.set_cons_succ]
            obtain ⟨yw, hnw⟩ : ∃ y, y = wr.drew.alloc (.cells #[.int .i64 0, .int .i64 0, .int .i64 0, .int .i64 0] 31) := ⟨_, rfl⟩
            obtain ⟨sm, hsm⟩ : ∃ x, x = wr.drew.heap.size := ⟨_, rfl⟩
            have hb : Below wr.drew.heap.size wr.drew yw := by rw [hnw]; exact (Below.refl _ _).alloc (Nat.le_refl _) _
            have hsx : xb < sm := by have := L0.out.x.lt; omega
            have L1 := Lib.hid (L0.out.new hb)
            have M0 : Hid (RowAt yw sm [.int .i64 0, .int .i64 0, .int .i64 0, .int .i64 0]) := by unfold Hid; rw [hnw]; exact RowAt.new _ [.int .i64 0, .int .i64 0, .int .i64 0, .int .i64 0] (by simp) _ hsm.symm
            refine tr_run (d := some 18) rfl rfl rfl (.pointer (some ⟨sm, 0, none⟩)) yw (by rw [hnw, hsm]; simp [execOp, Act.eval, go_sem]) (fun _ => L1.out.box HEb.out.1 HEb.out.2) ?_
            simp only [Act.put, List.setIfInBounds_toArray, List.set_cons_zero, List.set_cons_succ]
            clear hb hnw hsm
            refine tr_skip (d := none) rfl rfl rfl (yw.setCells sm 0 [.int .i64 y1, .int .i64 (es.tmod 500), .int .i64 0, .int .i64 y2]) (row_store_run _ _ rfl sm rfl [.int .i64 0, .int .i64 0, .int .i64 0, .int .i64 0] [.int .i64 y1, .int .i64 (es.tmod 500), .int .i64 0, .int .i64 y2] rfl M0.out rfl rowT_err (List.all_eq_true.1 rfl)) (fun h => by cases h) ?_
            simp only [Act.put, List.setIfInBounds_toArray, List.set_cons_zero, List.set_cons_succ]
            refine tr_end ?_
            have hap := apartR_setCells sm [.int .i64 y1, .int .i64 (es.tmod 500), .int .i64 0, .int .i64 y2] 0 yw
            exact ⟨rfl, [(71, .pointer (some ⟨w.heap.size + 2, 0, none⟩)), (72, .int .i64 en), (73, .int .i64 y1), (74, .pointer (some ⟨w.heap.size + 2, 1, none⟩)), (75, .int .i64 es), (76, .int .i64 (es.tmod 500)), (77, .pointer (some ⟨w.heap.size + 2, 3, none⟩)), (78, .int .i64 eq), (79, .int .i64 y2), (80, .agg #[.int .i64 y1, .int .i64 (es.tmod 500), .int .i64 0, .int .i64 y2]), (18, .pointer (some ⟨sm, 0, none⟩))], by simp only [List.foldl, Act.put, List.setIfInBounds_toArray, List.set_cons_zero, List.set_cons_succ], _, _, _, _, _, _, _, _, _, _, sm, y1, y2, es.tmod 500, rfl, hy1, hsx, L1.out.apart hap hsx, M0.out.setCells rfl⟩
          · obtain ⟨yw, hnw⟩ : ∃ y, y = wr.drew.alloc (.cells #[.int .i64 0, .int .i64 0, .int .i64 0, .int .i64 0] 31) := ⟨_, rfl⟩
            obtain ⟨sm, hsm⟩ : ∃ x, x = wr.drew.heap.size := ⟨_, rfl⟩
            have hb : Below wr.drew.heap.size wr.drew yw := by rw [hnw]; exact (Below.refl _ _).alloc (Nat.le_refl _) _
            have hsx : xb < sm := by have := L0.out.x.lt; omega
            have L1 := Lib.hid (L0.out.new hb)
            have M0 : Hid (RowAt yw sm [.int .i64 0, .int .i64 0, .int .i64 0, .int .i64 0]) := by unfold Hid; rw [hnw]; exact RowAt.new _ [.int .i64 0, .int .i64 0, .int .i64 0, .int .i64 0] (by simp) _ hsm.symm
            refine tr_run (d := some 18) rfl rfl rfl (.pointer (some ⟨sm, 0, none⟩)) yw (by rw [hnw, hsm]; simp [execOp, Act.eval, go_sem]) (fun _ => L1.out.box HEb.out.1 HEb.out.2) ?_
            simp only [Act.put, List.setIfInBounds_toArray, List.set_cons_zero, List.set_cons_succ]
            clear hb hnw hsm
            refine tr_call (d := some 79) rfl rfl rfl ⟨_, Tryz.func10, by kernel_rfl, by kernel_rfl⟩ _ _ _ rfl rfl [.int .i64 eq, .int .i64 9000] rfl (mod_any eq 9000 yw HV.out.2.2.2.2.1.2.2.2 (by omega)) ?_
            rintro e _ ⟨y2, hy2, rfl, rfl⟩
            refine ⟨_, rfl, fun _ => L1.out.box HEb.out.1 HEb.out.2, ?_⟩
            simp only [Act.put, List.setIfInBounds_toArray, List.set_cons_zero, List.set_cons_succ]
            refine tr_q (d := some 80) rfl rfl rfl (.agg #[.int .i64 y1, .int .i64 (es.tmod 500), .int .i64 0, .int .i64 y2]) (fun w => by simp [execOp, Act.eval, Instr.build, go_sem]) ?_
            simp only [Act.put, List.setIfInBounds_toArray, List.set_cons_zero, List.set_cons_succ]
            refine tr_skip (d := none) rfl rfl rfl (yw.setCells sm 0 [.int .i64 y1, .int .i64 (es.tmod 500), .int .i64 0, .int .i64 y2]) (row_store_run _ _ rfl sm rfl [.int .i64 0, .int .i64 0, .int .i64 0, .int .i64 0] [.int .i64 y1, .int .i64 (es.tmod 500), .int .i64 0, .int .i64 y2] rfl M0.out rfl rowT_err (List.all_eq_true.1 rfl)) (fun h => by cases h) ?_
            simp only [Act.put, List.setIfInBounds_toArray, List.set_cons_zero, List.set_cons_succ]
            refine tr_end ?_
            have hap := apartR_setCells sm [.int .i64 y1, .int .i64 (es.tmod 500), .int .i64 0, .int .i64 y2] 0 yw
            exact ⟨rfl, [(71, .pointer (some ⟨w.heap.size + 2, 0, none⟩)), (72, .int .i64 en), (73, .int .i64 y1), (74, .pointer (some ⟨w.heap.size + 2, 1, none⟩)), (75, .int .i64 es), (76, .int .i64 (es.tmod 500)), (77, .pointer (some ⟨w.heap.size + 2, 3, none⟩)), (78, .int .i64 eq), (79, .int .i64 y2), (80, .agg #[.int .i64 y1, .int .i64 (es.tmod 500), .int .i64 0, .int .i64 y2]), (18, .pointer (some ⟨sm, 0, none⟩))], by simp only [List.foldl, Act.put, List.setIfInBounds_toArray, List.set_cons_zero, List.set_cons_succ], _, _, _, _, _, _, _, _, _, _, sm, y1, y2, es.tmod 500, rfl, hy1, hsx, L1.out.apart hap hsx, M0.out.setCells rfl⟩
        · obtain ⟨yw, hnw⟩ : ∃ y, y = wr.drew.alloc (.cells #[.int .i64 0, .int .i64 0, .int .i64 0, .int .i64 0] 31) := ⟨_, rfl⟩
          obtain ⟨sm, hsm⟩ : ∃ x, x = wr.drew.heap.size := ⟨_, rfl⟩
          have hb : Below wr.drew.heap.size wr.drew yw := by rw [hnw]; exact (Below.refl _ _).alloc (Nat.le_refl _) _
          have hsx : xb < sm := by have := L0.out.x.lt; omega
          have L1 := Lib.hid (L0.out.new hb)
          have M0 : Hid (RowAt yw sm [.int .i64 0, .int .i64 0, .int .i64 0, .int .i64 0]) := by unfold Hid; rw [hnw]; exact RowAt.new _ [.int .i64 0, .int .i64 0, .int .i64 0, .int .i64 0] (by simp) _ hsm.symm
          refine tr_run (d := some 18) rfl rfl rfl (.pointer (some ⟨sm, 0, none⟩)) yw (by rw [hnw, hsm]; simp [execOp, Act.eval, go_sem]) (fun _ => L1.out.box HEb.out.1 HEb.out.2) ?_
          simp only [Act.put, List.setIfInBounds_toArray, List.set_cons_zero, List.set_cons_succ]
          clear hb hnw hsm
          refine tr_call (d := some 73) rfl rfl rfl ⟨_, Tryz.func10, by kernel_rfl, by kernel_rfl⟩ _ _ _ rfl rfl [.int .i64 en, .int .i64 9] rfl (mod_any en 9 yw HV.out.2.2.2.2.1.1 (by omega)) ?_
          rintro e _ ⟨y1, hy1, rfl, rfl⟩
          refine ⟨_, rfl, fun _ => L1.out.box HEb.out.1 HEb.out.2, ?_⟩
          simp only [Act.put, List.setIfInBounds_toArray, List.set_cons_zero, List.set_cons_succ]
          refine tr_call (d := some 79) rfl rfl rfl ⟨_, Tryz.func10, by kernel_rfl, by kernel_rfl⟩ _ _ _ rfl rfl [.int .i64 eq, .int .i64 9000] rfl (mod_any eq 9000 yw HV.out.2.2.2.2.1.2.2.2 (by omega)) ?_
          rintro e _ ⟨y2, hy2, rfl, rfl⟩
          refine ⟨_, rfl, fun _ => L1.out.box HEb.out.1 HEb.out.2, ?_⟩
          simp only [Act.put, List.setIfInBounds_toArray, List.set_cons_zero, List.set_cons_succ]
          refine tr_q (d := some 80) rfl rfl rfl (.agg #[.int .i64 y1, .int .i64 (es.tmod 500), .int .i64 0, .int .i64 y2]) (fun w => by simp [execOp, Act.eval, Instr.build, go_sem]) ?_
          simp only [Act.put, List.setIfInBounds_toArray, List.set_cons_zero, List.set_cons_succ]
          refine tr_skip (d := none) rfl rfl rfl (yw.setCells sm 0 [.int .i64 y1, .int .i64 (es.tmod 500), .int .i64 0, .int .i64 y2]) (row_store_run _ _ rfl sm rfl [.int .i64 0, .int .i64 0, .int .i64 0, .int .i64 0] [.int .i64 y1, .int .i64 (es.tmod 500), .int .i64 0, .int .i64 y2] rfl M0.out rfl rowT_err (List.all_eq_true.1 rfl)) (fun h => by cases h) ?_
          simp only [Act.put, List.setIfInBounds_toArray, List.set_cons_zero, List.set_cons_succ]
          refine tr_end ?_
          have hap := apartR_setCells sm [.int .i64 y1, .int .i64 (es.tmod 500), .int .i64 0, .int .i64 y2] 0 yw
          exact ⟨rfl, [(71, .pointer (some ⟨w.heap.size + 2, 0, none⟩)), (72, .int .i64 en), (73, .int .i64 y1), (74, .pointer (some ⟨w.heap.size + 2, 1, none⟩)), (75, .int .i64 es), (76, .int .i64 (es.tmod 500)), (77, .pointer (some ⟨w.heap.size + 2, 3, none⟩)), (78, .int .i64 eq), (79, .int .i64 y2), (80, .agg #[.int .i64 y1, .int .i64 (es.tmod 500), .int .i64 0, .int .i64 y2]), (18, .pointer (some ⟨sm, 0, none⟩))], by simp only [List.foldl, Act.put, List.setIfInBounds_toArray, List.set_cons_zero, List.set_cons_succ], _, _, _, _, _, _, _, _, _, _, sm, y1, y2, es.tmod 500, rfl, hy1, hsx, L1.out.apart hap hsx, M0.out.setCells rfl⟩
      rintro ps wS ⟨u71, u72, u73, u74, u75, u76, u77, u78, u79, u80, sm, y1, y2, s1, rfl, hy1, hsm, hL, hM⟩
      have HLs := Lib.hid hL
      have HMs := Lib.hid hM
      clear hL hM L0
      simp only [List.foldl, Act.put, List.setIfInBounds_toArray, List.set_cons_zero, List.set_cons_succ]
      go_wp2_with fail
      have L0 := Lib.hid (HLs.out.new (Below.refl wS.heap.size wS).drew)
      have MS0 := Lib.hid (HMs.out.below (Below.refl wS.heap.size wS).drew)
      clear HLs HMs
      refine region_cutQ (fun ps W => ∃ (u81 u82 u83 u84 u85 u86 u87 u88 u89 u90 u91 u92 u93 : Value) (tb : Nat) (z1 z2 z3 z4 : Int), ps = [(81, u81), (82, u82), (83, u83), (84, u84), (85, u85), (86, u86), (87, u87), (88, u88), (89, u89), (90, u90), (91, u91), (92, u92), (93, u93), (19, .pointer (some ⟨tb, 0, none⟩))] ∧ Four z1 z2 z3 z4 ∧ xb < tb ∧ LS w w0 b xb g dl (cyC num ct (100 * cu) (.slice rva m rvc) rad rnd g cap (.slice fa fn fc)) W ∧ RowAt W tb [.int .i64 z1, .int .i64 z2, .int .i64 z3, .int .i64 z4] ∧ RowAt W sm [.int .i64 y1, .int .i64 s1, .int .i64 0, .int .i64 y2]) ?_ ?_
      · refine wp_region_tree (by kernel_rfl) (fun w' => RowAt w' (w.heap.size + 3) [.int .i64 th, .int .i64 ta, .int .i64 tm2, .int .i64 tox]) 14 (.q 0 0 (.q 1 1 (.q 3 0 (.q 4 1 (.q 6 0 (.q 7 1 (.q 9 0 (.q 10 1 (.fork (.e 2 (.fork (.e 5 (.fork (.e 8 (.fork (.e 11 (.q 12 0 (.e 13 (.e 14 (.nil))))) (.e 13 (.e 11 (.q 12 0 (.e 14 (.nil))))))) (.e 13 (.e 8 (.e 11 (.q 12 0 (.e 14 (.nil)))))))) (.e 13 (.e 5 (.e 8 (.e 11 (.q 12 0 (.e 14 (.nil))))))))) (.e 13 (.e 2 (.e 5 (.e 8 (.e 11 (.q 12 0 (.e 14 (.nil))))))))))))))))) (by kernel_rfl) (L0.out.box HTb.out.1 HTb.out.2) ?_
        refine tr_q (d := some 81) rfl rfl rfl (.pointer (some ⟨w.heap.size + 3, 0, none⟩)) (fun w => by go_simp) ?_
        simp only [Act.put, List.setIfInBounds_toArray, List.set_cons_zero, List.set_cons_succ]
        refine tr_s (d := some 82) rfl rfl rfl (.int .i64 th) (fun w hw => by have h := hw.at 0 rfl; simp [execOp, Act.eval, go_sem, h]) ?_
        simp only [Act.put, List.setIfInBounds_toArray, List.set_cons_zero, List.set_cons_succ]
        refine tr_q (d := some 84) rfl rfl rfl (.pointer (some ⟨w.heap.size + 3, 1, none⟩)) (fun w => by go_simp) ?_
        simp only [Act.put, List.setIfInBounds_toArray, List.set_cons_zero, List.set_cons_succ]
        refine tr_s (d := some 85) rfl rfl rfl (.int .i64 ta) (fun w hw => by have h := hw.at 1 rfl; simp [execOp, Act.eval, go_sem, h]) ?_
        simp only [Act.put, List.setIfInBounds_toArray, List.set_cons_zero, List.set_cons_succ]
        refine tr_q (d := some 87) rfl rfl rfl (.pointer (some ⟨w.heap.size + 3, 2, none⟩)) (fun w => by go_simp) ?_
        simp only [Act.put, List.setIfInBounds_toArray, List.set_cons_zero, List.set_cons_succ]
        refine tr_s (d := some 88) rfl rfl rfl (.int .i64 tm2) (fun w hw => by have h := hw.at 2 rfl; simp [execOp, Act.eval, go_sem, h]) ?_
        simp only [Act.put, List.setIfInBounds_toArray, List.set_cons_zero, List.set_cons_succ]
        refine tr_q (d := some 90) rfl rfl rfl (.pointer (some ⟨w.heap.size + 3, 3, none⟩)) (fun w => by go_simp) ?_
        simp only [Act.put, List.setIfInBounds_toArray, List.set_cons_zero, List.set_cons_succ]
        refine tr_s (d := some 91) rfl rfl rfl (.int .i64 tox) (fun w hw => by have h := hw.at 3 rfl; simp [execOp, Act.eval, go_sem, h]) ?_
        simp only [Act.put, List.setIfInBounds_toArray, List.set_cons_zero, List.set_cons_succ]
        refine tr_fork ?_ ?_
        · refine tr_call (d := some 83) rfl rfl rfl ⟨_, Tryz.func10, by kernel_rfl, by kernel_rfl⟩ _ _ _ rfl rfl [.int .i64 th, .int .i64 9] rfl (mod_any th 9 wS.drew HV.out.2.2.2.2.2.1.1 (by omega)) ?_
          rintro e _ ⟨z1, hz1, rfl, rfl⟩
          refine ⟨_, rfl, fun _ => L0.out.box HTb.out.1 HTb.out.2, ?_⟩
          simp only [Act.put, List.setIfInBounds_toArray, List.set_cons_zero, List.set_cons_succ]
          refine tr_fork ?_ ?_
          · refine tr_call (d := some 86) rfl rfl rfl ⟨_, Tryz.func10, by kernel_rfl, by kernel_rfl⟩ _ _ _ rfl rfl [.int .i64 ta, .int .i64 4] rfl (mod_any ta 4 wS.drew HV.out.2.2.2.2.2.1.2.1 (by omega)) ?_
            rintro e _ ⟨z2, hz2, rfl, rfl⟩
            refine ⟨_, rfl, fun _ => L0.out.box HTb.out.1 HTb.out.2, ?_⟩
            simp only [Act.put, List.setIfInBounds_toArray, List.set_cons_zero, List.set_cons_succ]
            refine tr_fork ?_ ?_
            · refine tr_call (d := some 89) rfl rfl rfl ⟨_, Tryz.func10, by kernel_rfl, by kernel_rfl⟩ _ _ _ rfl rfl [.int .i64 tm2, .int .i64 4] rfl (mod_any tm2 4 wS.drew HV.out.2.2.2.2.2.1.2.2.1 (by omega)) ?_
              rintro e _ ⟨z3, hz3, rfl, rfl⟩
              refine ⟨_, rfl, fun _ => L0.out.box HTb.out.1 HTb.out.2, ?_⟩
              simp only [Act.put, List.setIfInBounds_toArray, List.set_cons_zero, List.set_cons_succ]
              refine tr_fork ?_ ?_
              · refine tr_call (d := some 92) rfl rfl rfl ⟨_, Tryz.func10, by kernel_rfl, by kernel_rfl⟩ _ _ _ rfl rfl [.int .i64 tox, .int .i64 30] rfl (mod_any tox 30 wS.drew HV.out.2.2.2.2.2.1.2.2.2 (by omega)) ?_
                rintro e _ ⟨z4, hz4, rfl, rfl⟩
                refine ⟨_, rfl, fun _ => L0.out.box HTb.out.1 HTb.out.2, ?_⟩
                simp only [Act.put, List.setIfInBounds_toArray, List.set_cons_zero, List.set_cons_succ]
                refine tr_q (d := some 93) rfl rfl rfl (.agg #[.int .i64 z1, .int .i64 z2, .int .i64 z3, .int .i64 z4]) (fun w => by simp [execOp, Act.eval, Instr.build, go_sem]) ?_
                simp only [Act.put, List.setIfInBounds_toArray, List.set_cons_zero, List.set_cons_succ]
                obtain ⟨yw, hnw⟩ : ∃ y, y = wS.drew.alloc (.cells #[.int .i64 0, .int .i64 0, .int .i64 0, .int .i64 0] 33) := ⟨_, rfl⟩
                obtain ⟨tb, hsm⟩ : ∃ x, x = wS.drew.heap.size := ⟨_, rfl⟩
                have hb : Below wS.drew.heap.size wS.drew yw := by rw [hnw]; exact (Below.refl _ _).alloc (Nat.le_refl _) _
                have hsx : xb < tb := by have := L0.out.x.lt; omega
                have L1 := Lib.hid (L0.out.new hb)
                have M0 : Hid (RowAt yw tb [.int .i64 0, .int .i64 0, .int .i64 0, .int .i64 0]) := by unfold Hid; rw [hnw]; exact RowAt.new _ [.int .i64 0, .int .i64 0, .int .i64 0, .int .i64 0] (by simp) _ hsm.symm
                have hneMS : sm ≠ tb := by have := MS0.out.lt; omega
                have MS1 := Lib.hid (MS0.out.below hb)
                refine tr_run (d := some 19) rfl rfl rfl (.pointer (some ⟨tb, 0, none⟩)) yw (by rw [hnw, hsm]; simp [execOp, Act.eval, go_sem]) (fun _ => L1.out.box HTb.out.1 HTb.out.2) ?_
                simp only [Act.put, List.setIfInBounds_toArray, List.set_cons_zero, List.set_cons_succ]
                clear hb hnw hsm
                refine tr_skip (d := none) rfl rfl rfl (yw.setCells tb 0 [.int .i64 z1, .int .i64 z2, .int .i64 z3, .int .i64 z4]) (row_store_run _ _ rfl tb rfl [.int .i64 0, .int .i64 0, .int .i64 0, .int .i64 0] [.int .i64 z1, .int .i64 z2, .int .i64 z3, .int .i64 z4] rfl M0.out rfl rowT_tab (List.all_eq_true.1 rfl)) (fun h => by cases h) ?_
                simp only [Act.put, List.setIfInBounds_toArray, List.set_cons_zero, List.set_cons_succ]
                refine tr_end ?_
                have hap := apartR_setCells tb [.int .i64 z1, .int .i64 z2, .int .i64 z3, .int .i64 z4] 0 yw
                exact ⟨rfl, [(81, .pointer (some ⟨w.heap.size + 3, 0, none⟩)), (82, .int .i64 th), (83, .int .i64 z1), (84, .pointer (some ⟨w.heap.size + 3, 1, none⟩)), (85, .int .i64 ta), (86, .int .i64 z2), (87, .pointer (some ⟨w.heap.size + 3, 2, none⟩)), (88, .int .i64 tm2), (89, .int .i64 z3), (90, .pointer (some ⟨w.heap.size + 3, 3, none⟩)), (91, .int .i64 tox), (92, .int .i64 z4), (93, .agg #[.int .i64 z1, .int .i64 z2, .int .i64 z3, .int .i64 z4]), (19, .pointer (some ⟨tb, 0, none⟩))], by simp only [List.foldl, Act.put, List.setIfInBounds_toArray, List.set_cons_zero, List.set_cons_succ], _, _, _, _, _, _, _, _, _, _, _, _, _, tb, z1, z2, z3, z4, rfl, ⟨hz1, hz2, hz3, hz4⟩, hsx, L1.out.apart hap hsx, M0.out.setCells rfl, MS1.out.apart hap hneMS⟩
              · obtain ⟨yw, hnw⟩ : ∃ y, y = wS.drew.alloc (.cells #[.int .i64 0, .int .i64 0, .int .i64 0, .int .i64 0] 33) := ⟨_, rfl⟩
                obtain ⟨tb, hsm⟩ : ∃ x, x = wS.drew.heap.size := ⟨_, rfl⟩
                have hb : Below wS.drew.heap.size wS.drew yw := by rw [hnw]; exact (Below.refl _ _).alloc (Nat.le_refl _) _
                have hsx : xb < tb := by have := L0.out.x.lt; omega
                have L1 := Lib.hid (L0.out.new hb)
                have M0 : Hid (RowAt yw tb [.int .i64 0, .int .i64 0, .int .i64 0, .int .i64 0]) := by unfold Hid; rw [hnw]; exact RowAt.new _ [.int .i64 0, .int .i64 0, .int .i64 0, .int .i64 0] (by simp) _ hsm.symm
                have hneMS : sm ≠ tb := by have := MS0.out.lt; omega
                have MS1 := Lib.hid (MS0.out.below hb)
                refine tr_run (d := some 19) rfl rfl rfl (.pointer (some ⟨tb, 0, none⟩)) yw (by rw [hnw, hsm]; simp [execOp, Act.eval, go_sem]) (fun _ => L1.out.box HTb.out.1 HTb.out.2) ?_
                simp only [Act.put, List.setIfInBounds_toArray, List.set_cons_zero, List.set_cons_succ]
                clear hb hnw hsm
                refine tr_call (d := some 92) rfl rfl rfl ⟨_, Tryz.func10, by kernel_rfl, by kernel_rfl⟩ _ _ _ rfl rfl [.int .i64 tox, .int .i64 30] rfl (mod_any tox 30 yw HV.out.2.2.2.2.2.1.2.2.2 (by omega)) ?_
                rintro e _ ⟨z4, hz4, rfl, rfl⟩
                refine ⟨_, rfl, fun _ => L1.out.box HTb.out.1 HTb.out.2, ?_⟩
                simp only [Act.put, List.setIfInBounds_toArray, List.set_cons_zero, List.set_cons_succ]
                refine tr_q (d := some 93) rfl rfl rfl (.agg #[.int .i64 z1, .int .i64 z2, .int .i64 z3, .int .i64 z4]) (fun w => by simp [execOp, Act.eval, Instr.build, go_sem]) ?_
                simp only [Act.put, List.setIfInBounds_toArray, List.set_cons_zero, List.set_cons_succ]
                refine tr_skip (d := none) rfl rfl rfl (yw.setCells tb 0 [.int .i64 z1, .int .i64 z2, .int .i64 z3, .int .i64 z4]) (row_store_run _ _ rfl tb rfl [.int .i64 0, .int .i64 0, .int .i64 0, .int .i64 0] [.int .i64 z1, .int .i64 z2, .int .i64 z3, .int .i64 z4] rfl M0.out rfl rowT_tab (List.all_eq_true.1 rfl)) (fun h => by cases h) ?_
                simp only [Act.put, List.setIfInBounds_toArray, List.set_cons_zero, List.set_cons_succ]
                refine tr_end ?_
                have hap := apartR_setCells tb [.int .i64 z1, .int .i64 z2, .int .i64 z3, .int .i64 z4] 0 yw
                exact ⟨rfl, [(81, .pointer (some ⟨w.heap.size + 3, 0, none⟩)), (82, .int .i64 th), (83, .int .i64 z1), (84, .pointer (some ⟨w.heap.size + 3, 1, none⟩)), (85, .int .i64 ta), (86, .int .i64 z2), (87, .pointer (some ⟨w.heap.size + 3, 2, none⟩)), (88, .int .i64 tm2), (89, .int .i64 z3), (90, .pointer (some ⟨w.heap.size + 3, 3, none⟩)), (91, .int .i64 tox), (92, .int .i64 z4), (93, .agg #[.int .i64 z1, .int .i64 z2, .int .i64 z3, .int .i64 z4]), (19, .pointer (some ⟨tb, 0, none⟩))], by simp only [List.foldl, Act.put, List.setIfInBounds_toArray, List.set_cons_zero, List.set_cons_succ], _, _, _, _, _, _, _, _, _, _, _, _, _, tb, z1, z2, z3, z4, rfl, ⟨hz1, hz2, hz3, hz4⟩, hsx, L1.out.apart hap hsx, M0.out.setCells rfl, MS1.out.apart hap hneMS⟩
            · obtain ⟨yw, hnw⟩ : ∃ y, y = wS.drew.alloc (.cells #[.int .i64 0, .int .i64 0, .int .i64 0, .int .i64 0] 33) := ⟨_, rfl⟩
              obtain ⟨tb, hsm⟩ : ∃ x, x = wS.drew.heap.size := ⟨_, rfl⟩
              have hb : Below wS.drew.heap.size wS.drew yw := by rw [hnw]; exact (Below.refl _ _).alloc (Nat.le_refl _) _
              have hsx : xb < tb := by have := L0.out.x.lt; omega
              have L1 := Lib.hid (L0.out.new hb)
              have M0 : Hid (RowAt yw tb [.int .i64 0, .int .i64 0, .int .i64 0, .int .i64 0]) := by unfold Hid; rw [hnw]; exact RowAt.new _ [.int .i64 0, .int .i64 0, .int .i64 0, .int .i64 0] (by simp) _ hsm.symm
              have hneMS : sm ≠ tb := by have := MS0.out.lt; omega
              have MS1 := Lib.hid (MS0.out.below hb)
              refine tr_run (d := some 19) rfl rfl rfl (.pointer (some ⟨tb, 0, none⟩)) yw (by rw [hnw, hsm]; simp [execOp, Act.eval, go_sem]) (fun _ => L1.out.box HTb.out.1 HTb.out.2) ?_
              simp only [Act.put, List.setIfInBounds_toArray, List.set_cons_zero, List.set_cons_succ]
              clear hb hnw hsm
              refine tr_call (d := some 89) rfl rfl rfl ⟨_, Tryz.func10, by kernel_rfl, by kernel_rfl⟩ _ _ _ rfl rfl [.int .i64 tm2, .int .i64 4] rfl (mod_any tm2 4 yw HV.out.2.2.2.2.2.1.2.2.1 (by omega)) ?_
              rintro e _ ⟨z3, hz3, rfl, rfl⟩
              refine ⟨_, rfl, fun _ => L1.out.box HTb.out.1 HTb.out.2, ?_⟩
              simp only [Act.put, List.setIfInBounds_toArray, List.set_cons_zero, List.set_cons_succ]
              refine tr_call (d := some 92) rfl rfl rfl ⟨_, Tryz.func10, by kernel_rfl, by kernel_rfl⟩ _ _ _ rfl rfl [.int .i64 tox, .int .i64 30] rfl (mod_any tox 30 yw HV.out.2.2.2.2.2.1.2.2.2 (by omega)) ?_
              rintro e _ ⟨z4, hz4, rfl, rfl⟩
              refine ⟨_, rfl, fun _ => L1.out.box HTb.out.1 HTb.out.2, ?_⟩
              simp only [Act.put, List.setIfInBounds_toArray, List.set_cons_zero, List.set_cons_succ]
              refine tr_q (d := some 93) rfl rfl rfl (.agg #[.int .i64 z1, .int .i64 z2, .int .i64 z3, .int .i64 z4]) (fun w => by simp [execOp, Act.eval, Instr.build, go_sem]) ?_
              simp only [Act.put, List.setIfInBounds_toArray, List.set_cons_zero, List.set_cons_succ]
              refine tr_skip (d := none) rfl rfl rfl (yw.setCells tb 0 [.int .i64 z1, .int .i64 z2, .int .i64 z3, .int .i64 z4]) (row_store_run _ _ rfl tb rfl [.int .i64 0, .int .i64 0, .int .i64 0, .int .i64 0] [.int .i64 z1, .int .i64 z2, .int .i64 z3, .int .i64 z4] rfl M0.out rfl rowT_tab (List.all_eq_true.1 rfl)) (fun h => by cases h) ?_
              simp only [Act.put, List.setIfInBounds_toArray, List.set_cons_zero, List.set_cons_succ]
              refine tr_end ?_
              have hap := apartR_setCells tb [.int .i64 z1, .int .i64 z2, .int .i64 z3, .int .i64 z4] 0 yw
              exact ⟨rfl, [(81, .pointer (some ⟨w.heap.size + 3, 0, none⟩)), (82, .int .i64 th), (83, .int .i64 z1), (84, .pointer (some ⟨w.heap.size + 3, 1, none⟩)), (85, .int .i64 ta), (86, .int .i64 z2), (87, .pointer (some ⟨w.heap.size + 3, 2, none⟩)), (88, .int .i64 tm2), (89, .int .i64 z3), (90, .pointer (some ⟨w.heap.size + 3, 3, none⟩)), (91, .int .i64 tox), (92, .int .i64 z4), (93, .agg #[.int .i64 z1, .int .i64 z2, .int .i64 z3, .int .i64 z4]), (19, .pointer (some ⟨tb, 0, none⟩))], by simp only [List.foldl, Act.put, List.setIfInBounds_toArray, List.set_cons_zero, List.set_cons_succ], _, _, _, _, _, _, _, _, _, _, _, _, _, tb, z1, z2, z3, z4, rfl, ⟨hz1, hz2, hz3, hz4⟩, hsx, L1.out.apart hap hsx, M0.out.setCells rfl, MS1.out.apart hap hneMS⟩
          · obtain ⟨yw, hnw⟩ : ∃ y, y = wS.drew.alloc (.cells #[.int .i64 0, .int .i64 0, .int .i64 0, .int .i64 0] 33) := ⟨_, rfl⟩
            obtain ⟨tb, hsm⟩ : ∃ x, x = wS.drew.heap.size := ⟨_, rfl⟩
            have hb : Below wS.drew.heap.size wS.drew yw := by rw [hnw]; exact (Below.refl _ _).alloc (Nat.le_refl _) _
            have hsx : xb < tb := by have := L0.out.x.lt; omega
            have L1 := Lib.hid (L0.out.new hb)
            have M0 : Hid (RowAt yw tb [.int .i64 0, .int .i64 0, .int .i64 0, .int .i64 0]) := by unfold Hid; rw [hnw]; exact RowAt.new _ [.int .i64 0, .int .i64 0, .int .i64 0, .int .i64 0] (by simp) _ hsm.symm
            have hneMS : sm ≠ tb := by have := MS0.out.lt; omega
            have MS1 := Lib.hid (MS0.out.below hb)
            refine tr_run (d := some 19) rfl rfl rfl (.pointer (some ⟨tb, 0, none⟩)) yw (by rw [hnw, hsm]; simp [execOp, Act.eval, go_sem]) (fun _ => L1.out.box HTb.out.1 HTb.out.2) ?_
            simp only [Act.put, List.setIfInBounds_toArray, List.set_cons_zero, List.set_cons_succ]
            clear hb hnw hsm
            refine tr_call (d := some 86) rfl rfl rfl ⟨_, Tryz.func10, by kernel_rfl, by kernel_rfl⟩ _ _ _ rfl rfl [.int .i64 ta, .int .i64 4] rfl (mod_any ta 4 yw HV.out.2.2.2.2.2.1.2.1 (by omega)) ?_
            rintro e _ ⟨z2, hz2, rfl, rfl⟩
            refine ⟨_, rfl, fun _ => L1.out.box HTb.out.1 HTb.out.2, ?_⟩
            simp only [Act.put, List.setIfInBounds_toArray, List.set_cons_zero, List.set_cons_succ]
            refine tr_call (d := some 89) rfl rfl rfl ⟨_, Tryz.func10, by kernel_rfl, by kernel_rfl⟩ _ _ _ rfl rfl [.int .i64 tm2, .int .i64 4] rfl (mod_any tm2 4 yw HV.out.2.2.2.2.2.1.2.2.1 (by omega)) ?_
            rintro e _ ⟨z3, hz3, rfl, rfl⟩
            refine ⟨_, rfl, fun _ => L1.out.box HTb.out.1 HTb.out.2, ?_⟩
            simp only [Act.put, List.setIfInBounds_toArray, List.set_cons_zero, List.set_cons_succ]
            refine tr_call (d := some 92) rfl rfl rfl ⟨_, Tryz.func10, by kernel_rfl, by kernel_rfl⟩ _ _ _ rfl rfl [.int .i64 tox, .int .i64 30] rfl (mod_any tox 30 yw HV.out.2.2.2.2.2.1.2.2.2 (by omega)) ?_
            rintro e _ ⟨z4, hz4, rfl, rfl⟩
            refine ⟨_, rfl, fun _ => L1.out.box HTb.out.1 HTb.out.2, ?_⟩
            simp only [Act.put, List.setIfInBounds_toArray, List.set_cons_zero, List.set_cons_succ]
            refine tr_q (d := some 93) rfl rfl rfl (.agg #[.int .i64 z1, .int .i64 z2, .int .i64 z3, .int .i64 z4]) (fun w => by simp [execOp, Act.eval, Instr.build, go_sem]) ?_
            simp only [Act.put, List.setIfInBounds_toArray, List.set_cons_zero, List.set_cons_succ]
            refine tr_skip (d := none) rfl rfl rfl (yw.setCells tb 0 [.int .i64 z1, .int .i64 z2, .int .i64 z3, .int .i64 z4]) (row_store_run _ _ rfl tb rfl [.int .i64 0, .int .i64 0, .int .i64 0, .int .i64 0] [.int .i64 z1, .int .i64 z2, .int .i64 z3, .int .i64 z4] rfl M0.out rfl rowT_tab (List.all_eq_true.1 rfl)) (fun h => by cases h) ?_
            simp only [Act.put, List.setIfInBounds_toArray, List.set_cons_zero, List.set_cons_succ]
            refine tr_end ?_
            have hap := apartR_setCells tb [.int .i64 z1, .int .i64 z2, .int .i64 z3, .int .i64 z4] 0 yw
            exact ⟨rfl, [(81, .pointer (some ⟨w.heap.size + 3, 0, none⟩)), (82, .int .i64 th), (83, .int .i64 z1), (84, .pointer (some ⟨w.heap.size + 3, 1, none⟩)), (85, .int .i64 ta), (86, .int .i64 z2), (87, .pointer (some ⟨w.heap.size + 3, 2, none⟩)), (88, .int .i64 tm2), (89, .int .i64 z3), (90, .pointer (some ⟨w.heap.size + 3, 3, none⟩)), (91, .int .i64 tox), (92, .int .i64 z4), (93, .agg #[.int .i64 z1, .int .i64 z2, .int .i64 z3, .int .i64 z4]), (19, .pointer (some ⟨tb, 0, none⟩))], by simp only [List.foldl, Act.put, List.setIfInBounds_toArray, List.set_cons_zero, List.set_cons_succ], _, _, _, _, _, _, _, _, _, _, _, _, _, tb, z1, z2, z3, z4, rfl, ⟨hz1, hz2, hz3, hz4⟩, hsx, L1.out.apart hap hsx, M0.out.setCells rfl, MS1.out.apart hap hneMS⟩
        · obtain ⟨yw, hnw⟩ : ∃ y, y = wS.drew.alloc (.cells #[.int .i64 0, .int .i64 0, .int .i64 0, .int .i64 0] 33) := ⟨_, rfl⟩
          obtain ⟨tb, hsm⟩ : ∃ x, x = wS.drew.heap.size := ⟨_, rfl⟩
          have hb : Below wS.drew.heap.size wS.drew yw := by rw [hnw]; exact (Below.refl _ _).alloc (Nat.le_refl _) _
          have hsx : xb < tb := by have := L0.out.x.lt; omega
          have L1 := Lib.hid (L0.out.new hb)
          have M0 : Hid (RowAt yw tb [.int .i64 0, .int .i64 0, .int .i64 0, .int .i64 0]) := by unfold Hid; rw [hnw]; exact RowAt.new _ [.int .i64 0, .int .i64 0, .int .i64 0, .int .i64 0] (by simp) _ hsm.symm
          have hneMS : sm ≠ tb := by have := MS0.out.lt; omega
          have MS1 := Lib.hid (MS0.out.below hb)
          refine tr_run (d := some 19) rfl rfl rfl (.pointer (some ⟨tb, 0, none⟩)) yw (by rw [hnw, hsm]; simp [execOp, Act.eval, go_sem]) (fun _ => L1.out.box HTb.out.1 HTb.out.2) ?_
          simp only [Act.put, List.setIfInBounds_toArray, List.set_cons_zero, List.set_cons_succ]
          clear hb hnw hsm
          refine tr_call (d := some 83) rfl rfl rfl ⟨_, Tryz.func10, by kernel_rfl, by kernel_rfl⟩ _ _ _ rfl rfl [.int .i64 th, .int .i64 9] rfl (mod_any th 9 yw HV.out.2.2.2.2.2.1.1 (by omega)) ?_
          rintro e _ ⟨z1, hz1, rfl, rfl⟩
          refine ⟨_, rfl, fun _ => L1.out.box HTb.out.1 HTb.out.2, ?_⟩
          simp only [Act.put, List.setIfInBounds_toArray, List.set_cons_zero, List.set_cons_succ]
          refine tr_call (d := some 86) rfl rfl rfl ⟨_, Tryz.func10, by kernel_rfl, by kernel_rfl⟩ _ _ _ rfl rfl [.int .i64 ta, .int .i64 4] rfl (mod_any ta 4 yw HV.out.2.2.2.2.2.1.2.1 (by omega)) ?_
          rintro e _ ⟨z2, hz2, rfl, rfl⟩
          refine ⟨_, rfl, fun _ => L1.out.box HTb.out.1 HTb.out.2, ?_⟩
          simp only [Act.put, List.setIfInBounds_toArray, List.set_cons_zero, List.set_cons_succ]
          refine tr_call (d := some 89) rfl rfl rfl ⟨_, Tryz.func10, by kernel_rfl, by kernel_rfl⟩ _ _ _ rfl rfl [.int .i64 tm2, .int .i64 4] rfl (mod_any tm2 4 yw HV.out.2.2.2.2.2.1.2.2.1 (by omega)) ?_
          rintro e _ ⟨z3, hz3, rfl, rfl⟩
          refine ⟨_, rfl, fun _ => L1.out.box HTb.out.1 HTb.out.2, ?_⟩
          simp only [Act.put, List.setIfInBounds_toArray, List.set_cons_zero, List.set_cons_succ]
          refine tr_call (d := some 92) rfl rfl rfl ⟨_, Tryz.func10, by kernel_rfl, by kernel_rfl⟩ _ _ _ rfl rfl [.int .i64 tox, .int .i64 30] rfl (mod_any tox 30 yw HV.out.2.2.2.2.2.1.2.2.2 (by omega)) ?_
          rintro e _ ⟨z4, hz4, rfl, rfl⟩
          refine ⟨_, rfl, fun _ => L1.out.box HTb.out.1 HTb.out.2, ?_⟩
          simp only [Act.put, List.setIfInBounds_toArray, List.set_cons_zero, List.set_cons_succ]
          refine tr_q (d := some 93) rfl rfl rfl (.agg #[.int .i64 z1, .int .i64 z2, .int .i64 z3, .int .i64 z4]) (fun w => by simp [execOp, Act.eval, Instr.build, go_sem]) ?_
          simp only [Act.put, List.setIfInBounds_toArray, List.set_cons_zero, List.set_cons_succ]
          refine tr_skip (d := none) rfl rfl rfl (yw.setCells tb 0 [.int .i64 z1, .int .i64 z2, .int .i64 z3, .int .i64 z4]) (row_store_run _ _ rfl tb rfl [.int .i64 0, .int .i64 0, .int .i64 0, .int .i64 0] [.int .i64 z1, .int .i64 z2, .int .i64 z3, .int .i64 z4] rfl M0.out rfl rowT_tab (List.all_eq_true.1 rfl)) (fun h => by cases h) ?_
          simp only [Act.put, List.setIfInBounds_toArray, List.set_cons_zero, List.set_cons_succ]
          refine tr_end ?_
          have hap := apartR_setCells tb [.int .i64 z1, .int .i64 z2, .int .i64 z3, .int .i64 z4] 0 yw
          exact ⟨rfl, [(81, .pointer (some ⟨w.heap.size + 3, 0, none⟩)), (82, .int .i64 th), (83, .int .i64 z1), (84, .pointer (some ⟨w.heap.size + 3, 1, none⟩)), (85, .int .i64 ta), (86, .int .i64 z2), (87, .pointer (some ⟨w.heap.size + 3, 2, none⟩)), (88, .int .i64 tm2), (89, .int .i64 z3), (90, .pointer (some ⟨w.heap.size + 3, 3, none⟩)), (91, .int .i64 tox), (92, .int .i64 z4), (93, .agg #[.int .i64 z1, .int .i64 z2, .int .i64 z3, .int .i64 z4]), (19, .pointer (some ⟨tb, 0, none⟩))], by simp only [List.foldl, Act.put, List.setIfInBounds_toArray, List.set_cons_zero, List.set_cons_succ], _, _, _, _, _, _, _, _, _, _, _, _, _, tb, z1, z2, z3, z4, rfl, ⟨hz1, hz2, hz3, hz4⟩, hsx, L1.out.apart hap hsx, M0.out.setCells rfl, MS1.out.apart hap hneMS⟩
      rintro ps wT ⟨u81, u82, u83, u84, u85, u86, u87, u88, u89, u90, u91, u92, u93, tb, z1, z2, z3, z4, rfl, hz, htb, hL, hN, hM⟩
      have HLt := Lib.hid hL
      have HNt := Lib.hid hN
      have HMt := Lib.hid hM
      clear hL hN hM L0 MS0
      simp only [List.foldl, Act.put, List.setIfInBounds_toArray, List.set_cons_zero, List.set_cons_succ]
      have hxl : b < xb := by have := HLt.out.bb; have := HLt.out.lx; omega
      go_wp2_with fail
      refine (next_ok w.heap.size b 30 wT HLt.out.st.1 (by omega) (by omega)).mono ?_
      rintro e wV ⟨n3, n30, n31, rfl, hs⟩
      obtain ⟨n3, rfl⟩ := Int.eq_ofNat_of_zero_le n30
      have HLv := Lib.hid (HLt.out.call hs)
      have HNv := Lib.hid (HNt.out.but hs.2 (show tb ≠ b by omega))
      have HMv := Lib.hid (HMt.out.but hs.2 (show sm ≠ b by omega))
      clear hs HLt HNt HMt
      go_wp2_with fail
      refine (vector_ok w.heap.size b n3 4000000 4000000 wV HLv.out.st.1 (by omega) (by omega) (by omega) (by omega)).mono ?_
      rintro e wE ⟨vz, ol, rfl, hol, hob, hov, hs⟩
      subst hol
      have HLo2 := HLo.out
      have HFn : Hid (FN w w0 b xb g dl (cyC num ct (100 * cu) (.slice rva m rvc) rad rnd g cap (.slice fa fn fc)) sm tb [.int .i64 p, .int .i64 q] [.int .i64 kd, strV nm, .int .i64 tm, .int .i64 pf, .int .i64 pa, .int .i64 pb, .int .i64 pc, .slice ra rn rc] [.int .i64 en, .int .i64 es, .int .i64 ea, .int .i64 eq] [.int .i64 th, .int .i64 ta, .int .i64 tm2, .int .i64 tox] [.int .i64 y1, .int .i64 s1, .int .i64 0, .int .i64 y2] [.int .i64 z1, .int .i64 z2, .int .i64 z3, .int .i64 z4] wV.heap.size vz ol wE) := by
        have HLe := HLv.out.call hs
        have hq := HLo.out
        exact ⟨HLe, HLe.box HB2.out.f (by omega), HLe.box HB2.out.r (by omega), HLe.box HB2.out.e (by omega), HLe.box HB2.out.t (by omega), HMv.out.but hs.2 (show sm ≠ b by omega), HNv.out.but hs.2 (show tb ≠ b by omega), hov, hq, by omega, by omega, HLv.out.lt⟩
      obtain ⟨oa, oc, hvz⟩ := hov.slice
      have hoI : ∀ z ∈ ol, I64 z := fun z hz => by have := hob z hz; unfold I64; omega
      have HC0 := Lib.hid (HFn.out.new (Below.refl wE.heap.size wE).drew)
      clear HLv HMv HNv hov hs HFn HEb HTb HB2 HS0 hob
      rw [hvz]
      go_wp2_with fail
      refine wp_region_seq (by kernel_rfl) (fun w' => FN w w0 b xb g dl (cyC num ct (100 * cu) (.slice rva m rvc) rad rnd g cap (.slice fa fn fc)) sm tb [.int .i64 p, .int .i64 q] [.int .i64 kd, strV nm, .int .i64 tm, .int .i64 pf, .int .i64 pa, .int .i64 pb, .int .i64 pc, .slice ra rn rc] [.int .i64 en, .int .i64 es, .int .i64 ea, .int .i64 eq] [.int .i64 th, .int .i64 ta, .int .i64 tm2, .int .i64 tox] [.int .i64 y1, .int .i64 s1, .int .i64 0, .int .i64 y2] [.int .i64 z1, .int .i64 z2, .int .i64 z3, .int .i64 z4] wV.heap.size vz ol w') [(0, true), (2, true), (1, false), (3, false), (4, true), (5, true), (6, true), (8, true), (7, false), (9, false), (10, true), (11, true), (12, true), (13, true), (14, false), (15, false), (16, true), (17, true), (18, true), (19, true), (21, true), (20, false), (22, false), (23, true), (24, true), (25, true), (26, true), (28, true), (27, false), (29, false), (30, true), (31, true), (32, true), (33, true), (35, true), (34, false), (36, false), (37, true), (38, true), (39, true), (40, true), (42, true), (41, false), (43, false), (44, true), (45, true), (46, true), (47, true), (49, true), (48, false), (50, false), (51, true), (52, true), (53, true), (54, true), (56, true), (55, false), (57, false), (58, false), (59, true), (60, true), (61, true), (63, true), (62, false), (64, false), (65, false), (66, true), (67, true)] (by kernel_rfl) (HC0.out) ?_
      refine seq_q (d := some 98) rfl rfl rfl (.agg #[.int .i64 p, .int .i64 q]) (fun w hw => row_loadC hw.f rowT_fr _ rfl rfl) ?_
      simp only [Act.put, List.setIfInBounds_toArray, List.set_cons_zero, List.set_cons_succ]
      refine seq_q (d := some 100) rfl rfl rfl (.agg #[.int .i64 p, .int .i64 q]) (fun w hw => row_loadC hw.f rowT_fr _ rfl rfl) ?_
      simp only [Act.put, List.setIfInBounds_toArray, List.set_cons_zero, List.set_cons_succ]
      refine seq_call (d := some 99) rfl rfl rfl ⟨_, Tryz.func12, by kernel_rfl, by kernel_rfl⟩ _ _ _ rfl rfl [.agg #[.int .i64 p, .int .i64 q]] rfl (fraction_any p q HV.out.1 HV.out.2.1 wE.drew (HT.out.below HC0.out.ls.bel)) ?_
      rintro e f1 ⟨rfl, hb⟩
      have HC1 := Lib.hid (HC0.out.new hb)
      refine ⟨_, rfl, HC1.out, ?_⟩
      clear hb HC0
      simp only [Act.put, List.setIfInBounds_toArray, List.set_cons_zero, List.set_cons_succ]
      refine seq_call (d := some 101) rfl rfl rfl ⟨_, Tryz.func13, by kernel_rfl, by kernel_rfl⟩ _ _ _ rfl rfl [.agg #[.int .i64 p, .int .i64 q]] rfl (rfraction_any p q HV.out.1 HV.out.2.1 f1) ?_
      rintro e f2 ⟨rfl, hb⟩
      have HC2 := Lib.hid (HC1.out.new hb)
      refine ⟨_, rfl, HC2.out, ?_⟩
      clear hb HC1
      simp only [Act.put, List.setIfInBounds_toArray, List.set_cons_zero, List.set_cons_succ]
      refine seq_q (d := some 102) rfl rfl rfl (.bool true) (fun w _ => eql_run _ _ rfl (fracT p q) rfl rfl) ?_
      simp only [Act.put, List.setIfInBounds_toArray, List.set_cons_zero, List.set_cons_succ]
      refine seq_q (d := some 103) rfl rfl rfl (.bool true) (fun w _ => rfl) ?_
      simp only [Act.put, List.setIfInBounds_toArray, List.set_cons_zero, List.set_cons_succ]
      refine seq_q (d := some 104) rfl rfl rfl (.agg #[.int .i64 kd, strV nm, .int .i64 tm, .int .i64 pf, .int .i64 pa, .int .i64 pb, .int .i64 pc, .slice ra rn rc]) (fun w hw => row_loadC hw.r rowT_rep _ rfl rfl) ?_
      simp only [Act.put, List.setIfInBounds_toArray, List.set_cons_zero, List.set_cons_succ]
      refine seq_q (d := some 106) rfl rfl rfl (.agg #[.int .i64 kd, strV nm, .int .i64 tm, .int .i64 pf, .int .i64 pa, .int .i64 pb, .int .i64 pc, .slice ra rn rc]) (fun w hw => row_loadC hw.r rowT_rep _ rfl rfl) ?_
      simp only [Act.put, List.setIfInBounds_toArray, List.set_cons_zero, List.set_cons_succ]
      refine seq_call (d := some 105) rfl rfl rfl ⟨_, Tryz.func14, by kernel_rfl, by kernel_rfl⟩ _ _ _ rfl rfl [.agg #[.int .i64 kd, strV nm, .int .i64 tm, .int .i64 pf, .int .i64 pa, .int .i64 pb, .int .i64 pc, .slice ra rn rc]] rfl (report_any kd nm tm pf pa pb pc ra rn rc rl (by have := HLen.out.2.1; omega) (by have := HLen.out.1; have := HV.out.2.2.2.1; omega) HV.out.2.2.1 f2 (HT.out.below HC2.out.ls.bel) (HBn.out.below HC2.out.ls.bel) (HPr.out.at HC2.out.ls.bel HC2.out.ls.bel.size)) ?_
      rintro e f3 ⟨rfl, hb⟩
      have HC3 := Lib.hid (HC2.out.new hb)
      refine ⟨_, rfl, HC3.out, ?_⟩
      clear hb HC2
      simp only [Act.put, List.setIfInBounds_toArray, List.set_cons_zero, List.set_cons_succ]
      refine seq_call (d := some 107) rfl rfl rfl ⟨_, Tryz.func15, by kernel_rfl, by kernel_rfl⟩ _ _ _ rfl rfl [.agg #[.int .i64 kd, strV nm, .int .i64 tm, .int .i64 pf, .int .i64 pa, .int .i64 pb, .int .i64 pc, .slice ra rn rc]] rfl (rreport_any kd nm tm pf pa pb pc ra rn rc rl (by have := HLen.out.2.1; omega) (by have := HLen.out.1; have := HV.out.2.2.2.1; omega) HV.out.2.2.1 f3 (HPr.out.at HC3.out.ls.bel HC3.out.ls.bel.size)) ?_
      rintro e f4 ⟨rfl, hb⟩
      have HC4 := Lib.hid (HC3.out.new hb)
      refine ⟨_, rfl, HC4.out, ?_⟩
      clear hb HC3
      simp only [Act.put, List.setIfInBounds_toArray, List.set_cons_zero, List.set_cons_succ]
      refine seq_q (d := some 108) rfl rfl rfl (.bool true) (fun w _ => eql_run _ _ rfl (repT kd nm tm rl) rfl rfl) ?_
      simp only [Act.put, List.setIfInBounds_toArray, List.set_cons_zero, List.set_cons_succ]
      refine seq_q (d := some 109) rfl rfl rfl (.bool true) (fun w _ => by simp [execOp, Act.eval, go_sem]) ?_
      simp only [Act.put, List.setIfInBounds_toArray, List.set_cons_zero, List.set_cons_succ]
      refine seq_q (d := some 110) rfl rfl rfl (.bool true) (fun w _ => rfl) ?_
      simp only [Act.put, List.setIfInBounds_toArray, List.set_cons_zero, List.set_cons_succ]
      refine seq_q (d := some 111) rfl rfl rfl (.pointer (some ⟨b, 0, none⟩)) (fun w _ => rfl) ?_
      simp only [Act.put, List.setIfInBounds_toArray, List.set_cons_zero, List.set_cons_succ]
      refine seq_call (d := some 112) rfl rfl rfl ⟨_, Tryz.func9, by kernel_rfl, by kernel_rfl⟩ _ _ _ rfl rfl [.pointer (some ⟨b, 0, none⟩)] rfl (obs_ok w.heap.size b f4 HC4.out.ls.st.1) ?_
      rintro e f5 ⟨qk, qn, qt, qf, qp, qq, qr, qa, qc, qe, ql, rfl, hq5, hq2, hqv, hqP, _, hs⟩
      have HC5 := Lib.hid (HC4.out.call hs)
      refine ⟨_, rfl, HC5.out, ?_⟩
      clear hs HC4
      simp only [Act.put, List.setIfInBounds_toArray, List.set_cons_zero, List.set_cons_succ]
      refine seq_call (d := some 113) rfl rfl rfl ⟨_, Tryz.func14, by kernel_rfl, by kernel_rfl⟩ _ _ _ rfl rfl [.agg (repC qk qn qt qf qp qq qr (.slice qa qc qe)).toArray] rfl (report_any qk qn qt qf qp qq qr qa qc qe ql (by omega) (by omega) hqv f5 (HT.out.below HC5.out.ls.bel) (HBn.out.below HC5.out.ls.bel) hqP) ?_
      rintro e f6 ⟨rfl, hb⟩
      have HC6 := Lib.hid (HC5.out.new hb)
      refine ⟨_, rfl, HC6.out, ?_⟩
      clear hb HC5
      simp only [Act.put, List.setIfInBounds_toArray, List.set_cons_zero, List.set_cons_succ]
      refine seq_q (d := some 114) rfl rfl rfl (.bool true) (fun w _ => neq_run _ rfl (repT qk qn qt ql) (repT_ne _ _ _ _) rfl) ?_
      simp only [Act.put, List.setIfInBounds_toArray, List.set_cons_zero, List.set_cons_succ]
      refine seq_q (d := some 115) rfl rfl rfl (.bool true) (fun w _ => by simp [execOp, Act.eval, go_sem]) ?_
      simp only [Act.put, List.setIfInBounds_toArray, List.set_cons_zero, List.set_cons_succ]
      refine seq_q (d := some 116) rfl rfl rfl (.bool true) (fun w _ => rfl) ?_
      simp only [Act.put, List.setIfInBounds_toArray, List.set_cons_zero, List.set_cons_succ]
      refine seq_q (d := some 117) rfl rfl rfl (.agg #[.int .i64 num, .int .i64 ct, .int .i64 (100 * cu), .slice rva m rvc, .slice none 0 0, .slice none 0 0, .slice none 0 0, .int .i64 0, .int .u64 0, .int .i64 0, .int .i64 rad, .int .i64 rnd, .int .i64 1, .slice (some ⟨g, 0, none⟩) 12 cap, .slice fa fn fc, .slice none 0 0, .slice none 0 0]) (fun w hw => row_loadC hw.ls.x rowT_cyc _ rfl rfl) ?_
      simp only [Act.put, List.setIfInBounds_toArray, List.set_cons_zero, List.set_cons_succ]
      refine seq_q (d := some 119) rfl rfl rfl (.agg #[.int .i64 num, .int .i64 ct, .int .i64 (100 * cu), .slice rva m rvc, .slice none 0 0, .slice none 0 0, .slice none 0 0, .int .i64 0, .int .u64 0, .int .i64 0, .int .i64 rad, .int .i64 rnd, .int .i64 1, .slice (some ⟨g, 0, none⟩) 12 cap, .slice fa fn fc, .slice none 0 0, .slice none 0 0]) (fun w hw => row_loadC hw.ls.x rowT_cyc _ rfl rfl) ?_
      simp only [Act.put, List.setIfInBounds_toArray, List.set_cons_zero, List.set_cons_succ]
      refine seq_call (d := some 118) rfl rfl rfl ⟨_, Tryz.func16, by kernel_rfl, by kernel_rfl⟩ _ _ _ rfl rfl [.agg #[.int .i64 num, .int .i64 ct, .int .i64 (100 * cu), .slice rva m rvc, .slice none 0 0, .slice none 0 0, .slice none 0 0, .int .i64 0, .int .u64 0, .int .i64 0, .int .i64 rad, .int .i64 rnd, .int .i64 1, .slice (some ⟨g, 0, none⟩) 12 cap, .slice fa fn fc, .slice none 0 0, .slice none 0 0]] rfl (cycle_any num ct (100 * cu) rad rnd 1 rva (some ⟨g, 0, none⟩) fa m rvc 12 cap fn fc dl HV.out.2.2.2.2.2.2.2.2 HRad.out (by unfold I64; omega) (by omega) f6 (HT.out.below HC6.out.ls.bel) (HC6.out.ls.mass HD.out.1 HD.out.2.2 HD.out.2.1)) ?_
      rintro e f7 ⟨rfl, hb⟩
      have HC7 := Lib.hid (HC6.out.new hb)
      refine ⟨_, rfl, HC7.out, ?_⟩
      clear hb HC6
      simp only [Act.put, List.setIfInBounds_toArray, List.set_cons_zero, List.set_cons_succ]
      refine seq_call (d := some 120) rfl rfl rfl ⟨_, Tryz.func17, by kernel_rfl, by kernel_rfl⟩ _ _ _ rfl rfl [.agg #[.int .i64 num, .int .i64 ct, .int .i64 (100 * cu), .slice rva m rvc, .slice none 0 0, .slice none 0 0, .slice none 0 0, .int .i64 0, .int .u64 0, .int .i64 0, .int .i64 rad, .int .i64 rnd, .int .i64 1, .slice (some ⟨g, 0, none⟩) 12 cap, .slice fa fn fc, .slice none 0 0, .slice none 0 0]] rfl (rcycle_any num ct (100 * cu) rad rnd 1 rva (some ⟨g, 0, none⟩) fa m rvc 12 cap fn fc dl HV.out.2.2.2.2.2.2.2.2 HRad.out (by unfold I64; omega) (by omega) f7 (HC7.out.ls.mass HD.out.1 HD.out.2.2 HD.out.2.1)) ?_
      rintro e f8 ⟨rfl, hb⟩
      have HC8 := Lib.hid (HC7.out.new hb)
      refine ⟨_, rfl, HC8.out, ?_⟩
      clear hb HC7
      simp only [Act.put, List.setIfInBounds_toArray, List.set_cons_zero, List.set_cons_succ]
      refine seq_q (d := some 121) rfl rfl rfl (.bool true) (fun w _ => eql_run _ _ rfl (cycT num ct (100 * cu) m rnd rad dl) rfl rfl) ?_
      simp only [Act.put, List.setIfInBounds_toArray, List.set_cons_zero, List.set_cons_succ]
      refine seq_q (d := some 122) rfl rfl rfl (.bool true) (fun w _ => by simp [execOp, Act.eval, go_sem]) ?_
      simp only [Act.put, List.setIfInBounds_toArray, List.set_cons_zero, List.set_cons_succ]
      refine seq_q (d := some 123) rfl rfl rfl (.bool true) (fun w _ => rfl) ?_
      simp only [Act.put, List.setIfInBounds_toArray, List.set_cons_zero, List.set_cons_succ]
      refine seq_q (d := some 124) rfl rfl rfl (.agg #[.int .i64 en, .int .i64 es, .int .i64 ea, .int .i64 eq]) (fun w hw => row_loadC hw.e rowT_err _ rfl rfl) ?_
      simp only [Act.put, List.setIfInBounds_toArray, List.set_cons_zero, List.set_cons_succ]
      refine seq_q (d := some 126) rfl rfl rfl (.agg #[.int .i64 en, .int .i64 es, .int .i64 ea, .int .i64 eq]) (fun w hw => row_loadC hw.e rowT_err _ rfl rfl) ?_
      simp only [Act.put, List.setIfInBounds_toArray, List.set_cons_zero, List.set_cons_succ]
      refine seq_call (d := some 125) rfl rfl rfl ⟨_, Tryz.func18, by kernel_rfl, by kernel_rfl⟩ _ _ _ rfl rfl [.agg #[.int .i64 en, .int .i64 es, .int .i64 ea, .int .i64 eq]] rfl (errors_any en es ea eq HV.out.2.2.2.2.1.1 f8 (HT.out.below HC8.out.ls.bel)) ?_
      rintro e f9 ⟨rfl, hb⟩
      have HC9 := Lib.hid (HC8.out.new hb)
      refine ⟨_, rfl, HC9.out, ?_⟩
      clear hb HC8
      simp only [Act.put, List.setIfInBounds_toArray, List.set_cons_zero, List.set_cons_succ]
      refine seq_call (d := some 127) rfl rfl rfl ⟨_, Tryz.func19, by kernel_rfl, by kernel_rfl⟩ _ _ _ rfl rfl [.agg #[.int .i64 en, .int .i64 es, .int .i64 ea, .int .i64 eq]] rfl (rerrors_any en es ea eq HV.out.2.2.2.2.1.1 f9) ?_
      rintro e f10 ⟨rfl, hb⟩
      have HC10 := Lib.hid (HC9.out.new hb)
      refine ⟨_, rfl, HC10.out, ?_⟩
      clear hb HC9
      simp only [Act.put, List.setIfInBounds_toArray, List.set_cons_zero, List.set_cons_succ]
      refine seq_q (d := some 128) rfl rfl rfl (.bool true) (fun w _ => eql_run _ _ rfl (errT en es eq) rfl rfl) ?_
      simp only [Act.put, List.setIfInBounds_toArray, List.set_cons_zero, List.set_cons_succ]
      refine seq_q (d := some 129) rfl rfl rfl (.bool true) (fun w _ => by simp [execOp, Act.eval, go_sem]) ?_
      simp only [Act.put, List.setIfInBounds_toArray, List.set_cons_zero, List.set_cons_succ]
      refine seq_q (d := some 130) rfl rfl rfl (.bool true) (fun w _ => rfl) ?_
      simp only [Act.put, List.setIfInBounds_toArray, List.set_cons_zero, List.set_cons_succ]
      refine seq_q (d := some 131) rfl rfl rfl (.agg #[.int .i64 y1, .int .i64 s1, .int .i64 0, .int .i64 y2]) (fun w hw => row_loadC hw.s rowT_err _ rfl rfl) ?_
      simp only [Act.put, List.setIfInBounds_toArray, List.set_cons_zero, List.set_cons_succ]
      refine seq_q (d := some 133) rfl rfl rfl (.agg #[.int .i64 y1, .int .i64 s1, .int .i64 0, .int .i64 y2]) (fun w hw => row_loadC hw.s rowT_err _ rfl rfl) ?_
      simp only [Act.put, List.setIfInBounds_toArray, List.set_cons_zero, List.set_cons_succ]
      refine seq_call (d := some 132) rfl rfl rfl ⟨_, Tryz.func18, by kernel_rfl, by kernel_rfl⟩ _ _ _ rfl rfl [.agg #[.int .i64 y1, .int .i64 s1, .int .i64 0, .int .i64 y2]] rfl (errors_any y1 s1 0 y2 hy1 f10 (HT.out.below HC10.out.ls.bel)) ?_
      rintro e f11 ⟨rfl, hb⟩
      have HC11 := Lib.hid (HC10.out.new hb)
      refine ⟨_, rfl, HC11.out, ?_⟩
      clear hb HC10
      simp only [Act.put, List.setIfInBounds_toArray, List.set_cons_zero, List.set_cons_succ]
      refine seq_call (d := some 134) rfl rfl rfl ⟨_, Tryz.func19, by kernel_rfl, by kernel_rfl⟩ _ _ _ rfl rfl [.agg #[.int .i64 y1, .int .i64 s1, .int .i64 0, .int .i64 y2]] rfl (rerrors_any y1 s1 0 y2 hy1 f11) ?_
      rintro e f12 ⟨rfl, hb⟩
      have HC12 := Lib.hid (HC11.out.new hb)
      refine ⟨_, rfl, HC12.out, ?_⟩
      clear hb HC11
      simp only [Act.put, List.setIfInBounds_toArray, List.set_cons_zero, List.set_cons_succ]
      refine seq_q (d := some 135) rfl rfl rfl (.bool true) (fun w _ => eql_run _ _ rfl (errT y1 s1 y2) rfl rfl) ?_
      simp only [Act.put, List.setIfInBounds_toArray, List.set_cons_zero, List.set_cons_succ]
      refine seq_q (d := some 136) rfl rfl rfl (.bool true) (fun w _ => by simp [execOp, Act.eval, go_sem]) ?_
      simp only [Act.put, List.setIfInBounds_toArray, List.set_cons_zero, List.set_cons_succ]
      refine seq_q (d := some 137) rfl rfl rfl (.bool true) (fun w _ => rfl) ?_
      simp only [Act.put, List.setIfInBounds_toArray, List.set_cons_zero, List.set_cons_succ]
      refine seq_q (d := some 138) rfl rfl rfl (.agg #[.int .i64 th, .int .i64 ta, .int .i64 tm2, .int .i64 tox]) (fun w hw => row_loadC hw.t rowT_tab _ rfl rfl) ?_
      simp only [Act.put, List.setIfInBounds_toArray, List.set_cons_zero, List.set_cons_succ]
      refine seq_q (d := some 140) rfl rfl rfl (.agg #[.int .i64 th, .int .i64 ta, .int .i64 tm2, .int .i64 tox]) (fun w hw => row_loadC hw.t rowT_tab _ rfl rfl) ?_
      simp only [Act.put, List.setIfInBounds_toArray, List.set_cons_zero, List.set_cons_succ]
      refine seq_call (d := some 139) rfl rfl rfl ⟨_, Tryz.func20, by kernel_rfl, by kernel_rfl⟩ _ _ _ rfl rfl [.agg #[.int .i64 th, .int .i64 ta, .int .i64 tm2, .int .i64 tox]] rfl (table_any th ta tm2 tox HV.out.2.2.2.2.2.1 f12 (HT.out.below HC12.out.ls.bel)) ?_
      rintro e f13 ⟨rfl, hb⟩
      have HC13 := Lib.hid (HC12.out.new hb)
      refine ⟨_, rfl, HC13.out, ?_⟩
      clear hb HC12
      simp only [Act.put, List.setIfInBounds_toArray, List.set_cons_zero, List.set_cons_succ]
      refine seq_call (d := some 141) rfl rfl rfl ⟨_, Tryz.func21, by kernel_rfl, by kernel_rfl⟩ _ _ _ rfl rfl [.agg #[.int .i64 th, .int .i64 ta, .int .i64 tm2, .int .i64 tox]] rfl (rtable_any th ta tm2 tox HV.out.2.2.2.2.2.1 f13) ?_
      rintro e f14 ⟨rfl, hb⟩
      have HC14 := Lib.hid (HC13.out.new hb)
      refine ⟨_, rfl, HC14.out, ?_⟩
      clear hb HC13
      simp only [Act.put, List.setIfInBounds_toArray, List.set_cons_zero, List.set_cons_succ]
      refine seq_q (d := some 142) rfl rfl rfl (.bool true) (fun w _ => eql_run _ _ rfl (tabT th ta tm2 tox 4) rfl rfl) ?_
      simp only [Act.put, List.setIfInBounds_toArray, List.set_cons_zero, List.set_cons_succ]
      refine seq_q (d := some 143) rfl rfl rfl (.bool true) (fun w _ => by simp [execOp, Act.eval, go_sem]) ?_
      simp only [Act.put, List.setIfInBounds_toArray, List.set_cons_zero, List.set_cons_succ]
      refine seq_q (d := some 144) rfl rfl rfl (.bool true) (fun w _ => rfl) ?_
      simp only [Act.put, List.setIfInBounds_toArray, List.set_cons_zero, List.set_cons_succ]
      refine seq_q (d := some 145) rfl rfl rfl (.agg #[.int .i64 z1, .int .i64 z2, .int .i64 z3, .int .i64 z4]) (fun w hw => row_loadC hw.n rowT_tab _ rfl rfl) ?_
      simp only [Act.put, List.setIfInBounds_toArray, List.set_cons_zero, List.set_cons_succ]
      refine seq_q (d := some 147) rfl rfl rfl (.agg #[.int .i64 z1, .int .i64 z2, .int .i64 z3, .int .i64 z4]) (fun w hw => row_loadC hw.n rowT_tab _ rfl rfl) ?_
      simp only [Act.put, List.setIfInBounds_toArray, List.set_cons_zero, List.set_cons_succ]
      refine seq_call (d := some 146) rfl rfl rfl ⟨_, Tryz.func20, by kernel_rfl, by kernel_rfl⟩ _ _ _ rfl rfl [.agg #[.int .i64 z1, .int .i64 z2, .int .i64 z3, .int .i64 z4]] rfl (table_any z1 z2 z3 z4 hz f14 (HT.out.below HC14.out.ls.bel)) ?_
      rintro e f15 ⟨rfl, hb⟩
      have HC15 := Lib.hid (HC14.out.new hb)
      refine ⟨_, rfl, HC15.out, ?_⟩
      clear hb HC14
      simp only [Act.put, List.setIfInBounds_toArray, List.set_cons_zero, List.set_cons_succ]
      refine seq_call (d := some 148) rfl rfl rfl ⟨_, Tryz.func21, by kernel_rfl, by kernel_rfl⟩ _ _ _ rfl rfl [.agg #[.int .i64 z1, .int .i64 z2, .int .i64 z3, .int .i64 z4]] rfl (rtable_any z1 z2 z3 z4 hz f15) ?_
      rintro e f16 ⟨rfl, hb⟩
      have HC16 := Lib.hid (HC15.out.new hb)
      refine ⟨_, rfl, HC16.out, ?_⟩
      clear hb HC15
      simp only [Act.put, List.setIfInBounds_toArray, List.set_cons_zero, List.set_cons_succ]
      refine seq_q (d := some 149) rfl rfl rfl (.bool true) (fun w _ => eql_run _ _ rfl (tabT z1 z2 z3 z4 4) rfl rfl) ?_
      simp only [Act.put, List.setIfInBounds_toArray, List.set_cons_zero, List.set_cons_succ]
      refine seq_q (d := some 150) rfl rfl rfl (.bool true) (fun w _ => by simp [execOp, Act.eval, go_sem]) ?_
      simp only [Act.put, List.setIfInBounds_toArray, List.set_cons_zero, List.set_cons_succ]
      refine seq_q (d := some 151) rfl rfl rfl (.bool true) (fun w _ => rfl) ?_
      simp only [Act.put, List.setIfInBounds_toArray, List.set_cons_zero, List.set_cons_succ]
      refine seq_q (d := some 152) rfl rfl rfl (.slice va vn vc) (fun w _ => rfl) ?_
      simp only [Act.put, List.setIfInBounds_toArray, List.set_cons_zero, List.set_cons_succ]
      refine seq_q (d := some 154) rfl rfl rfl (.slice va vn vc) (fun w _ => rfl) ?_
      simp only [Act.put, List.setIfInBounds_toArray, List.set_cons_zero, List.set_cons_succ]
      refine seq_call (d := some 153) rfl rfl rfl ⟨_, Tryz.func23, by kernel_rfl, by kernel_rfl⟩ _ _ _ rfl rfl [.slice va vn vc] rfl (map_any (.slice va vn vc) zs f16 (HT.out.below HC16.out.ls.bel) ((HIn.out.below HC16.out.ls.bel).up HC16.out.ls.bel.size) HV.out.2.2.2.2.2.2.1 (by have := HLen.out.2.2; have := HV.out.2.2.2.2.2.2.2.1; omega)) ?_
      rintro e f17 ⟨mv1, rfl, hm1, hb⟩
      have HM1 := Lib.hid (newMap_own hm1)
      clear hm1
      have HC17 := Lib.hid (HC16.out.new hb)
      refine ⟨_, rfl, HC17.out, ?_⟩
      clear hb HC16
      simp only [Act.put, List.setIfInBounds_toArray, List.set_cons_zero, List.set_cons_succ]
      refine seq_call (d := some 155) rfl rfl rfl ⟨_, Tryz.func24, by kernel_rfl, by kernel_rfl⟩ _ _ _ rfl rfl [.slice va vn vc] rfl (rmap_any va vn vc zs f17 ((HIn.out.below HC17.out.ls.bel).up HC17.out.ls.bel.size) HV.out.2.2.2.2.2.2.1 (by have := HLen.out.2.2; have := HV.out.2.2.2.2.2.2.2.1; omega)) ?_
      rintro e f18 ⟨mv2, rfl, hm2, hb⟩
      have HM1b := Lib.hid (HM1.out.below hb)
      have HM2 := Lib.hid hm2
      clear hm2 HM1
      have HC18 := Lib.hid (HC17.out.new hb)
      refine ⟨_, rfl, HC18.out, ?_⟩
      clear hb HC17
      simp only [Act.put, List.setIfInBounds_toArray, List.set_cons_zero, List.set_cons_succ]
      refine seq_call (d := some 156) rfl rfl rfl ⟨_, Tryz.func22, by kernel_rfl, by kernel_rfl⟩ _ _ _ rfl rfl [mv1, mv2] rfl (same_any mv1 mv2 _ _ (lns zs) (by rw [lns_len]; have := HLen.out.2.2; have := HV.out.2.2.2.2.2.2.2.1; omega) f18 HM1b.out HM2.out) ?_
      rintro e f19 ⟨rfl, hb⟩
      have HC19 := Lib.hid (HC18.out.new hb)
      refine ⟨_, rfl, HC19.out, ?_⟩
      clear hb HC18
      simp only [Act.put, List.setIfInBounds_toArray, List.set_cons_zero, List.set_cons_succ]
      refine seq_q (d := some 157) rfl rfl rfl (.bool true) (fun w _ => by simp [execOp, Act.eval, go_sem]) ?_
      simp only [Act.put, List.setIfInBounds_toArray, List.set_cons_zero, List.set_cons_succ]
      refine seq_q (d := some 158) rfl rfl rfl (.bool true) (fun w _ => rfl) ?_
      simp only [Act.put, List.setIfInBounds_toArray, List.set_cons_zero, List.set_cons_succ]
      refine seq_q (d := some 159) rfl rfl rfl (.slice oa ol.length oc) (fun w _ => rfl) ?_
      simp only [Act.put, List.setIfInBounds_toArray, List.set_cons_zero, List.set_cons_succ]
      refine seq_q (d := some 161) rfl rfl rfl (.slice oa ol.length oc) (fun w _ => rfl) ?_
      simp only [Act.put, List.setIfInBounds_toArray, List.set_cons_zero, List.set_cons_succ]
      refine seq_call (d := some 160) rfl rfl rfl ⟨_, Tryz.func23, by kernel_rfl, by kernel_rfl⟩ _ _ _ rfl rfl [.slice oa ol.length oc] rfl (map_any (.slice oa ol.length oc) ol f19 (HT.out.below HC19.out.ls.bel) (hvz ▸ OwnI.ints HC19.out.ov (by omega)) hoI (by omega)) ?_
      rintro e f20 ⟨mv3, rfl, hm1, hb⟩
      have HM3 := Lib.hid (newMap_own hm1)
      clear hm1
      have HC20 := Lib.hid (HC19.out.new hb)
      refine ⟨_, rfl, HC20.out, ?_⟩
      clear hb HC19
      simp only [Act.put, List.setIfInBounds_toArray, List.set_cons_zero, List.set_cons_succ]
      refine seq_call (d := some 162) rfl rfl rfl ⟨_, Tryz.func24, by kernel_rfl, by kernel_rfl⟩ _ _ _ rfl rfl [.slice oa ol.length oc] rfl (rmap_any oa ol.length oc ol f20 (hvz ▸ OwnI.ints HC20.out.ov (by omega)) hoI (by omega)) ?_
      rintro e f21 ⟨mv4, rfl, hm2, hb⟩
      have HM3b := Lib.hid (HM3.out.below hb)
      have HM4 := Lib.hid hm2
      clear hm2 HM3
      have HC21 := Lib.hid (HC20.out.new hb)
      refine ⟨_, rfl, HC21.out, ?_⟩
      clear hb HC20
      simp only [Act.put, List.setIfInBounds_toArray, List.set_cons_zero, List.set_cons_succ]
      refine seq_call (d := some 163) rfl rfl rfl ⟨_, Tryz.func22, by kernel_rfl, by kernel_rfl⟩ _ _ _ rfl rfl [mv3, mv4] rfl (same_any mv3 mv4 _ _ (lns ol) (by rw [lns_len]; omega) f21 HM3b.out HM4.out) ?_
      rintro e f22 ⟨rfl, hb⟩
      have HC22 := Lib.hid (HC21.out.new hb)
      refine ⟨_, rfl, HC22.out, ?_⟩
      clear hb HC21
      simp only [Act.put, List.setIfInBounds_toArray, List.set_cons_zero, List.set_cons_succ]
      refine seq_q (d := some 164) rfl rfl rfl (.bool true) (fun w _ => by simp [execOp, Act.eval, go_sem]) ?_
      simp only [Act.put, List.setIfInBounds_toArray, List.set_cons_zero, List.set_cons_succ]
      refine seq_q (d := some 14) rfl rfl rfl (.bool true) (fun w _ => rfl) ?_
      simp only [Act.put, List.setIfInBounds_toArray, List.set_cons_zero, List.set_cons_succ]
      refine seq_end ?_
      go_wp2_with fail
      go_ret
      exact ⟨rfl, HC22.out.ls.bel⟩
end Go.Proofs.YtmmmebdgannpgaaGreatDoor
/- What the row of MonitorTexts gives at its first world, how its arguments open, and the last step of the row. No conditions. -/
namespace Go.Proofs.YtmmmebdgannpgaaGreatDoor
open Go Go.ChangeShapes Go.WideShapes Go.ChangeAt Go.RowKit
open Go.ChangeMaps (open_string shut_string)

theorem own : ownKnob Tryz.prog.godebug = none := by kernel_rfl
theorem laid_out : laidOutB Tryz.prog = true := by kernel_rfl

section
variable {H : Type} {enc : TypeId × Value → H} {P : Program}
theorem trodAll_low (hl : laidOutB P = true) {W W' : World} (hb : Below W.heap.size W W') : ∀ (ts : List TypeId) (vs : List Value) (ds : List (DataW H)) (ps : List MemPlace),
    (ts.all fun t => P.readableRec t && decide (t < P.types.size)) = true → DataW.TrodAll enc P W 0 (fun _ => true) true ts vs ds ps → (∀ p ∈ ps, p.block < W.heap.size) →
    DataW.TrodAll enc P W' 0 (fun b => decide (b < W.heap.size)) true ts vs ds ps
  | [], [], [], _, _, h, _ => h
  | [], [], _ :: _, _, _, h, _ => h.elim
  | [], _ :: _, _, _, _, h, _ => h.elim
  | _ :: _, [], _, _, _, h, _ => h.elim
  | _ :: _, _ :: _, [], _, _, h, _ => h.elim
  | t :: ts, v :: vs, d :: ds, ps, hT, h, hlt => by
    obtain ⟨p, q, hp, hq, e⟩ := h
    simp only [List.all_cons, Bool.and_eq_true, decide_eq_true_eq] at hT
    refine ⟨p, q, Below.trod hl hT.1.1 hT.1.2 hp hb (fun x hx => hlt x (by rw [e]; simp [hx])), trodAll_low hl hb ts vs ds q hT.2 hq (fun x hx => hlt x (by rw [e]; simp [hx])), e⟩

theorem law_post (hl : laidOutB P = true) {f : Func} {s : ChangeSpec} {apart fresh handsOn : Bool} {tb : TypeId} {W W' : World} {args : Array Value} {ds gs : List (DataW H)} {before : List MemPlace}
    (hT : (f.params.toList.all fun t => P.readableRec t && decide (t < P.types.size)) = true) (hr : f.resultTypes = #[tb]) (htb : P.underlying tb = some .bool)
    (hW : DataW.Whole enc P f.params.toList s.vars apart W args.toList ds gs before) (hv : s.vars = []) (hf : s.fn H (ds ++ gs) = { results := [.lit (.bool true)], args := ds }) (hb : Below W.heap.size W W') :
    s.post enc P f apart fresh handsOn false W args (.bool true) W' := by
  have hW' := hW
  obtain ⟨p, q, hA, hV, rfl, _, _⟩ := hW
  have hlt : ∀ x ∈ p ++ q, x.block < W.heap.size := fun x hx => hW'.lt x hx
  rw [hv] at hV
  have hq : gs = [] ∧ q = [] := trodVars_none hV
  obtain ⟨rfl, rfl⟩ := hq
  have hA' := trodAll_low hl hb _ _ _ _ hT hA (fun x hx => hlt x (by simp [hx]))
  refine ⟨ds, [], p ++ [], [], p, [], hW', ?_, ?_, ?_, World.keptBut_mono (fun x hx => ⟨hx, by simp at hx; simp [hx]⟩) (hb.frame (· ∈ p ++ [])), fun h => by cases h⟩
  · rw [hf, hr]
    exact trodAll_cons_mk (shut_bool htb _) trodAll_mk0
  · rw [hf]; exact hA'
  · rw [hf, hv]; exact (rfl : ([] : List MemPlace) = [])
end


/-- The tables that the row lists. -/
def tabs : List (String × DataW Unit) := [("math/bits.deBruijn32tab", Rows.laid_math_bits_deBruijn32tab), ("math/bits.deBruijn64tab", Rows.laid_math_bits_deBruijn64tab), ("internal/strconv.uint64pow10", Rows.laid_internal_strconv_uint64pow10), ("synoptic/element.bounds", Rows.laid_synoptic_element_bounds)]

theorem met_tail {P : Program} {n : String} {d : DataW Unit} {r : List (String × DataW Unit)} {W : World} (h : laidMet P ((n, d) :: r) W) : laidMet P r W := by
  obtain ⟨ps, ⟨g, t, cs, fuel, p, q, _, _, _, _, hr, rfl⟩, hnd, hc⟩ := h
  exact ⟨q, hr, (List.nodup_append.1 hnd).2.1, fun b off hm => hc b off (List.mem_append.2 (Or.inr hm))⟩

theorem tab_of {W : World} (hL : laidMetH Tryz.prog tabs W) : Tab W := by
  have h : laidMet Tryz.prog tabs W := hL
  have h3 : Lib.TabIs Tryz.prog W "internal/strconv.uint64pow10" .u64 Lib.pow10Tab :=
    Lib.tabIs_of_head (zs := Lib.pow10Tab) (k := .u64) gPow (show (Tryz.prog.globals[1]?).map (·.type) = some 167 by kernel_rfl) Tryz.underlying167 Tryz.underlying44 (by kernel_rfl) (by kernel_rfl) (met_tail (met_tail h))
  refine ⟨h3, ?_⟩
  have hc := h3.cell gPow 0 (by decide)
  exact World.block_lt_of_cell? (a := ⟨1, 0, none⟩) _ hc

theorem gBnds : Tryz.prog.globalNamed "synoptic/element.bounds" = some 0 := by kernel_rfl
section
variable {H : Type} {enc : TypeId × Value → H} {P : Program} {w : World} {base : Nat} {sp : Nat → Bool} {held : Bool}
theorem tab2 {fuel : Nat} {t e f : TypeId} {n m : Nat} {k : IntKind} {cs : List Value} {zss : List (List Int)} {p : List MemPlace}
    (ht : P.underlying t = some (.array n e)) (he : P.underlying e = some (.array m f)) (hf : P.underlying f = some (.int k)) (hcf : P.cellsOf f = 1) (hce : P.cellsOf e = m)
    (h : DataW.trod enc P w base sp held fuel t cs = some (.agg (zss.map (Lib.tabData k)), p)) (i : Nat) (zs : List Int) (hi : zss[i]? = some zs) :
    (cs.drop (i * m)).take m = zs.map (Value.int k) := by
  obtain ⟨xs, q, _, hx, _, hl, hr⟩ := DataW.trod_array ht h
  injection hx with hx _
  injection hx with hx
  have hlz : zss.length = n := by have := congrArg List.length hx; simp at this; omega
  have hin : i < n := by
    have := (List.getElem?_eq_some_iff.1 hi).1; omega
  have h1 := hr i hin
  rw [hce] at h1
  have h2 : (xs.map (·.1))[i]? = some (Lib.tabData k zs) := by rw [← hx]; simp [hi]
  rw [List.getElem?_map, Option.map_eq_some_iff] at h2
  obtain ⟨⟨x, pp⟩, h3, h4⟩ := h2
  rw [h3] at h1
  simp only at h4
  subst h4
  exact Lib.cells_of_tab he hf hcf hce h1
end

def bndss : List (List Int) := [[8000, 11000], [1800, 3300], [1800, 3300], [-1000, 1000], [-1000, 1000], [900, 1700], [2000, 3200], [2400, 3400], [2000, 3000], [4400, 6200], [2000, 2900]]
theorem bndss_at : ∀ i : Fin 22, bndss[i.1 / 2]? = some (bndss.getD (i.1 / 2) []) ∧ (bndss.getD (i.1 / 2) [])[i.1 % 2]? = some (bnds.getD i.1 0) := by decide

theorem bnds_of {W : World} (hL : laidMetH Tryz.prog tabs W) : Bnds W := by
  have h0 : laidMet Tryz.prog tabs W := hL
  have h : laidMet Tryz.prog [("synoptic/element.bounds", Rows.laid_synoptic_element_bounds)] W := met_tail (met_tail (met_tail h0))
  obtain ⟨ps, ⟨g', t', cs, fuel, p, q, hg', ht', hvar, hd, _, _⟩, _⟩ := h
  obtain rfl := Option.some.inj (gBnds.symm.trans hg')
  obtain rfl := Option.some.inj ((show (Tryz.prog.globals[0]?).map (·.type) = some 137 by kernel_rfl).symm.trans ht')
  have key := tab2 (zss := bndss) Tryz.underlying137 Tryz.underlying129 Tryz.underlying3 (by kernel_rfl) (by kernel_rfl) hd
  intro i hi
  obtain ⟨h1, h2⟩ := bndss_at ⟨i, hi⟩
  have h3 := key (i / 2) _ h1
  have h4 : cs.toList[i]? = ((cs.toList.drop (i / 2 * 2)).take 2)[i % 2]? := by
    rw [List.getElem?_take_of_lt (by omega), List.getElem?_drop, show i / 2 * 2 + i % 2 = i by omega]
  have h5 := World.var?_cell gBnds hvar i
  show W.cell? ⟨0, i, none⟩ = _
  rw [h5]
  have h6 : cs.toList[i]? = some (.int .i64 (bnds.getD i 0)) := by
    rw [h4, h3, List.getElem?_map]
    simp only at h2
    rw [h2]; rfl
  simpa using h6

/-- The cells of a table. -/
def cellsD : DataW Unit → Array Value
  | .agg l => (l.map fun | .lit (.int k z) => Value.int k z | _ => undef).toArray
  | _ => #[]
def layIn (d : DataW Unit) : Obj → Obj
  | .cells _ t frozen => .cells (cellsD d) t frozen
  | o => o
def layBnds : Obj → Obj
  | .cells _ t frozen => .cells (bnds.map fun z => Value.int .i64 z).toArray t frozen
  | o => o
/-- A WORLD FOR THE WITNESS: the settled one, the tables holding what their initialisers lay. -/
noncomputable def laidWorld (os : Os) : World :=
  { World.holding Tryz.prog os ⟨#[], #[], []⟩ with heap := ((((World.holding Tryz.prog os ⟨#[], #[], []⟩).heap.modify 3 (layIn Rows.laid_math_bits_deBruijn32tab)).modify 4 (layIn Rows.laid_math_bits_deBruijn64tab)).modify 1 (layIn Rows.laid_internal_strconv_uint64pow10)).modify 0 layBnds }
theorem laid_met (os : Os) (args : Array Value) : laidMet Tryz.prog tabs ((laidWorld os).forCall (fun _ _ => 0) ⟨#[], args, []⟩).memory :=
  laidMet_of_run' 8 (by kernel_rfl) (by kernel_rfl)

theorem wf_int {x : Int} (h : (Lit.int .i64 x).wf = true) : I64 x := by
  simp only [Lit.wf, Bool.and_eq_true, decide_eq_true_eq] at h
  have h1 : IntKind.i64.min = -9223372036854775808 := rfl
  have h2 : IntKind.i64.max = 9223372036854775807 := rfl
  unfold I64; omega

set_option maxRecDepth 100000 in
/-- A list of ints that came in. -/
theorem open_list {H : Type} {enc : TypeId × Value → H} {W : World} {base : Nat} {v : Value} {d : DataW H} {p : List MemPlace} (hv : Value.okWide Tryz.prog W .any base 34 v) (h : DataW.Trod enc Tryz.prog W 0 (fun _ => true) true 34 v d p) :
    ∃ a n c zs, v = .slice a n c ∧ IntsIn W.heap.size W (.slice a n c) zs ∧ (∀ z ∈ zs, I64 z) ∧ zs.length = n := by
  obtain ⟨a0, len, cap, rfl⟩ := okWide_slice Tryz.underlying34 hv
  obtain ⟨fuel, hf⟩ := h
  rcases open_ints Tryz.underlying34 Tryz.underlying3 (by kernel_rfl) hf with ⟨hcs, _⟩ | ⟨a, len', cap', zs, hcs, _, hl, hm, hz, _, hcell, hwz⟩
  · have hcs : a0 = none ∧ len = 0 ∧ cap = 0 := by simpa [Value.cells] using hcs
    obtain ⟨rfl, rfl, rfl⟩ := hcs
    exact ⟨_, _, _, [], rfl, .inl ⟨_, _, rfl, rfl⟩, by simp, by simp⟩
  · have hcs : a0 = some a ∧ len = len' ∧ cap = cap' := by simpa [Value.cells] using hcs
    obtain ⟨rfl, rfl, rfl⟩ := hcs
    simp only [if_true] at hz
    have hm' : cap ≤ 9223372036854775807 := by unfold maxLen at hm; omega
    refine ⟨_, _, _, zs.take len, rfl, ?_, fun z hzm => wf_int (hwz z (List.mem_of_mem_take hzm)), by rw [List.length_take]; omega⟩
    by_cases hc0 : cap = 0
    · obtain rfl : len = 0 := by omega
      exact .inl ⟨_, _, rfl, rfl⟩
    · obtain ⟨b, off, rfl, hc⟩ := ints_at hcell (by omega)
      have hl' : (zs.take len).length = len := by rw [List.length_take]; omega
      refine .inr ⟨b, off, cap, by rw [hl'], by omega, hm', World.block_lt_of_cell? (a := ⟨b, off + 0, none⟩) _ (hc 0 (by omega)), fun j hj => ?_⟩
      rw [hc j (by omega)]
      simp [List.getD_eq_getElem?_getD, List.getElem?_take_of_lt (show j < len by omega)]

set_option maxRecDepth 100000 in
/-- A list of small ints that came in. -/
theorem open_codes {H : Type} {enc : TypeId × Value → H} {W : World} {base : Nat} {v : Value} {d : DataW H} {p : List MemPlace} (hv : Value.okWide Tryz.prog W .any base 22 v) (h : DataW.Trod enc Tryz.prog W 0 (fun _ => true) true 22 v d p) :
    U8At W W.heap.size v := by
  obtain ⟨a0, len, cap, rfl⟩ := okWide_slice Tryz.underlying22 hv
  obtain ⟨fuel, hf⟩ := h
  rcases open_ints Tryz.underlying22 Tryz.underlying5 (by kernel_rfl) hf with ⟨hcs, _⟩ | ⟨a, len', cap', zs, hcs, _, hl, hm, hz, _, hcell, hwz⟩
  · have hcs : a0 = none ∧ len = 0 ∧ cap = 0 := by simpa [Value.cells] using hcs
    obtain ⟨rfl, rfl, rfl⟩ := hcs
    exact ⟨none, 0, 0, rfl, by omega, by omega, fun i hi => by omega⟩
  · have hcs : a0 = some a ∧ len = len' ∧ cap = cap' := by simpa [Value.cells] using hcs
    obtain ⟨rfl, rfl, rfl⟩ := hcs
    simp only [if_true] at hz
    have hm' : cap ≤ 9223372036854775807 := by unfold maxLen at hm; omega
    refine ⟨some a, len, cap, rfl, hl, hm', fun i hi => ?_⟩
    obtain ⟨b, off, rfl, hc⟩ := ints_at hcell (by omega)
    have hci := hc i (by omega)
    refine ⟨b, off, rfl, World.block_lt_of_cell? (a := ⟨b, off + i, none⟩) _ hci, _, ?_, ?_, hci⟩
    all_goals
      have hw := hwz (zs.getD i 0) (by rw [List.getD_eq_getElem?_getD, List.getElem?_eq_getElem (by omega)]; simp)
      simp only [Lit.wf, Bool.and_eq_true, decide_eq_true_eq] at hw
      have h1 : IntKind.u8.min = 0 := rfl
      have h2 : IntKind.u8.max = 255 := rfl
      omega

set_option maxRecDepth 100000 in
theorem open_frac {H : Type} {enc : TypeId × Value → H} {W : World} {base : Nat} {v : Value} {d : DataW H} {p : List MemPlace} (hv : Value.okWide Tryz.prog W .any base 24 v) (h : DataW.Trod enc Tryz.prog W 0 (fun _ => true) true 24 v d p) :
    ∃ x y, v = .agg #[.int .i64 x, .int .i64 y] ∧ I64 x ∧ I64 y := by
  obtain ⟨v0, v1, y0, y1, n, rfl, _, _, h0, h1⟩ := Joins.open_agg2 Tryz.underlying24 (by kernel_rfl) (by kernel_rfl) hv h
  obtain ⟨x, e0, _, w0⟩ := DataW.trod_int (k := .i64) Tryz.underlying3 h0
  obtain ⟨y, e1, _, w1⟩ := DataW.trod_int (k := .i64) Tryz.underlying3 h1
  rw [List.cons.injEq] at e0 e1
  exact ⟨x, y, by rw [e0.1, e1.1], wf_int w0, wf_int w1⟩

set_option maxRecDepth 100000 in
theorem open_errs {H : Type} {enc : TypeId × Value → H} {W : World} {base : Nat} {v : Value} {d : DataW H} {p : List MemPlace} (hv : Value.okWide Tryz.prog W .any base 31 v) (h : DataW.Trod enc Tryz.prog W 0 (fun _ => true) true 31 v d p) :
    ∃ x y z u, v = .agg #[.int .i64 x, .int .i64 y, .int .i64 z, .int .i64 u] ∧ I64 x ∧ I64 y ∧ I64 z ∧ I64 u := by
  obtain ⟨v0, v1, v2, v3, y0, y1, y2, y3, n, rfl, _, _, h0, h1, h2, h3⟩ := Joins.open_agg4 Tryz.underlying31 (by kernel_rfl) (by kernel_rfl) hv h
  obtain ⟨x, e0, _, w0⟩ := DataW.trod_int (k := .i64) Tryz.underlying3 h0
  obtain ⟨y, e1, _, w1⟩ := DataW.trod_int (k := .i64) Tryz.underlying3 h1
  obtain ⟨z, e2, _, w2⟩ := DataW.trod_int (k := .i64) Tryz.underlying3 h2
  obtain ⟨u, e3, _, w3⟩ := DataW.trod_int (k := .i64) Tryz.underlying3 h3
  rw [List.cons.injEq] at e0 e1 e2 e3
  exact ⟨x, y, z, u, by rw [e0.1, e1.1, e2.1, e3.1], wf_int w0, wf_int w1, wf_int w2, wf_int w3⟩

set_option maxRecDepth 100000 in
theorem open_table {H : Type} {enc : TypeId × Value → H} {W : World} {base : Nat} {v : Value} {d : DataW H} {p : List MemPlace} (hv : Value.okWide Tryz.prog W .any base 33 v) (h : DataW.Trod enc Tryz.prog W 0 (fun _ => true) true 33 v d p) :
    ∃ x y z u, v = .agg #[.int .i64 x, .int .i64 y, .int .i64 z, .int .i64 u] ∧ Four x y z u := by
  obtain ⟨v0, v1, v2, v3, y0, y1, y2, y3, n, rfl, _, _, h0, h1, h2, h3⟩ := Joins.open_agg4 Tryz.underlying33 (by kernel_rfl) (by kernel_rfl) hv h
  obtain ⟨x, e0, _, w0⟩ := DataW.trod_int (k := .i64) Tryz.underlying3 h0
  obtain ⟨y, e1, _, w1⟩ := DataW.trod_int (k := .i64) Tryz.underlying3 h1
  obtain ⟨z, e2, _, w2⟩ := DataW.trod_int (k := .i64) Tryz.underlying3 h2
  obtain ⟨u, e3, _, w3⟩ := DataW.trod_int (k := .i64) Tryz.underlying3 h3
  rw [List.cons.injEq] at e0 e1 e2 e3
  exact ⟨x, y, z, u, by rw [e0.1, e1.1, e2.1, e3.1], wf_int w0, wf_int w1, wf_int w2, wf_int w3⟩

theorem array8 {α : Type} {cs : Array α} (h : cs.size = 8) : ∃ c0 c1 c2 c3 c4 c5 c6 c7, cs = #[c0, c1, c2, c3, c4, c5, c6, c7] := by
  obtain ⟨l⟩ := cs
  match l, h with
  | [c0, c1, c2, c3, c4, c5, c6, c7], _ => exact ⟨c0, c1, c2, c3, c4, c5, c6, c7, rfl⟩

set_option maxRecDepth 100000 in
theorem open_pairs {H : Type} {enc : TypeId × Value → H} {W : World} {v : Value} {fuel : Nat} {x : DataW H × List MemPlace} (hf : DataW.trod enc Tryz.prog W 0 (fun _ => true) true fuel 27 [v] = some x) :
    ∃ (a : Option Addr) (n c : Nat) (l : List (Int × Int)), v = .slice a n c ∧ PairsIn W.heap.size W (.slice a n c) l ∧ (∀ x ∈ l, I64 x.1 ∧ I64 x.2) ∧ l.length = n := by
  rcases Go.Deep.open_slice_pairs Tryz.underlying27 Tryz.underlying78 (by kernel_rfl) rfl rfl (by kernel_rfl) (by kernel_rfl) hf with ⟨hcs, _⟩ | ⟨a, len, cap, m, n, V0, V1, D0, D1, P0, P1, hcs, _, hl, hm, hmm, _, hel⟩
  · obtain rfl : v = .slice none 0 0 := by simpa using hcs
    exact ⟨none, 0, 0, [], rfl, .inl ⟨_, _, rfl, rfl⟩, by simp, rfl⟩
  · obtain rfl : v = .slice (some a) len cap := by simpa using hcs
    have hlm : len ≤ m := by rw [hmm]; split <;> omega
    have each : ∀ i, i < len → ∃ q : Int × Int, (W.cell? (a.add (i * 2)) = some (.int .i64 q.1) ∧ W.cell? (a.add (i * 2 + 1)) = some (.int .i64 q.2)) ∧ I64 q.1 ∧ I64 q.2 := by
      intro i hi
      obtain ⟨c0, c1, t0, t1⟩ := hel i (by omega)
      obtain ⟨x, e0, _, w0⟩ := DataW.trod_int (k := .i64) Tryz.underlying3 t0
      obtain ⟨y, e1, _, w1⟩ := DataW.trod_int (k := .i64) Tryz.underlying3 t1
      rw [List.cons.injEq] at e0 e1
      rw [e0.1] at c0
      rw [e1.1] at c1
      exact ⟨(x, y), ⟨c0, c1⟩, wf_int w0, wf_int w1⟩
    obtain ⟨q, hq⟩ := Go.Deep.choose_lt each
    refine ⟨some a, len, cap, (List.range len).map q, rfl, ?_, ?_, by simp⟩
    · by_cases h0 : len = 0
      · subst h0; exact .inl ⟨_, _, rfl, rfl⟩
      · obtain ⟨b, off, spot⟩ := a
        have hspot : spot = none := by simpa [Addr.add] using World.cell?_spot (hq 0 (by omega)).1.1
        subst hspot
        refine .inr ⟨b, off, cap, by simp, World.block_lt_of_cell? (a := ⟨b, off + 0, none⟩) _ (by have := (hq 0 (by omega)).1.1; rw [Go.WideShapes.add_plain] at this; exact this), fun j hj => ?_⟩
        have hj' : j < len := by simpa using hj
        obtain ⟨⟨h1, h2⟩, _⟩ := hq j hj'
        rw [Go.WideShapes.add_plain] at h1 h2
        rw [h1, show off + j * 2 + 1 = off + (j * 2 + 1) by omega, h2]
        constructor <;> simp [List.getD_eq_getElem?_getD, hj']
    · intro x hx
      obtain ⟨i, hi, rfl⟩ := List.mem_map.1 hx
      exact (hq i (by simpa using hi)).2

set_option maxRecDepth 100000 in
theorem open_rep {H : Type} {enc : TypeId × Value → H} {W : World} {base : Nat} {v : Value} {d : DataW H} {p : List MemPlace} (hv : Value.okWide Tryz.prog W .any base 29 v) (h : DataW.Trod enc Tryz.prog W 0 (fun _ => true) true 29 v d p) :
    ∃ (kd : Int) (nm : List UInt8) (tm pf pa pb pc : Int) (a : Option Addr) (n c : Nat) (l : List (Int × Int)), v = .agg #[.int .i64 kd, .string ⟨nm.toArray⟩, .int .i64 tm, .int .i64 pf, .int .i64 pa, .int .i64 pb, .int .i64 pc, .slice a n c] ∧ PairsIn W.heap.size W (.slice a n c) l ∧ (∀ x ∈ l, I64 x.1 ∧ I64 x.2) ∧ l.length = n := by
  obtain ⟨cs, rfl, hsz⟩ := okWide_struct Tryz.underlying29 hv
  obtain ⟨c0, c1, c2, c3, c4, c5, c6, c7, rfl⟩ := array8 (hsz.trans (show Tryz.prog.cellsOf 29 = 8 by kernel_rfl))
  obtain ⟨fuel, hf⟩ := h
  obtain ⟨xs, n, _, _, _, hlen, hx⟩ := DataW.trod_struct Tryz.underlying29 hf
  match xs, hlen with
  | [y0, y1, y2, y3, y4], _ =>
    have t0 : DataW.trod enc Tryz.prog W 0 (fun _ => true) true n 3 (([c0, c1, c2, c3, c4, c5, c6, c7].drop 0).take (Tryz.prog.cellsOf 3)) = some y0 := hx 0 _ rfl
    have t1 : DataW.trod enc Tryz.prog W 0 (fun _ => true) true n 9 (([c0, c1, c2, c3, c4, c5, c6, c7].drop 1).take (Tryz.prog.cellsOf 9)) = some y1 := hx 1 _ rfl
    have t2 : DataW.trod enc Tryz.prog W 0 (fun _ => true) true n 3 (([c0, c1, c2, c3, c4, c5, c6, c7].drop 2).take (Tryz.prog.cellsOf 3)) = some y2 := hx 2 _ rfl
    have t3 : DataW.trod enc Tryz.prog W 0 (fun _ => true) true n 26 (([c0, c1, c2, c3, c4, c5, c6, c7].drop 3).take (Tryz.prog.cellsOf 26)) = some y3 := hx 3 _ rfl
    have t4 : DataW.trod enc Tryz.prog W 0 (fun _ => true) true n 27 (([c0, c1, c2, c3, c4, c5, c6, c7].drop 7).take (Tryz.prog.cellsOf 27)) = some y4 := hx 4 _ rfl
    clear hx
    simp only [show Tryz.prog.cellsOf 3 = 1 by kernel_rfl, show Tryz.prog.cellsOf 9 = 1 by kernel_rfl, show Tryz.prog.cellsOf 26 = 4 by kernel_rfl, show Tryz.prog.cellsOf 27 = 1 by kernel_rfl, List.drop_zero, List.drop_succ_cons, List.take_succ_cons, List.take_zero] at t0 t1 t2 t3 t4
    obtain ⟨kd, e0, _, _⟩ := DataW.trod_int (k := .i64) Tryz.underlying3 t0
    obtain ⟨nb, e1, _, _⟩ := DataW.trod_string Tryz.underlying9 t1
    obtain ⟨tm, e2, _, _⟩ := DataW.trod_int (k := .i64) Tryz.underlying3 t2
    obtain ⟨z0, z1, z2, z3, n', _, _, g0, g1, g2, g3⟩ := Joins.trod_struct4 Tryz.underlying26 t3
    replace g0 : DataW.trod enc Tryz.prog W 0 (fun _ => true) true n' 3 (([c3, c4, c5, c6].drop 0).take (Tryz.prog.cellsOf 3)) = some z0 := g0
    replace g1 : DataW.trod enc Tryz.prog W 0 (fun _ => true) true n' 3 (([c3, c4, c5, c6].drop 1).take (Tryz.prog.cellsOf 3)) = some z1 := g1
    replace g2 : DataW.trod enc Tryz.prog W 0 (fun _ => true) true n' 3 (([c3, c4, c5, c6].drop 2).take (Tryz.prog.cellsOf 3)) = some z2 := g2
    replace g3 : DataW.trod enc Tryz.prog W 0 (fun _ => true) true n' 3 (([c3, c4, c5, c6].drop 3).take (Tryz.prog.cellsOf 3)) = some z3 := g3
    simp only [show Tryz.prog.cellsOf 3 = 1 by kernel_rfl, List.drop_zero, List.drop_succ_cons, List.take_succ_cons, List.take_zero] at g0 g1 g2 g3
    obtain ⟨pf, e3, _, _⟩ := DataW.trod_int (k := .i64) Tryz.underlying3 g0
    obtain ⟨pa, e4, _, _⟩ := DataW.trod_int (k := .i64) Tryz.underlying3 g1
    obtain ⟨pb, e5, _, _⟩ := DataW.trod_int (k := .i64) Tryz.underlying3 g2
    obtain ⟨pc, e6, _, _⟩ := DataW.trod_int (k := .i64) Tryz.underlying3 g3
    obtain ⟨a, k, c, l, e7, hP, hI, hl⟩ := open_pairs t4
    rw [List.cons.injEq] at e0 e1 e2 e3 e4 e5 e6
    refine ⟨kd, nb.data.toList, tm, pf, pa, pb, pc, a, k, c, l, ?_, hP, hI, hl⟩
    rw [e0.1, e1.1, e2.1, e3.1, e4.1, e5.1, e6.1, e7]
end Go.Proofs.YtmmmebdgannpgaaGreatDoor
