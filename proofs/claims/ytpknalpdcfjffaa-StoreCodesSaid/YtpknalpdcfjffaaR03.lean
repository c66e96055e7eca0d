/- Part 3 of the proof: laws on memory and what functions of the program return. No conditions but those that each theorem names. -/
import Derived.Test.YtpknalpdcfjffaaR02
import Derived.Maps.AppendAt
import Derived.Lib.Hide
import Derived.Deep.DeepCutAuto
import Derived.Deep.CutBlock
import Derived.Laws.StructEq
set_option linter.unusedVariables false
set_option linter.unusedSimpArgs false
/- Elements of a slice, of one cell or of several: loaded, stored, laid, appended; what a walk over a slice keeps. No walk. -/
namespace Go.Proofs.Ytpknalpdcfjffaa
open Go Go.RowKit

theorem fold_zip : ∀ (l : List Value) (k : Nat) (cs : Array Value) (i : Nat), k + l.length ≤ cs.size → ((l.zipIdx k).foldl (fun (cs : Array Value) (x : Value × Nat) => cs.setIfInBounds x.2 x.1) cs)[i]? = if k ≤ i ∧ i < k + l.length then l[i - k]? else cs[i]?
  | [], k, cs, i, _ => by
    rw [if_neg (by simp)]; rfl
  | v :: l, k, cs, i, h => by
    rw [List.zipIdx_cons, List.foldl_cons, fold_zip l (k + 1) _ i (by simp at h ⊢; omega)]
    simp only [List.length_cons] at h ⊢
    by_cases h1 : k + 1 ≤ i ∧ i < k + 1 + l.length
    · rw [if_pos h1, if_pos (by omega)]
      rw [show i - k = (i - (k + 1)) + 1 by omega, List.getElem?_cons_succ]
    · rw [if_neg h1]
      by_cases h2 : i = k
      · subst h2
        rw [if_pos (by omega), Nat.sub_self]
        simp [show i < cs.size by omega]
      · rw [if_neg (by omega), Array.getElem?_setIfInBounds_ne (by omega)]
theorem fold_zip_all (cs es : Array Value) (h : es.size = cs.size) : es.zipIdx.foldl (fun (cs : Array Value) (x : Value × Nat) => cs.setIfInBounds (0 + x.2) x.1) cs = es := by
  apply Array.ext_getElem?
  intro i
  have h1 := fold_zip es.toList 0 cs i (by simp; omega)
  simp only [Nat.zero_add]
  rw [← Array.foldl_toList, Array.toList_zipIdx, h1]
  by_cases h2 : i < es.size
  · rw [if_pos (by simp; omega)]; simp
  · rw [if_neg (by simp; omega), Array.getElem?_eq_none (by omega), Array.getElem?_eq_none (by omega)]
/-- A type of elements: n cells; what is loaded is ev of them. -/
structure ElT (T ST : TypeId) (n : Nat) (ev : List Value → Value) (zc : List Value) : Prop where
  slice : Try.prog.underlying ST = some (.slice T)
  info : ∃ (z : Value) (by_ : Nat), (Try.prog.info? T).map (fun i => (i.zero, i.size, i.bytes)) = some (some z, n, by_) ∧ z.cells = zc.toArray ∧ by_ ≤ 1000
  ne : T ≠ 5
  pos : 0 < n
  small : n ≤ 100
  zlen : zc.length = n
  evc : ∀ es : List Value, es.length = n → (∀ v ∈ es, v.oneCell' = true) → (ev es).cells = es.toArray
  load : ∀ (w : World) (b o : Nat) (es : List Value), es.length = n → w.rangeAt b o es → (loadVar T ⟨b, o, none⟩).run Try.prog w = .ok (ev es) w
variable {T ST : TypeId} {n : Nat} {ev : List Value → Value} {zc : List Value}
theorem ElT.size (h : ElT T ST n ev zc) : (Try.prog.info? T).map (·.size) = some n := by
  obtain ⟨z, by_, h1, _⟩ := h.info
  obtain ⟨i0, hi, hz0, hz1, hz2⟩ := info_parts h1
  rw [hi]; simp [hz1]
theorem ElT.lit (h : ElT T ST n ev zc) (w : World) (es : List Value) (hl : es.length = n) (h1 : ∀ v ∈ es, v.oneCell' = true) :
    (Instr.buildSlice ST 1 #[(0, ev es)]).run Try.prog w = .ok (.slice (some ⟨w.heap.size, 0, none⟩) 1 1) (w.alloc (.cells es.toArray T)) := by
  obtain ⟨z, by_, hi, hz, _⟩ := h.info
  obtain ⟨i0, hi, hz0, hz1, hz2⟩ := info_parts hi
  have hev := h.evc es hl h1
  have hs := h.small
  have hp := h.pos
  have hzr : (zeroValue T).run Try.prog w = .ok z w := by simp [zeroValue, typeInfo, hi, hz0]
  have hf := fold_zip_all ((Array.range n).map (z.cells[· % z.cells.size]!)) es.toArray (by simp [hl])
  have hc : es.toArray.size = n := by simp [hl]
  have hso : (sizeOf T).run Try.prog w = .ok n w := by simp [sizeOf, typeInfo, hi, hz1]
  have hfill : Instr.fill (fun i => some (i * n, n)) ((Array.range n).map (z.cells[· % z.cells.size]!)) [(0, ev es)] = some es.toArray := by
    simp only [Instr.fill, hev, hc, Nat.zero_mul, hf]
    rw [if_neg (by simp)]
  unfold Instr.buildSlice
  simp only [Sem.run_bind, run_underlying h.slice, Result.andThen_ok, hso, Nat.one_mul]
  rw [if_neg (by omega), if_neg (by omega)]
  simp only [Sem.run_bind, Sem.run_pure, Result.andThen_ok, hzr, hfill]
  simp [newRow, go_sem]
theorem storeVar_cells (ty : TypeId) (a : Addr) (v : Value) : storeVar ty a v = storeVar ty a (.agg v.cells) := rfl
theorem ElT.store (h : ElT T ST n ev zc) (w : World) (b o : Nat) (es : List Value) (hl : es.length = n) (h1 : ∀ v ∈ es, v.oneCell' = true) (ht : w.there b o n) :
    (storeVar T ⟨b, o, none⟩ (ev es)).run Try.prog w = .ok () (w.setCells b o es) := by
  rw [storeVar_cells, h.evc es hl h1]
  exact run_storeVar_mid w b o T es.toArray (by rw [List.size_toArray, hl]; exact ht) (by rw [h.size, List.size_toArray, hl]) (all_oneCell_toArray h1)
theorem heap_setCells_typed {p : Nat} {t : TypeId} {f : Nat × Nat} : ∀ (vs : List Value) (o : Nat) {w : World} {c : Array Value}, w.heap[p]? = some (Obj.cells c t f) → ∃ c', (w.setCells p o vs).heap[p]? = some (Obj.cells c' t f)
  | [], _, _, c, h => ⟨c, h⟩
  | v :: r, o, w, c, h => by
    obtain ⟨c', h'⟩ := heap_setCell_typed (p := ⟨p, o, none⟩) h v
    exact heap_setCells_typed r (o + 1) h'
theorem PAt.setCells {w : World} {p : Nat} {cs : List Value} (h : PAt w p cs) (es : List Value) (hl : es.length = cs.length) : PAt (w.setCells p 0 es) p es := by
  obtain ⟨h1, c, t, f, h2, h3⟩ := h
  obtain ⟨c', h4⟩ := heap_setCells_typed es 0 h2
  refine ⟨⟨by rw [hl]; exact h1.1, fun i hi => ?_, fun i hi => ?_⟩, c', t, f, h4, h3⟩
  · have := w.rangeAt_setCells_same p 0 es (h1.there (by omega)) i _ (List.getElem?_eq_getElem hi)
    rw [Nat.zero_add] at this
    rw [List.getElem?_eq_getElem hi]
    exact this
  · rw [World.frozen?_setCells]; exact h1.2.2 i (by omega)
theorem PAt.quietR {w w' : World} {p : Nat} {cs : List Value} (h : PAt w p cs) {base b : Nat} (hp : base ≤ p) (hb : p ≠ b) (ha : ApartR p w w') : Quiet base b w w' := by
  obtain ⟨_, c, t, f, h2, h3⟩ := h
  refine ⟨ha.below hp, ha.2.2.2.2 b (Ne.symm hb), fun k c' f' hk => ha.2.2.2.2 k fun e => ?_⟩
  subst e
  rw [h2] at hk
  injection hk with hk
  injection hk with _ hk _
  exact h3 hk
/-- append(v, e) of one element, which lies in a block of its own: the row is turned alone, and where the new one lies. -/
theorem ElT.append (h : ElT T ST n ev zc) {w : World} {base m : Nat} {v : Value} {cc es : List Value} (ho : w.ownsRow base T n v m cc) (hl : es.length = n) (h1 : ∀ u ∈ es, u.oneCell' = true) (hm : m ≤ 1000000) (hb : base ≤ w.heap.size) (ty : TypeId) :
    ∃ (v' : Value) (w' : World), (Builtin.append_ #[ST, ST] ty #[v, .slice (some ⟨w.heap.size, 0, none⟩) 1 1]).run Try.prog (w.alloc (.cells es.toArray T)) = .ok v' w' ∧ w'.ownsRow base T n v' (m + 1) (cc ++ es) ∧
      (w.alloc (.cells es.toArray T)).grownBy w' v.ownBlock ∧ (v'.ownBlock = v.ownBlock ∨ ∀ g, v'.ownBlock = some g → w.heap.size < g) := by
  obtain ⟨z, by_, hi, hz, hby⟩ := h.info
  obtain ⟨i0, hi, hz0, hz1, hz2⟩ := info_parts hi
  have hs := h.small
  have hbm : (m + 1) * by_ ≤ 1000001 * 1000 := Nat.mul_le_mul (by omega) hby
  obtain ⟨v', w', a1, a2, a3, _, a5⟩ := run_append_own_at (P := Try.prog) (w := w.alloc (.cells es.toArray T)) base ST ty T i0 z n by_ h.slice hi hz0 hz1 hz2 (by rw [hz, List.size_toArray, h.zlen]) h.pos
    v m cc (World.ownsRow.alloc ho _) ⟨w.heap.size, 0, none⟩ 1 1 es (by rw [hl, Nat.one_mul]) (World.news_of_block (cs := es.toArray) (t := T) (fr := (0, 0)) (heap_alloc_new w _)) h1 (by unfold maxLen; omega) (by omega) (by simp; omega)
  refine ⟨v', w', a1, a2, a3, a5.imp id fun e g hg => ?_⟩
  rw [e] at hg
  simp at hg
  omega
/-- The data of what has been walked over lies in what was there, or in what is new but for the row. -/
def avl (av : Nat → Prop) (w0 : World) (ov : Value) : Nat → Prop := fun i => (av i ∧ i < w0.heap.size) ∨ (w0.heap.size ≤ i ∧ ov.ownBlock ≠ some i)
/-- In the midst of a walk over a slice: i elements are done. -/
structure SlS {σ : Type} {k : Wk σ} (K : WkM k) {α : Type} (E : El α) (T : TypeId) (m : σ → α → σ × α) (z : α) (s1 : σ) (l : List α) (p : Nat) (cs : List Value) (av : Nat → Prop) (w0 : World) (i : Nat) (ov : Value) (wr : World) : Prop where
  ws : WS K p (runE m z s1 l i).1 cs w0 wr
  row : ∃ cc, wr.ownsRow w0.heap.size T E.n ov i cc ∧ ∀ j, (hj : j < (runE m z s1 l i).2.length) → ∃ es, E.rep (avl av w0 ov) wr es (runE m z s1 l i).2[j] ∧ ∀ q, q < E.n → cc[j * E.n + q]? = es[q]?
section
variable {σ : Type} {k : Wk σ} {K : WkM k} {α : Type} {E : El α} {m : σ → α → σ × α} {z : α} {s1 : σ} {l : List α} {p : Nat} {cs : List Value} {av : Nat → Prop} {w0 : World} {i : Nat} {ov : Value} {wr : World}
theorem SlS.start {w : World} (h : WS K p s1 cs w0 w) : SlS K E T m z s1 l p cs av w0 0 (.slice none 0 0) w :=
  ⟨h, [], World.ownsRow_nil _ _ _ _, fun j hj => by simp [runE] at hj⟩
theorem SlS.slice (h : SlS K E T m z s1 l p cs av w0 i ov wr) : ∃ a c, ov = .slice a i c := by
  obtain ⟨cc, h1, _⟩ := h.row
  rcases h1.2 with ⟨e, h0⟩ | ⟨g, cap, cur, e, _⟩
  · exact ⟨none, 0, by rw [e, h0]⟩
  · exact ⟨_, _, e⟩
theorem ownsRow_typed {w : World} {base sz m : Nat} {v : Value} {xs : List Value} (h : w.ownsRow base T sz v m xs) : ∀ g, v.ownBlock = some g → base ≤ g ∧ ∃ c f, w.heap[g]? = some (.cells c T f) := by
  obtain ⟨_, h2⟩ := h
  intro g hg
  rcases h2 with ⟨e, _⟩ | ⟨g', cap, cur, e, hb, hh, _⟩
  · rw [e] at hg; cases hg
  · rw [e] at hg
    have : g' = g := by simpa [Value.ownBlock] using hg
    subst this
    exact ⟨hb, _, _, hh⟩
theorem ownsRow_block {w w' : World} {base sz m : Nat} {v : Value} {xs : List Value} (h : w.ownsRow base T sz v m xs) (hb : ∀ g, v.ownBlock = some g → w'.heap[g]? = w.heap[g]?) : w'.ownsRow base T sz v m xs := by
  obtain ⟨h1, h2⟩ := h
  refine ⟨h1, ?_⟩
  rcases h2 with h2 | ⟨g, cap, cur, e, hg, hh, r⟩
  · exact Or.inl h2
  · exact Or.inr ⟨g, cap, cur, e, hg, by rw [hb g (by rw [e]; rfl)]; exact hh, r⟩
theorem RdS.in {w : World} {v : Value} (hE : E.OK) (h : RdS E av w v l) : RdS E (fun k => av k ∧ k < w.heap.size) w v l := h.weak hE fun _ h1 h2 => ⟨h1, h2⟩
/-- One element more. wx: its variable is made; wy: it holds the element; w2: behind the walk over it; w4: behind the append. -/
theorem SlS.next (hK : K.OK) (hE : E.OK) (hT : ElT T ST E.n ev zc) (hb : K.b < w0.heap.size) (hp : p < w0.heap.size) (hpb : p ≠ K.b) (hbase : K.base ≤ p) (hav : ∀ i, av i → i ≠ K.b ∧ i ≠ p) (h : SlS K E T m z s1 l p cs av w0 i ov wr) {es : List Value} {wy w2 : World}
    (h1 : Below wr.heap.size wr wy) (hs1 : wr.heap.size < wy.heap.size) (h2 : K.St (runE m z s1 l (i + 1)).1 w2) (h3 : Fr K.base K.b wr.heap.size wy w2) (h4 : E.rep (fresh (fun k => av k ∧ k < w0.heap.size) wy) w2 es (m (runE m z s1 l i).1 (l.getD i z)).2) (hi : i ≤ 1000000) (ty : TypeId) :
    ∃ (v' : Value) (w4 : World), (Builtin.append_ #[ST, ST] ty #[ov, .slice (some ⟨w2.heap.size, 0, none⟩) 1 1]).run Try.prog (w2.alloc (.cells es.toArray T)) = .ok v' w4 ∧ SlS K E T m z s1 l p cs av w0 (i + 1) v' w4 := by
  obtain ⟨cc, r1, r2⟩ := h.row
  have hs0 := h.ws.fr.size
  have hs2 := h3.size
  -- the row behind the walk over the element
  have hg : ∀ g, ov.ownBlock = some g → w0.heap.size ≤ g ∧ g < wr.heap.size := fun g hg => World.ownsRow.lt r1 g hg
  have keepR : ∀ g, (∃ c t f, wr.heap[g]? = some (Obj.cells c t f) ∧ t ≠ 5) → g ≠ K.b → w2.heap[g]? = wr.heap[g]? := by
    rintro g ⟨c, t, f, e1, e2⟩ e3
    have hlt := (Array.getElem?_eq_some_iff.1 e1).1
    have e4 := h1.block g hlt
    rw [← e4]
    exact h3.keeps g c t f (by rw [e4]; exact e1) e2 ⟨e3, by omega⟩
  have r1' : w2.ownsRow w0.heap.size T E.n ov i cc := ownsRow_block r1 fun g hgo => by
    obtain ⟨hb', c, f, e1⟩ := ownsRow_typed r1 g hgo
    exact keepR g ⟨c, T, f, e1, hT.ne⟩ (by omega)
  obtain ⟨v', w4, a1, a2, a3, a4⟩ := hT.append r1' (hE.len h4) (hE.one h4) hi (by omega) ty
  have hal : Below w2.heap.size w2 (w2.alloc (.cells es.toArray T)) := (Below.refl _ _).alloc (Nat.le_refl _) _
  have keepA : ∀ g, g < w2.heap.size → ov.ownBlock ≠ some g → w4.heap[g]? = w2.heap[g]? := fun g hg1 hg2 => by
    rw [a3.block g (by simp; omega) (fun e => hg2 e.symm)]
    exact hal.block g hg1
  have hw4 : Below w0.heap.size w2 w4 := by
    refine ⟨?_, ?_, ?_, ?_, fun g hg1 => keepA g (by omega) (fun e => by have := hg g e; omega)⟩
    · rw [a3.os]; exact hal.os
    · rw [a3.tape]; exact hal.tape
    · rw [a3.output]; exact hal.output
    · exact Nat.le_trans hal.size a3.size
  have hl0 := hK.lt h.ws.st
  have q4 : Quiet K.base K.b w2 w4 := ⟨hw4.mono (by omega), keepA K.b (by omega) (fun e => by have := hg _ e; omega), fun g c f e => keepA g (Array.getElem?_eq_some_iff.1 e).1 fun e' => by
    obtain ⟨_, c', f', e1⟩ := ownsRow_typed r1' g e'
    rw [e] at e1
    injection e1 with e1
    injection e1 with _ e1 _
    exact hT.ne e1.symm⟩
  have nb4 : ∀ g, (av g ∧ g < w0.heap.size) ∨ (w0.heap.size ≤ g ∧ ov.ownBlock ≠ some g) → g < w2.heap.size → w4.heap[g]? = w2.heap[g]? := by
    rintro g (⟨hg1, hg2⟩ | ⟨hg1, hg2⟩) hg3
    · exact keepA g hg3 (fun e => by have := hg g e; omega)
    · exact keepA g hg3 hg2
  have avl' : ∀ g, avl av w0 ov g → g < w2.heap.size → avl av w0 v' g := by
    rintro g (hg1 | ⟨hg1, hg2⟩) hg3
    · exact Or.inl hg1
    · refine Or.inr ⟨hg1, fun e => ?_⟩
      rcases a4 with a4 | a4
      · exact hg2 (a4 ▸ e)
      · have := a4 g e; omega
  have e0 : (runE m z s1 l (i + 1)).2 = (runE m z s1 l i).2 ++ [(m (runE m z s1 l i).1 (l.getD i z)).2] := by rw [runE]
  have hln := runE_len m z s1 l i
  have hbk : ∀ g, avl av w0 ov g → g ≠ K.b := by
    rintro g (hg1 | ⟨hg1, _⟩)
    · exact (hav g hg1.1).1
    · omega
  have f1 : Fr K.base K.b p w0 wy := h.ws.fr.trans (Fr.new h1 (by omega))
  have f2 := f1.fresh h3 hs0
  have hcc : cc.length = i * E.n := r1.1
  refine ⟨v', w4, a1, ⟨hK.stable h2 q4, ⟨f2.below.trans (hw4.mono (by omega)), fun g c t f e1 e2 e3 => ?_⟩, ?_⟩, cc ++ es, a2, fun j hj => ?_⟩
  · have hlt := (Array.getElem?_eq_some_iff.1 e1).1
    rw [keepA g (by omega) (fun e => by have := hg g e; omega)]
    exact f2.keeps g c t f e1 e2 e3
  · refine PAt.of_block (w := wr) h.ws.pa ?_
    obtain ⟨c, t, f, e1, e2⟩ := h.ws.pa.2
    rw [keepA p (by omega) (fun e => by have := hg _ e; omega)]
    exact keepR p ⟨c, t, f, e1, e2⟩ hpb
  · rw [e0, List.length_append, hln] at hj
    have hj : j < i + 1 := hj
    rcases Nat.lt_or_ge j i with hji | hji
    · obtain ⟨es', e1, e2⟩ := r2 j (by rw [hln]; exact hji)
      refine ⟨es', ?_, fun q hq => ?_⟩
      · have e3 : (runE m z s1 l (i + 1)).2[j]'(by rw [runE_len]; exact hj) = (runE m z s1 l i).2[j]'(by rw [hln]; exact hji) := by
          have : (runE m z s1 l (i + 1)).2[j]? = (runE m z s1 l i).2[j]? := by rw [e0, List.getElem?_append_left (by rw [hln]; exact hji)]
          rw [List.getElem?_eq_getElem (by rw [runE_len]; exact hj), List.getElem?_eq_getElem (by rw [hln]; exact hji)] at this
          exact Option.some.inj this
        rw [e3]
        have r4 : E.rep (fun g => avl av w0 ov g ∧ g < wr.heap.size) wr es' _ := hE.weak e1 fun g h5 h6 => ⟨h5, h6⟩
        have r5 : E.rep (fun g => avl av w0 ov g ∧ g < wr.heap.size) w4 es' _ := hE.keep r4 fun g c t f e4 e5 e6 => by
          rw [nb4 g e6.1 (by omega)]
          exact keepR g ⟨c, t, f, e4, e5⟩ (hbk g e6.1)
        exact hE.weak r5 fun g h5 _ => avl' g h5.1 (by omega)
      · rw [List.getElem?_append_left (by
          rw [hcc]
          have : (j + 1) * E.n ≤ i * E.n := Nat.mul_le_mul_right _ hji
          rw [Nat.add_mul] at this; omega)]
        exact e2 q hq
    · obtain rfl : j = i := by omega
      refine ⟨es, ?_, fun q hq => ?_⟩
      · have e3 : (runE m z s1 l (j + 1)).2[j]'(by rw [runE_len]; exact hj) = (m (runE m z s1 l j).1 (l.getD j z)).2 := by
          have : (runE m z s1 l (j + 1)).2[j]? = some (m (runE m z s1 l j).1 (l.getD j z)).2 := by
            rw [e0, List.getElem?_append_right (by rw [hln]; omega), hln, Nat.sub_self]; rfl
          rw [List.getElem?_eq_getElem (by rw [runE_len]; exact hj)] at this
          exact Option.some.inj this
        rw [e3]
        have hfa : ∀ g, fresh (fun k => av k ∧ k < w0.heap.size) wy g → avl av w0 ov g := by
          rintro g (hg1 | hg1)
          · exact Or.inl hg1
          · exact Or.inr ⟨by omega, fun e => by have := hg g e; omega⟩
        have r4 : E.rep (fun g => avl av w0 ov g ∧ g < w2.heap.size) w2 es _ := hE.weak h4 fun g h5 h6 => ⟨hfa g h5, h6⟩
        have r5 : E.rep (fun g => avl av w0 ov g ∧ g < w2.heap.size) w4 es _ := hE.keep r4 fun g c t f e4 e5 e6 => nb4 g e6.1 e6.2
        exact hE.weak r5 fun g h5 _ => avl' g h5.1 h5.2
      · have e5 : j * E.n + q - j * E.n = q := by omega
        rw [List.getElem?_append_right (by rw [hcc]; omega), hcc, e5]
/-- The row is a slice of what has been walked over. -/
theorem SlS.done (hE : E.OK) (hT : ElT T ST E.n ev zc) (h : SlS K E T m z s1 l p cs av w0 i ov wr) (hi : i ≤ 1000000) (hp : p < w0.heap.size) (hav : ∀ i, av i → i ≠ K.b ∧ i ≠ p) (o : Nat) : RdS E (fresh av w0) (wr.setCell ⟨p, o, none⟩ ov) ov (runE m z s1 l i).2 := by
  obtain ⟨cc, r1, r2⟩ := h.row
  have hln := runE_len m z s1 l i
  have key : RdS E (fresh av w0) wr ov (runE m z s1 l i).2 := by
    have r1' := r1
    obtain ⟨h1, h2⟩ := r1
    rcases h2 with ⟨e, h0⟩ | ⟨g, cap, cur, e, hg, hh, hc, hm, hsz, htk⟩
    · refine ⟨none, 0, by rw [hln, e, h0], by omega, by omega, by omega, fun h => by omega⟩
    · refine ⟨some ⟨g, 0, none⟩, cap, by rw [hln, e], by omega, by unfold maxLen at hm; omega, by omega, fun h0 => ⟨g, 0, cur, T, (0, 0), rfl, hh, hT.ne, Or.inr hg, fun j hj => ?_⟩⟩
      obtain ⟨es, e1, e2⟩ := r2 j hj
      refine ⟨es, hE.weak e1 (by
        rintro g' (h5 | ⟨h5, _⟩) _
        · exact Or.inl h5.1
        · exact Or.inr h5), fun q hq => ?_⟩
      rw [← e2 q hq]
      have hlt : j * E.n + q < cc.length := by
        rw [h1]
        have : (j + 1) * E.n ≤ i * E.n := Nat.mul_le_mul_right _ (by omega)
        rw [Nat.add_mul] at this; omega
      have := World.ownsRow.cells r1' (g := g) (by rw [e]; rfl) (j * E.n + q) _ (List.getElem?_eq_getElem hlt)
      rw [Addr.add_mid, Nat.zero_add] at this
      rw [Nat.zero_add, this, List.getElem?_eq_getElem hlt]
  refine key.keep hE fun g c t f _ _ hg => Below.heap_setCell _ _ _ _ ?_
  rcases hg with hg | hg
  · exact (hav g hg).2
  · show g ≠ p
    omega
/-- The end: the row is stored where the slice was. -/
theorem SlS.post (hK : K.OK) (hE : E.OK) (hT : ElT T ST E.n ev zc) (h : SlS K E T m z s1 l p cs av w0 i ov wr) (hi : i ≤ 1000000) (hp : p < w0.heap.size) (hpb : p ≠ K.b) (hbase : K.base ≤ p) (hav : ∀ i, av i → i ≠ K.b ∧ i ≠ p) (o : Nat) (ho : o < cs.length) : WPost K (sliE E) (runE m z s1 l i) p o cs av w0 (wr.setCell ⟨p, o, none⟩ ov) := by
  refine ⟨hK.stable h.ws.st (h.ws.pa.quiet hbase hpb o ov), h.ws.fr.trans (Fr.setCell _ _ _ hbase), [ov], ?_, ov, rfl, h.done hE hT hi hp hav o⟩
  rw [← putL_one ho]
  exact h.ws.pa.set o ho ov
end
end Go.Proofs.Ytpknalpdcfjffaa
/- The operations on elements in a plain list; the element types of an entry. No walk. -/
namespace Go.Proofs.Ytpknalpdcfjffaa
open Go Go.RowKit

section
variable {T ST : TypeId} {n : Nat} {ev : List Value → Value} {zc : List Value} {ops : Array Oper} {rest : List Oper} {op : Oper} {a : Act} {w : World} {Q : Exit → Act → World → Prop}
theorem list_run (hgd : op.guard = none) (v : Value) (w' : World) (hrun : (execOp a.eval op).run Try.prog w = .ok (.value v) w') (h : wpList Try.prog ops Q rest (a.put op.dst v) w') : wpList Try.prog ops Q (op :: rest) a w := by
  refine wpList_plain hgd fun K hK => ?_
  unfold Oper.wp
  rw [hrun]
  exact hK _ _ h
theorem list_skip (hgd : op.guard = none) (w' : World) (hrun : (execOp a.eval op).run Try.prog w = .ok .skip w') (h : wpList Try.prog ops Q rest (a.put op.dst undef) w') : wpList Try.prog ops Q (op :: rest) a w := by
  refine wpList_plain hgd fun K hK => ?_
  unfold Oper.wp
  rw [hrun]
  exact hK _ _ h
theorem list_load (hT : ElT T ST n ev zc) (hgd : op.guard = none) (x : Operand) (ho : op.op = .load T x) (b o : Nat) (hx : a.eval x = .pointer (some ⟨b, o, none⟩)) (es : List Value) (hl : es.length = n) (hr : w.rangeAt b o es)
    (k : wpList Try.prog ops Q rest (a.put op.dst (ev es)) w) : wpList Try.prog ops Q (op :: rest) a w := by
  refine list_run hgd _ w ?_ k
  unfold execOp
  simp only [ho, hx, Instr.loadAt, Instr.sureAddr, Sem.run_bind, Sem.run_pure, Result.andThen_ok, hT.load w b o es hl hr]
theorem list_store (hT : ElT T ST n ev zc) (hgd : op.guard = none) (x y : Operand) (ho : op.op = .store T x y) (b : Nat) (hx : a.eval x = .pointer (some ⟨b, 0, none⟩)) (es : List Value) (hy : a.eval y = ev es) (hl : es.length = n) (h1 : ∀ v ∈ es, v.oneCell' = true) (ht : w.there b 0 n)
    (k : wpList Try.prog ops Q rest (a.put op.dst undef) (w.setCells b 0 es)) : wpList Try.prog ops Q (op :: rest) a w := by
  refine list_skip hgd _ ?_ k
  unfold execOp
  simp only [ho, hx, hy, Instr.storeAt, Instr.sureAddr, Sem.run_bind, Sem.run_pure, Result.andThen_ok, hT.store w b 0 es hl h1 ht]
theorem list_lit (hT : ElT T ST n ev zc) (hgd : op.guard = none) (y : Operand) (ho : op.op = .buildSlice ST 1 #[(0, y)]) (es : List Value) (hy : a.eval y = ev es) (hl : es.length = n) (h1 : ∀ v ∈ es, v.oneCell' = true)
    (k : wpList Try.prog ops Q rest (a.put op.dst (.slice (some ⟨w.heap.size, 0, none⟩) 1 1)) (w.alloc (.cells es.toArray T))) : wpList Try.prog ops Q (op :: rest) a w := by
  refine list_run hgd _ _ ?_ k
  have e : (#[(0, y)] : Array (Nat × Operand)).map (fun (q : Nat × Operand) => (q.1, a.eval q.2)) = #[(0, ev es)] := by simp [hy]
  unfold execOp
  simp only [ho, e, Sem.run_bind, Sem.run_pure, Result.andThen_ok, hT.lit w es hl h1]
end
def aggOf (es : List Value) : Value := .agg es.toArray
def oneOf (es : List Value) : Value := es.headD undef
theorem elT_row {T ST : TypeId} {n : Nat} {zc : List Value} {d : TypeDesc} (hs : Try.prog.underlying ST = some (.slice T)) (hu : Try.prog.underlying T = some d) (hd : d.isRow = true) {z : Value} {by_ : Nat} (hi : (Try.prog.info? T).map (fun i => (i.zero, i.size, i.bytes)) = some (some z, n, by_)) (hz : z.cells = zc.toArray) (hb : by_ ≤ 1000) (hT : T ≠ 5) (h0 : 0 < n) (h1 : n ≤ 100) (hl : zc.length = n) : ElT T ST n aggOf zc := by
  refine ⟨hs, ⟨z, by_, hi, hz, hb⟩, hT, h0, h1, hl, fun es _ _ => rfl, fun w b o es hes hr => ?_⟩
  obtain ⟨i0, hi', _, hz1, _⟩ := info_parts hi
  exact run_loadVar_mid w b o T es d hr hu hd (by rw [hi']; simp [hz1, hes])
theorem elT_one {T ST : TypeId} {zc : List Value} {d : TypeDesc} (hs : Try.prog.underlying ST = some (.slice T)) (hu : Try.prog.underlying T = some d) (hd : (match d with | .struct _ | .array _ _ => false | _ => true) = true) {z : Value} {by_ : Nat} (hi : (Try.prog.info? T).map (fun i => (i.zero, i.size, i.bytes)) = some (some z, 1, by_)) (hz : z.cells = zc.toArray) (hb : by_ ≤ 1000) (hT : T ≠ 5) (hl : zc.length = 1) : ElT T ST 1 oneOf zc := by
  refine ⟨hs, ⟨z, by_, hi, hz, hb⟩, hT, by omega, by omega, hl, fun es hes h1 => ?_, fun w b o es hes hr => ?_⟩
  · obtain ⟨e, rfl⟩ : ∃ e, es = [e] := by
      match es, hes with
      | [e], _ => exact ⟨e, rfl⟩
    have := h1 e (by simp)
    unfold oneOf
    cases e <;> first | rfl | cases this
  · obtain ⟨e, rfl⟩ : ∃ e, es = [e] := by
      match es, hes with
      | [e], _ => exact ⟨e, rfl⟩
    have hc : w.cell? ⟨b, o, none⟩ = some e := hr 0 e rfl
    have hagg : (isAgg T).run Try.prog w = .ok false w := by
      unfold isAgg
      rw [Sem.run_bind, run_underlying hu w]
      cases d <;> simp_all
    simp [loadVar, Sem.run_bind, hagg, hc, oneOf, go_sem]
theorem rdT : ElT 81 29 2 aggOf [.int .i64 0, .int .i64 0] := elT_row Try.underlying29 Try.underlying81 rfl (z := .agg #[.int .i64 0, .int .i64 0]) (by_ := 16) (by kernel_rfl) rfl (by decide) (by decide) (by decide) (by decide) rfl
theorem intT : ElT 3 37 1 oneOf [.int .i64 0] := elT_one Try.underlying37 Try.underlying3 rfl (z := .int .i64 0) (by_ := 8) (by kernel_rfl) rfl (by decide) (by decide) rfl
theorem strT : ElT 9 48 1 oneOf [.string ⟨#[]⟩] := elT_one Try.underlying48 Try.underlying9 rfl (z := .string ⟨#[]⟩) (by_ := 16) (by kernel_rfl) rfl (by decide) (by decide) rfl
theorem cntT : ElT 106 104 3 aggOf [.string ⟨#[]⟩, .int .i64 0, .int .i64 0] := elT_row Try.underlying104 Try.underlying106 rfl (z := .agg #[.string ⟨#[]⟩, .int .i64 0, .int .i64 0]) (by_ := 32) (by kernel_rfl) rfl (by decide) (by decide) (by decide) (by decide) rfl
theorem cntsT : ElT 104 47 1 oneOf [.slice none 0 0] := elT_one Try.underlying47 Try.underlying104 rfl (z := .slice none 0 0) (by_ := 24) (by kernel_rfl) rfl (by decide) (by decide) rfl
theorem repT : ElT 31 36 8 aggOf [.int .i64 0, .string ⟨#[]⟩, .int .i64 0, .int .i64 0, .int .i64 0, .int .i64 0, .int .i64 0, .slice none 0 0] :=
  elT_row Try.underlying36 Try.underlying31 rfl (z := .agg #[.int .i64 0, .string ⟨#[]⟩, .int .i64 0, .int .i64 0, .int .i64 0, .int .i64 0, .int .i64 0, .slice none 0 0]) (by_ := 88) (by kernel_rfl) rfl (by decide) (by decide) (by decide) (by decide) rfl
/-- An element where it lies. -/
theorem RdS.at {α : Type} {E : El α} {av : Nat → Prop} {w : World} {a : Option Addr} {n c : Nat} {l : List α} (hE : E.OK) (h : RdS E av w (.slice a n c) l) (i : Nat) (hi : i < l.length) : ∃ (ab ao : Nat) (es : List Value), a = some ⟨ab, ao, none⟩ ∧ E.rep av w es l[i] ∧ w.rangeAt ab (ao + i * E.n) es := by
  obtain ⟨a', c', e, _, _, _, h4⟩ := h
  obtain ⟨ab, ao, cs, t, f, ea, _, _, _, hc⟩ := h4 (by omega)
  obtain ⟨es, e1, e2⟩ := hc i hi
  obtain ⟨rfl, _⟩ : a = a' ∧ _ := by simpa using e
  refine ⟨ab, ao, es, ea, e1, fun j v hv => ?_⟩
  have hj : j < E.n := by
    rw [← hE.len e1]
    exact (List.getElem?_eq_some_iff.1 hv).1
  rw [e2 j hj, hv]
end Go.Proofs.Ytpknalpdcfjffaa
/- An entry, its item, its period and its cycle in memory. No walk. -/
namespace Go.Proofs.Ytpknalpdcfjffaa
open Go Go.RowKit

structure Itm where
  rep : Rep
  corr : Int
  arr : Int
structure Per where
  from_ : Int
  closed : Bool
  pl : Pla
  bias : List (Int × Int)
def Wk.itm {σ : Type} (k : Wk σ) (s : σ) (x : Itm) : σ × Itm :=
  let a := k.rep s x.rep
  let b := k.int a.1 x.corr
  let c := k.int b.1 x.arr
  (c.1, ⟨a.2, b.2, c.2⟩)
def Wk.per {σ : Type} (k : Wk σ) (s : σ) (x : Per) : σ × Per :=
  let a := k.int s x.from_
  let b := k.bool a.1 x.closed
  let c := k.place b.1 x.pl
  let d := k.slice k.reading (0, 0) c.1 x.bias
  (d.1, ⟨a.2, b.2, c.2, d.2⟩)
theorem Wk.Mono.itm {σ : Type} {k : Wk σ} (h : k.Mono) (s : σ) (x : Itm) : k.sz s ≤ k.sz (k.itm s x).1 := Nat.le_trans (Nat.le_trans (h.rep _ _) (h.int _ _)) (h.int _ _)
theorem Wk.Mono.per {σ : Type} {k : Wk σ} (h : k.Mono) (s : σ) (x : Per) : k.sz s ≤ k.sz (k.per s x).1 := Nat.le_trans (Nat.le_trans (Nat.le_trans (h.int _ _) (h.bool _ _)) (h.place _ _)) (h.slice h.reading _ _ _)
def anaCells (x : Ana) (a b c : Value) : List Value := [a, b, c, .int .i64 x.hi, .int .u64 x.lo, .int .i64 x.anchor, .int .i64 x.radius, .int .i64 x.rounds]
def anaE : El Ana := ⟨8, fun av w cs x => ∃ a b c, cs = anaCells x a b c ∧ RdS intE av w a x.bg ∧ RdS intE av w b x.inc ∧ RdS intE av w c x.field ∧ I64 x.hi ∧ x.lo < 18446744073709551616 ∧ I64 x.anchor ∧ I64 x.radius ∧ I64 x.rounds⟩
def itmE : El Itm := ⟨10, fun av w cs x => ∃ v, cs = repCells x.rep v ++ [.int .i64 x.corr, .int .i64 x.arr] ∧ (I64 x.rep.kind ∧ x.rep.name.size ≤ 10000000 ∧ I64 x.rep.time ∧ okPla x.rep.pl ∧ RdS rdE av w v x.rep.rds) ∧ I64 x.corr ∧ I64 x.arr⟩
def perE : El Per := ⟨7, fun av w cs x => ∃ v, cs = [.int .i64 x.from_, .bool x.closed, .int .i64 x.pl.f, .int .i64 x.pl.a, .int .i64 x.pl.b, .int .i64 x.pl.c, v] ∧ I64 x.from_ ∧ okPla x.pl ∧ RdS rdE av w v x.bias⟩
def cycCells (x : Cyc) (v0 v1 v2 v3 v4 v5 v6 v7 : Value) : List Value :=
  [.int .i64 x.number, .int .i64 x.time, .int .i64 x.cutoff, v0, v1, v2, v3, .int .i64 x.ana.hi, .int .u64 x.ana.lo, .int .i64 x.ana.anchor, .int .i64 x.ana.radius, .int .i64 x.ana.rounds, .int .i64 x.freq, v4, v5, v6, v7]
def cycE : El Cyc := ⟨17, fun av w cs x => ∃ v0 v1 v2 v3 v4 v5 v6 v7, cs = cycCells x v0 v1 v2 v3 v4 v5 v6 v7 ∧ I64 x.number ∧ I64 x.time ∧ I64 x.cutoff ∧ RdS repE av w v0 x.reps ∧
  (RdS intE av w v1 x.ana.bg ∧ RdS intE av w v2 x.ana.inc ∧ RdS intE av w v3 x.ana.field ∧ I64 x.ana.hi ∧ x.ana.lo < 18446744073709551616 ∧ I64 x.ana.anchor ∧ I64 x.ana.radius ∧ I64 x.ana.rounds) ∧
  I64 x.freq ∧ RdS intE av w v4 x.depth ∧ RdS intE av w v5 x.flow ∧ RdS (sliE cntE) av w v6 x.cycles ∧ RdS strE av w v7 x.listed⟩
theorem RdS.one {α : Type} {E : El α} {av : Nat → Prop} {w : World} {v : Value} {l : List α} (h : RdS E av w v l) : v.oneCell' = true := by
  obtain ⟨a, c, rfl⟩ := h.slice
  rfl
theorem anaE_ok : anaE.OK :=
  ⟨by decide, by rintro _ _ _ _ ⟨a, b, c, rfl, _⟩; rfl, by
    rintro _ _ _ _ ⟨a, b, c, rfl, h1, h2, h3, _⟩ u hu
    simp only [anaCells, List.mem_cons, List.not_mem_nil, or_false] at hu
    rcases hu with rfl | rfl | rfl | rfl | rfl | rfl | rfl | rfl <;> first | exact h1.one | exact h2.one | exact h3.one | rfl,
    fun ⟨a, b, c, e, h1, h2, h3, h⟩ hk => ⟨a, b, c, e, h1.keep intE_ok hk, h2.keep intE_ok hk, h3.keep intE_ok hk, h⟩, fun ⟨a, b, c, e, h1, h2, h3, h⟩ hk => ⟨a, b, c, e, h1.weak intE_ok hk, h2.weak intE_ok hk, h3.weak intE_ok hk, h⟩⟩
theorem itmE_ok : itmE.OK :=
  ⟨by decide, by rintro _ _ _ _ ⟨v, rfl, _⟩; rfl, by
    rintro _ _ _ _ ⟨v, rfl, ⟨_, _, _, _, h⟩, _⟩ u hu
    simp only [repCells, List.cons_append, List.nil_append, List.mem_cons, List.not_mem_nil, or_false] at hu
    rcases hu with rfl | rfl | rfl | rfl | rfl | rfl | rfl | rfl | rfl | rfl <;> first | exact h.one | rfl,
    fun ⟨v, e, ⟨h1, h2, h3, h4, h⟩, h5⟩ hk => ⟨v, e, ⟨h1, h2, h3, h4, h.keep rdE_ok hk⟩, h5⟩, fun ⟨v, e, ⟨h1, h2, h3, h4, h⟩, h5⟩ hk => ⟨v, e, ⟨h1, h2, h3, h4, h.weak rdE_ok hk⟩, h5⟩⟩
theorem perE_ok : perE.OK :=
  ⟨by decide, by rintro _ _ _ _ ⟨v, rfl, _⟩; rfl, by
    rintro _ _ _ _ ⟨v, rfl, _, _, h⟩ u hu
    simp only [List.mem_cons, List.not_mem_nil, or_false] at hu
    rcases hu with rfl | rfl | rfl | rfl | rfl | rfl | rfl <;> first | exact h.one | rfl,
    fun ⟨v, e, h1, h2, h⟩ hk => ⟨v, e, h1, h2, h.keep rdE_ok hk⟩, fun ⟨v, e, h1, h2, h⟩ hk => ⟨v, e, h1, h2, h.weak rdE_ok hk⟩⟩
theorem cycE_ok : cycE.OK :=
  ⟨by decide, by rintro _ _ _ _ ⟨v0, v1, v2, v3, v4, v5, v6, v7, rfl, _⟩; rfl, by
    rintro _ _ _ _ ⟨v0, v1, v2, v3, v4, v5, v6, v7, rfl, _, _, _, h0, ⟨h1, h2, h3, _⟩, _, h4, h5, h6, h7⟩ u hu
    simp only [cycCells, List.mem_cons, List.not_mem_nil, or_false] at hu
    rcases hu with rfl | rfl | rfl | rfl | rfl | rfl | rfl | rfl | rfl | rfl | rfl | rfl | rfl | rfl | rfl | rfl | rfl <;> first | exact h0.one | exact h1.one | exact h2.one | exact h3.one | exact h4.one | exact h5.one | exact h6.one | exact h7.one | rfl,
    fun ⟨v0, v1, v2, v3, v4, v5, v6, v7, e, a, b, c, h0, ⟨h1, h2, h3, d⟩, f, h4, h5, h6, h7⟩ hk => ⟨v0, v1, v2, v3, v4, v5, v6, v7, e, a, b, c, h0.keep repE_ok hk, ⟨h1.keep intE_ok hk, h2.keep intE_ok hk, h3.keep intE_ok hk, d⟩, f, h4.keep intE_ok hk, h5.keep intE_ok hk, h6.keep (sliE_ok cntE_ok) hk, h7.keep strE_ok hk⟩,
    fun ⟨v0, v1, v2, v3, v4, v5, v6, v7, e, a, b, c, h0, ⟨h1, h2, h3, d⟩, f, h4, h5, h6, h7⟩ hk => ⟨v0, v1, v2, v3, v4, v5, v6, v7, e, a, b, c, h0.weak repE_ok hk, ⟨h1.weak intE_ok hk, h2.weak intE_ok hk, h3.weak intE_ok hk, d⟩, f, h4.weak intE_ok hk, h5.weak intE_ok hk, h6.weak (sliE_ok cntE_ok) hk, h7.weak strE_ok hk⟩⟩
end Go.Proofs.Ytpknalpdcfjffaa
/- Stores and loads of a whole value in a plain list of operations; what follows asks of the world by name. No walk. -/
namespace Go.Proofs.Ytpknalpdcfjffaa
open Go Go.RowKit

section
variable {T : TypeId} {ops : Array Oper} {rest : List Oper} {op : Oper} {a : Act} {w : World} {Q : Exit → Act → World → Prop}
theorem list_storeAgg (hgd : op.guard = none) (x y : Operand) (ho : op.op = .store T x y) (b o : Nat) (hx : a.eval x = .pointer (some ⟨b, o, none⟩)) (es : List Value) (hy : a.eval y = .agg es.toArray) (hsz : (Try.prog.info? T).map (·.size) = some es.length) (h1 : ∀ v ∈ es, v.oneCell' = true) (ht : w.there b o es.length)
    (k : ∀ w', w' = w.setCells b o es → wpList Try.prog ops Q rest (a.put op.dst undef) w') : wpList Try.prog ops Q (op :: rest) a w := by
  have hst : (storeVar T ⟨b, o, none⟩ (.agg es.toArray)).run Try.prog w = .ok () (w.setCells b o es) :=
    run_storeVar_mid w b o T es.toArray (by rw [List.size_toArray]; exact ht) (by rw [hsz, List.size_toArray]) (all_oneCell_toArray h1)
  refine list_skip hgd _ ?_ (k _ rfl)
  unfold execOp
  simp only [ho, hx, hy, Instr.storeAt, Instr.sureAddr, Sem.run_bind, Sem.run_pure, Result.andThen_ok, hst]
end
theorem list_loadAgg {T : TypeId} {ops : Array Oper} {rest : List Oper} {op : Oper} {a : Act} {w : World} {Q : Exit → Act → World → Prop} {ad : Addr} {v : Value} (hrun : (loadVar T ad).run Try.prog w = .ok v w) (hgd : op.guard = none) (x : Operand) (ho : op.op = .load T x) (hx : a.eval x = .pointer (some ad))
    (k : wpList Try.prog ops Q rest (a.put op.dst v) w) : wpList Try.prog ops Q (op :: rest) a w := by
  refine list_run hgd _ w ?_ k
  unfold execOp
  simp only [ho, hx, Instr.loadAt, Instr.sureAddr, Sem.run_bind, Sem.run_pure, Result.andThen_ok, hrun]
theorem list_skipE {ops : Array Oper} {rest : List Oper} {op : Oper} {a : Act} {w : World} {Q : Exit → Act → World → Prop} {T : TypeId} (hgd : op.guard = none) (x y : Operand) (_ho : op.op = .store T x y) (w' : World) (hrun : (execOp a.eval op).run Try.prog w = .ok .skip w') (h : ∀ w'', w'' = w' → wpList Try.prog ops Q rest (a.put op.dst undef) w'') : wpList Try.prog ops Q (op :: rest) a w := list_skip hgd _ hrun (h _ rfl)
theorem list_storeEl {T ST : TypeId} {n : Nat} {ev : List Value → Value} {zc : List Value} {ops : Array Oper} {rest : List Oper} {op : Oper} {a : Act} {w : World} {Q : Exit → Act → World → Prop} (hT : ElT T ST n ev zc) (hgd : op.guard = none) (x y : Operand) (ho : op.op = .store T x y) (b o : Nat) (hx : a.eval x = .pointer (some ⟨b, o, none⟩)) (es : List Value) (hy : a.eval y = ev es) (hl : es.length = n) (h1 : ∀ v ∈ es, v.oneCell' = true) (ht : w.there b o n)
    (k : ∀ w', w' = w.setCells b o es → wpList Try.prog ops Q rest (a.put op.dst undef) w') : wpList Try.prog ops Q (op :: rest) a w := by
  refine list_skip hgd _ ?_ (k _ rfl)
  unfold execOp
  simp only [ho, hx, hy, Instr.storeAt, Instr.sureAddr, Sem.run_bind, Sem.run_pure, Result.andThen_ok, hT.store w b o es hl h1 ht]
theorem PAt.thereMid {w : World} {p : Nat} {cs : List Value} (h : PAt w p cs) (o n : Nat) (hn : o + n ≤ cs.length) : w.there p o n := fun j hj => by
  have := h.1.there (n := cs.length) (Nat.le_refl _) (o + j) (by omega)
  simpa [Addr.add, Nat.zero_add] using this
theorem all_one {es : List Value} (h : es.all (·.oneCell') = true) : ∀ v ∈ es, v.oneCell' = true := List.all_eq_true.1 h
end Go.Proofs.Ytpknalpdcfjffaa
/- The icosahedron's grid of frequency one, plain: places, their normal addresses, nodes, and where a place is among them. No program. -/
namespace Go.Proofs.Ytpknalpdcfjffaa
open Go

/-- A place: a face and three weights. -/
structure Pl where
  f : Int
  a : Int
  b : Int
  c : Int
deriving DecidableEq
/-- The corners of a face. -/
def crn (f : Nat) : Nat × Nat × Nat :=
  if f / 5 = 0 then (0, 1 + f % 5, 1 + (f % 5 + 1) % 5)
  else if f / 5 = 1 then (1 + f % 5, 6 + f % 5, 1 + (f % 5 + 1) % 5)
  else if f / 5 = 2 then (6 + f % 5, 6 + (f % 5 + 1) % 5, 1 + (f % 5 + 1) % 5)
  else (11, 6 + (f % 5 + 1) % 5, 6 + f % 5)
theorem crn_lt (f : Nat) : (crn f).1 < 12 ∧ (crn f).2.1 < 12 ∧ (crn f).2.2 < 12 := by
  unfold crn
  split
  · simp; omega
  · split
    · simp; omega
    · split <;> (simp; omega)
theorem crn_ne : ∀ f, f < 20 → (crn f).1 ≠ (crn f).2.1 ∧ (crn f).1 ≠ (crn f).2.2 ∧ (crn f).2.1 ≠ (crn f).2.2 := by decide
/-- The weights of the twelve vertices. -/
def wgt (p : Pl) : List Int := (((List.replicate 12 (0 : Int)).set (crn p.f.toNat).1 p.a).set (crn p.f.toNat).2.1 p.b).set (crn p.f.toNat).2.2 p.c
theorem wgt_length (p : Pl) : (wgt p).length = 12 := by simp [wgt]
/-- The address of weights on a face. -/
def onP (f : Nat) (w : List Int) : Pl := ⟨f, w.getD (crn f).1 0, w.getD (crn f).2.1 0, w.getD (crn f).2.2 0⟩
def onB (f : Nat) (w : List Int) : Bool := decide ((onP f w).a + (onP f w).b + (onP f w).c = 840)
/-- The addresses of weights on the first k faces. -/
def adr (w : List Int) : Nat → List Pl
  | 0 => []
  | k + 1 => adr w k ++ if onB k w = true then [onP k w] else []
def norP (p : Pl) : Pl := (adr (wgt p) 20).headD ⟨0, 0, 0, 0⟩
/-- The places at a face's vertices. -/
def vtx (f : Nat) : List Pl := [⟨f, 0, 0, 840⟩, ⟨f, 0, 840, 0⟩, ⟨f, 840, 0, 0⟩]
def nodes1 : List Pl := (List.range 20).flatMap fun f => (vtx f).filter fun p => norP p == p
theorem nodes1_length : nodes1.length = 12 := by decide +kernel
def lessP (p q : Pl) : Bool := if p.f ≠ q.f then decide (p.f < q.f) else if p.a ≠ q.a then decide (p.a < q.a) else decide (p.b < q.b)
/-- The search among places. -/
def fnd (l : List Pl) (p : Pl) : Nat → Nat → Nat → Nat × Nat
  | 0, lo, hi => (lo, hi)
  | k + 1, lo, hi => if lo < hi then (if lessP (l.getD ((lo + hi) / 2) ⟨0, 0, 0, 0⟩) p = true then fnd l p k ((lo + hi) / 2 + 1) hi else fnd l p k lo ((lo + hi) / 2)) else (lo, hi)
/-- Where a place is, by the faces. -/
def idx1 (p : Pl) : Nat := (nodes1.takeWhile fun q => q != norP p).length
theorem nor_all : ∀ f, f < 20 → ∀ p ∈ vtx f, adr (wgt p) 20 ≠ [] ∧ (fnd nodes1 (norP p) 12 0 12).1 = idx1 p ∧ idx1 p < 12 ∧ nodes1.getD (idx1 p) ⟨0, 0, 0, 0⟩ = norP p := by decide +kernel
end Go.Proofs.Ytpknalpdcfjffaa
/- The reference's places: valid, corners, weights, addresses. -/
namespace Go.Proofs.Ytpknalpdcfjffaa
open Go Go.RowKit

def Pl.val (p : Pl) : Value := .agg #[.int .i64 p.f, .int .i64 p.a, .int .i64 p.b, .int .i64 p.c]
/-- A place with the weights of a face. -/
def Pl.Ok (p : Pl) : Prop := 0 ≤ p.f ∧ p.f < 20 ∧ 0 ≤ p.a ∧ p.a ≤ 840 ∧ 0 ≤ p.b ∧ p.b ≤ 840 ∧ 0 ≤ p.c ∧ p.c ≤ 840 ∧ p.a + p.b + p.c = 840
set_option maxHeartbeats 4000000 in
theorem valid_any (p : Pl) (h : p.Ok) (w : World) : Calls Try.prog 93 #[p.val] w fun e w' => e = .returned (.bool true) ∧ Below w.heap.size w w' := by
  obtain ⟨f, a, b, c⟩ := p
  obtain ⟨h1, h2, h3, h4, h5, h6, h7, h8, h9⟩ := h
  unfold Pl.val
  simp only at *
  have hs : ((a + b + c : Int) == 840) = true := by simpa using h9
  clear h9
  go_enter Try.func93, Try.ntmps93
  go_wp2_with fail
  go_ret
  exact ⟨rfl, (Below.refl _ _).alloc (Nat.le_refl _) _⟩
def crnV (f : Nat) : Value := .agg #[.int .i64 (crn f).1, .int .i64 (crn f).2.1, .int .i64 (crn f).2.2]
set_option maxHeartbeats 16000000 in
theorem corners_any (f : Nat) (hf : f < 20) (w : World) : Calls Try.prog 96 #[.int .i64 f] w fun e w' => e = .returned (.tuple #[crnV f, .int .i64 0]) ∧ Below w.heap.size w w' := by
  have hs : f = 0 ∨ f = 1 ∨ f = 2 ∨ f = 3 ∨ f = 4 ∨ f = 5 ∨ f = 6 ∨ f = 7 ∨ f = 8 ∨ f = 9 ∨ f = 10 ∨ f = 11 ∨ f = 12 ∨ f = 13 ∨ f = 14 ∨ f = 15 ∨ f = 16 ∨ f = 17 ∨ f = 18 ∨ f = 19 := by omega
  clear hf
  rcases hs with rfl | rfl | rfl | rfl | rfl | rfl | rfl | rfl | rfl | rfl | rfl | rfl | rfl | rfl | rfl | rfl | rfl | rfl | rfl | rfl
  all_goals
    go_enter Try.func96, Try.ntmps96
    go_wp2_with fail
    refine bodyPost_ret (v := .tuple #[crnV _, .int .i64 0]) (by simp [results, Try.results96, go_sem]; rfl) rfl ⟨rfl, ?_⟩
    first
      | exact (((Below.refl _ _).alloc (Nat.le_refl _) _).setCell (Nat.le_refl _) _).setCell (Nat.le_refl _) _
      | exact ((((Below.refl _ _).alloc (Nat.le_refl _) _).setCell (Nat.le_refl _) _).setCell (Nat.le_refl _) _).setCell (Nat.le_refl _) _
      | exact ((Below.refl _ _).alloc (Nat.le_refl _) _).setCell (Nat.le_refl _) _
      | exact (Below.refl _ _).alloc (Nat.le_refl _) _
end Go.Proofs.Ytpknalpdcfjffaa
/- The reference's places: weights, and the address on a face. -/
namespace Go.Proofs.Ytpknalpdcfjffaa
open Go Go.RowKit

theorem cell_alloc {w : World} {a : Addr} {v : Value} (o : Obj) (h : w.cell? a = some v) : (w.alloc o).cell? a = some v := cell_then ((Below.refl _ _).alloc (Nat.le_refl _) o) h
theorem cell_new (w : World) (cs : Array Value) (t : TypeId) {H i : Nat} {v : Value} (hH : w.heap.size = H) (hv : cs[i]? = some v) : (w.alloc (.cells cs t)).cell? ⟨H, i, none⟩ = some v := by
  subst hH; simpa using hv
theorem soft_new (w : World) (cs : Array Value) (t : TypeId) {H : Nat} (hH : w.heap.size = H) (i : Nat) : (w.alloc (.cells cs t)).frozen? ⟨H, i, none⟩ = false := by
  subst hH; simp
theorem rowT_w : RowT 208 12 := ⟨by kernel_rfl, _, Try.underlying208, rfl⟩
def wgtV (p : Pl) : Value := .agg ((wgt p).map (Value.int .i64)).toArray
set_option maxHeartbeats 16000000 in
theorem weights_any (f : Nat) (hf : f < 20) (a b c : Int) (w : World) : Calls Try.prog 94 #[Pl.val ⟨f, a, b, c⟩] w fun e w' => e = .returned (wgtV ⟨f, a, b, c⟩) ∧ Below w.heap.size w w' := by
  obtain ⟨h0, h1, h2⟩ := crn_lt f
  obtain ⟨e0, e1, e2⟩ := crn_ne f hf
  have HC := Lib.hid (fun w' => corners_any f hf w')
  have HW : Hid (wgtV ⟨f, a, b, c⟩ = .agg ((((List.replicate 12 (Value.int .i64 0)).set (crn f).1 (.int .i64 a)).set (crn f).2.1 (.int .i64 b)).set (crn f).2.2 (.int .i64 c)).toArray) := by
    unfold Hid wgtV wgt
    simp [List.map_set]
  rw [HW.out]
  unfold Pl.val
  unfold crnV at HC
  generalize (crn f).1 = x at *
  generalize (crn f).2.1 = y at *
  generalize (crn f).2.2 = z at *
  have x0 : (0 : Int) ≤ (x : Int) := by omega
  have y0 : (0 : Int) ≤ (y : Int) := by omega
  have z0 : (0 : Int) ≤ (z : Int) := by omega
  have x1 : (x : Int) < 12 := by omega
  have y1 : (y : Int) < 12 := by omega
  have z1 : (z : Int) < 12 := by omega
  clear h0 h1 h2 hf HW
  go_enter Try.func94, Try.ntmps94
  go_wp2_with fail
  refine (HC.out _).mono ?_
  rintro e w1 ⟨rfl, hb⟩
  go_wp2_with fail
  obtain ⟨wz, hwz⟩ : ∃ wz, wz = w1.alloc (.cells #[.int .i64 x, .int .i64 y, .int .i64 z] 212) := ⟨_, rfl⟩
  obtain ⟨cb, hcb⟩ : ∃ cb, cb = w1.heap.size := ⟨_, rfl⟩
  obtain ⟨hh, hhe⟩ : ∃ hh, hh = w.heap.size + 1 + 1 := ⟨_, rfl⟩
  have k0 : wz.cell? ⟨w.heap.size, 1, none⟩ = some (.int .i64 a) := by rw [hwz]; exact cell_alloc _ (cell_then hb (cell_alloc _ (cell_alloc _ (by simp))))
  have k1 : wz.cell? ⟨w.heap.size, 2, none⟩ = some (.int .i64 b) := by rw [hwz]; exact cell_alloc _ (cell_then hb (cell_alloc _ (cell_alloc _ (by simp))))
  have k2 : wz.cell? ⟨w.heap.size, 3, none⟩ = some (.int .i64 c) := by rw [hwz]; exact cell_alloc _ (cell_then hb (cell_alloc _ (cell_alloc _ (by simp))))
  have l0 : wz.cell? ⟨cb, 0, none⟩ = some (.int .i64 x) := by rw [hwz, hcb]; simp
  have l1 : wz.cell? ⟨cb, 1, none⟩ = some (.int .i64 y) := by rw [hwz, hcb]; simp
  have l2 : wz.cell? ⟨cb, 2, none⟩ = some (.int .i64 z) := by rw [hwz, hcb]; simp
  have hsz : hh < w1.heap.size := by have := hb.size; simp at this; omega
  have KA : ∀ j : Nat, j < 12 → wz.cell? ⟨hh, j, none⟩ = some (.int .i64 0) := by
    intro j hj
    rw [hwz, hhe]
    refine cell_alloc _ (cell_then hb (cell_new _ _ _ (by simp) ?_))
    have : j = 0 ∨ j = 1 ∨ j = 2 ∨ j = 3 ∨ j = 4 ∨ j = 5 ∨ j = 6 ∨ j = 7 ∨ j = 8 ∨ j = 9 ∨ j = 10 ∨ j = 11 := by omega
    rcases this with rfl | rfl | rfl | rfl | rfl | rfl | rfl | rfl | rfl | rfl | rfl | rfl <;> simp
  have KF : ∀ j : Nat, wz.frozen? ⟨hh, j, none⟩ = false := by
    intro j
    have h1 : (w1.alloc (.cells #[.int .i64 x, .int .i64 y, .int .i64 z] 212)).frozen? ⟨hh, j, none⟩ = w1.frozen? ⟨hh, j, none⟩ := World.frozen?_of_block (w := w1) (Below.heap_alloc _ _ _ hsz)
    rw [hwz, h1, hhe, hb.frozen (p := ⟨w.heap.size + 1 + 1, j, none⟩) (by simp)]
    exact soft_new _ _ _ (by simp) j
  have m0 := KA x (by omega)
  have m1 := KA y (by omega)
  have m2 := KA z (by omega)
  have n0 := KF x
  have n1 := KF y
  have n2 := KF z
  have g0 : ¬ hh = cb := by omega
  have g1 : ¬ hh = w.heap.size := by omega
  have g2 : ¬ cb = hh := by omega
  have g3 : ¬ w.heap.size = hh := by omega
  rw [← hwz, ← hcb, ← hhe]
  have HKA := Lib.hid KA
  have HKF := Lib.hid KF
  have HB := Lib.hid hb
  have Hwz := Lib.hid hwz
  have Hhe := Lib.hid hhe
  have Hsz := Lib.hid hsz
  clear KA KF hb hwz hcb hhe hsz
  have d0 : ¬ x = y := e0
  have d1 : ¬ x = z := e1
  have d2 : ¬ y = z := e2
  have d3 : ¬ y = x := fun e => e0 e.symm
  have d4 : ¬ z = x := fun e => e1 e.symm
  have d5 : ¬ z = y := fun e => e2 e.symm
  clear e0 e1 e2
  have HR : Hid (RowAt wz hh (List.replicate 12 (Value.int .i64 0))) := by
    refine ⟨by simp, fun i hi => ?_, fun i hi => HKF.out i⟩
    rw [List.length_replicate] at hi
    rw [HKA.out i hi, List.getElem?_replicate, if_pos hi]
  have HR2 : Hid (RowAt wz (w.heap.size + 1) (List.replicate 12 (Value.int .i64 0))) := by
    unfold Hid
    rw [Hwz.out]
    exact ((((RowAt.new _ (List.replicate 12 (Value.int .i64 0)) (by simp) _ (by simp)).alloc _).below HB.out).alloc _)
  have Hb1 : Hid (w.heap.size + 1 < hh) := by unfold Hid; have := Hhe.out; omega
  have Hfin : Hid (Below w.heap.size w wz) := by
    unfold Hid
    rw [Hwz.out]
    exact (((((Below.refl _ _).alloc (Nat.le_refl _) _).alloc (by simp) _).alloc (by simp; omega) _).trans (HB.out.mono (by simp; omega))).alloc (by have := HB.out.size; simp at this; omega) _
  go_region
  obtain ⟨wy, hwy⟩ : ∃ wy, wy = ((wz.setCell ⟨hh, x, none⟩ (.int .i64 a)).setCell ⟨hh, y, none⟩ (.int .i64 b)).setCell ⟨hh, z, none⟩ (.int .i64 c) := ⟨_, rfl⟩
  have HRy : Hid (RowAt wy hh ((((List.replicate 12 (Value.int .i64 0)).set x (.int .i64 a)).set y (.int .i64 b)).set z (.int .i64 c))) := by
    unfold Hid; rw [hwy]
    exact ((HR.out.set x (by simp; omega) _).set y (by simp; omega) _).set z (by simp; omega) _
  have HR2y : Hid (RowAt wy (w.heap.size + 1) (List.replicate 12 (Value.int .i64 0))) := by
    unfold Hid; rw [hwy]
    exact ((HR2.out.other (by have := Hb1.out; simp; omega) _).other (by have := Hb1.out; simp; omega) _).other (by have := Hb1.out; simp; omega) _
  have Hfy : Hid (Below w.heap.size w wy) := by
    unfold Hid; rw [hwy]
    exact ((Hfin.out.setCell (by have := Hb1.out; simp; omega) _).setCell (by have := Hb1.out; simp; omega) _).setCell (by have := Hb1.out; simp; omega) _
  rw [← hwy]
  clear hwy
  have ho : ∀ v ∈ ((((List.replicate 12 (Value.int .i64 0)).set x (.int .i64 a)).set y (.int .i64 b)).set z (.int .i64 c)), v.oneCell' = true := by
    intro v hv
    rcases List.mem_or_eq_of_mem_set hv with hv | rfl
    · rcases List.mem_or_eq_of_mem_set hv with hv | rfl
      · rcases List.mem_or_eq_of_mem_set hv with hv | rfl
        · rw [(List.mem_replicate.1 hv).2]; rfl
        · rfl
      · rfl
    · rfl
  have Ho := Lib.hid ho
  clear ho HR HR2 Hfin HKA HKF HB Hwz k0 k1 k2 l0 l1 l2 m0 m1 m2 n0 n1 n2
  go_wp2_with (first
    | (refine row_load rfl _ rfl _ rfl _ HRy.out (by rw [List.length_set, List.length_set, List.length_set, List.length_replicate]; exact rowT_w) ?_)
    | (refine row_store rfl _ _ rfl _ rfl _ _ rfl HR2y.out (by simp) (by rw [List.length_replicate]; exact rowT_w) Ho.out ?_; intro wq EQ HQ))
  refine ret_row rfl _ _ EQ (by rw [List.length_set, List.length_set, List.length_set, List.length_replicate]; exact rowT_w) rfl rfl ⟨rfl, Hfy.out.drew.trans (HQ.below (B := w.heap.size) (Nat.le_succ _))⟩
end Go.Proofs.Ytpknalpdcfjffaa
/- The reference's places: the address on a face. -/
namespace Go.Proofs.Ytpknalpdcfjffaa
open Go Go.RowKit

theorem rowT_p : RowT 28 4 := ⟨by kernel_rfl, _, Try.underlying28, rfl⟩
def Pl.cells (p : Pl) : List Value := [.int .i64 p.f, .int .i64 p.a, .int .i64 p.b, .int .i64 p.c]
theorem Pl.one (p : Pl) : ∀ v ∈ p.cells, v.oneCell' = true := by intro v hv; simp [Pl.cells] at hv; rcases hv with rfl | rfl | rfl | rfl <;> rfl
def WOk (l : List Int) : Prop := l.length = 12 ∧ ∀ x ∈ l, 0 ≤ x ∧ x ≤ 840
def wV (l : List Int) : Value := .agg (l.map (Value.int .i64)).toArray
def FOn (f a b c : Int) (q : Bool) (pb : Nat) (k : Nat) (v : Value) (_ : World) : Prop := match k with
  | 0 => v = .agg (Pl.cells ⟨f, a, b, c⟩).toArray
  | 1 => v = .pointer (some ⟨pb, 1, none⟩)
  | 2 => v = .int .i64 a
  | 3 => v = .pointer (some ⟨pb, 2, none⟩)
  | 4 => v = .int .i64 b
  | 5 => v = .int .i64 (a + b)
  | 6 => v = .pointer (some ⟨pb, 3, none⟩)
  | 7 => v = .int .i64 c
  | 8 => v = .int .i64 (a + b + c)
  | 9 => v = .bool q
  | 11 => v = .bool q
  | _ => True
/-- What the world holds in region 3. -/
def SOn (w : World) (f a b c : Int) (pb : Nat) (d : Nat → Bool) (w' : World) : Prop := RowAt w' pb (Pl.cells ⟨f, a, b, c⟩) ∧ Below w.heap.size w w' ∧ (d 10 = true → RowAt w' (w.heap.size + 1) (Pl.cells ⟨f, a, b, c⟩)) ∧ (d 10 = false → RowAt w' (w.heap.size + 1) (Pl.cells ⟨0, 0, 0, 0⟩))
set_option maxHeartbeats 16000000 in
set_option maxRecDepth 100000 in
theorem on_any (f : Nat) (hf : f < 20) (l : List Int) (hl : WOk l) (w : World) : Calls Try.prog 95 #[.int .i64 f, wV l] w fun e w' => e = .returned (.tuple #[(onP f l).val, .bool (onB f l)]) ∧ Below w.heap.size w w' := by
  obtain ⟨h0, h1, h2⟩ := crn_lt f
  have HC := Lib.hid (fun w' => corners_any f hf w')
  have hP : (onP f l).val = .agg #[.int .i64 f, .int .i64 (l.getD (crn f).1 0), .int .i64 (l.getD (crn f).2.1 0), .int .i64 (l.getD (crn f).2.2 0)] := rfl
  have hB : onB f l = decide (l.getD (crn f).1 0 + l.getD (crn f).2.1 0 + l.getD (crn f).2.2 0 = 840) := rfl
  have hr : ∀ j, j < 12 → 0 ≤ l.getD j 0 ∧ l.getD j 0 ≤ 840 ∧ l[j]? = some (l.getD j 0) := by
    intro j hj
    have hjl : j < l.length := by have := hl.1; omega
    have := hl.2 _ (List.getElem_mem hjl)
    rw [List.getD_eq_getElem?_getD, List.getElem?_eq_getElem hjl]
    exact ⟨this.1, this.2, rfl⟩
  obtain ⟨a0, a1, a2⟩ := hr _ h0
  obtain ⟨b0, b1, b2⟩ := hr _ h1
  obtain ⟨c0, c1, c2⟩ := hr _ h2
  rw [hP, hB]
  unfold crnV at HC
  generalize l.getD (crn f).1 0 = a at *
  generalize l.getD (crn f).2.1 0 = b at *
  generalize l.getD (crn f).2.2 0 = c at *
  generalize (crn f).1 = x at *
  generalize (crn f).2.1 = y at *
  generalize (crn f).2.2 = z at *
  have x0 : (0 : Int) ≤ (x : Int) := by omega
  have y0 : (0 : Int) ≤ (y : Int) := by omega
  have z0 : (0 : Int) ≤ (z : Int) := by omega
  have x1 : (x : Int) < 12 := by omega
  have y1 : (y : Int) < 12 := by omega
  have z1 : (z : Int) < 12 := by omega
  obtain ⟨q, hq⟩ : ∃ q, q = decide (a + b + c = 840) := ⟨_, rfl⟩
  rw [← hq]
  have Hq := Lib.hid hq
  have Hl := Lib.hid hl.1
  have Ha2 := Lib.hid a2
  have Hb2 := Lib.hid b2
  have Hc2 := Lib.hid c2
  have hone : ∀ v ∈ l.map (Value.int .i64), v.oneCell' = true := by intro v hv; obtain ⟨z, _, rfl⟩ := List.mem_map.1 hv; rfl
  have Hone := Lib.hid hone
  clear h0 h1 h2 hf hP hB hr a2 b2 c2 hl hq hone
  unfold wV
  generalize hcs : l.map (Value.int .i64) = cs at *
  have HL : Hid (cs.length = 12) := by unfold Hid; rw [← hcs, List.length_map]; exact Hl.out
  have Hx : Hid (cs[x]? = some (.int .i64 a)) := by unfold Hid; rw [← hcs, List.getElem?_map, Ha2.out]; rfl
  have Hy : Hid (cs[y]? = some (.int .i64 b)) := by unfold Hid; rw [← hcs, List.getElem?_map, Hb2.out]; rfl
  have Hz : Hid (cs[z]? = some (.int .i64 c)) := by unfold Hid; rw [← hcs, List.getElem?_map, Hc2.out]; rfl
  clear hcs
  go_enter Try.func95, Try.ntmps95
  go_wp2_with fail
  refine (HC.out _).mono ?_
  rintro e w1 ⟨rfl, hb⟩
  go_wp2_with fail
  obtain ⟨wz, hwz⟩ : ∃ wz, wz = w1.alloc (.cells #[.int .i64 x, .int .i64 y, .int .i64 z] 212) := ⟨_, rfl⟩
  obtain ⟨cb, hcb⟩ : ∃ cb, cb = w1.heap.size := ⟨_, rfl⟩
  have l0 : wz.cell? ⟨cb, 0, none⟩ = some (.int .i64 x) := by rw [hwz, hcb]; simp
  have l1 : wz.cell? ⟨cb, 1, none⟩ = some (.int .i64 y) := by rw [hwz, hcb]; simp
  have l2 : wz.cell? ⟨cb, 2, none⟩ = some (.int .i64 z) := by rw [hwz, hcb]; simp
  have HR : Hid (RowAt wz w.heap.size cs) := by
    unfold Hid
    rw [hwz]
    exact (((RowAt.new _ cs (by have := HL.out; omega) _ rfl).alloc _).below hb).alloc _
  have HR2 : Hid (RowAt wz (w.heap.size + 1) (Pl.cells ⟨0, 0, 0, 0⟩)) := by
    unfold Hid
    rw [hwz]
    exact ((RowAt.new _ (Pl.cells ⟨0, 0, 0, 0⟩) (by simp [Pl.cells]) _ (by simp)).below hb).alloc _
  have Hfin : Hid (Below w.heap.size w wz) := by
    unfold Hid
    rw [hwz]
    exact ((((Below.refl _ _).alloc (Nat.le_refl _) _).alloc (by simp) _).trans (hb.mono (by simp; omega))).alloc (by have := hb.size; simp at this; omega) _
  have hsz : w.heap.size + 1 < cb := by have := hb.size; simp at this; omega
  rw [← hwz, ← hcb]
  have m0 := HR.out.at x Hx.out
  have m1 := HR.out.at y Hy.out
  have m2 := HR.out.at z Hz.out
  have hcz : wz.heap.size = cb + 1 := by rw [hwz, hcb]; simp
  have Hcz := Lib.hid hcz
  have L0 : ∀ o, (wz.alloc o).cell? ⟨cb, 0, none⟩ = some (.int .i64 x) := fun o => cell_alloc o l0
  have L1 : ∀ o, (wz.alloc o).cell? ⟨cb, 1, none⟩ = some (.int .i64 y) := fun o => cell_alloc o l1
  have L2 : ∀ o, (wz.alloc o).cell? ⟨cb, 2, none⟩ = some (.int .i64 z) := fun o => cell_alloc o l2
  have M0 : ∀ o, (wz.alloc o).cell? ⟨w.heap.size, x, none⟩ = some (.int .i64 a) := fun o => cell_alloc o m0
  have M1 : ∀ o, (wz.alloc o).cell? ⟨w.heap.size, y, none⟩ = some (.int .i64 b) := fun o => cell_alloc o m1
  have M2 : ∀ o, (wz.alloc o).cell? ⟨w.heap.size, z, none⟩ = some (.int .i64 c) := fun o => cell_alloc o m2
  clear hwz hcb hb hcz
  go_region
  clear L0 L1 L2 M0 M1 M2 l0 l1 l2 m0 m1 m2
  go_upto_region 3 with fail
  obtain ⟨pb, hpb⟩ : ∃ pb, pb = wz.heap.size := ⟨_, rfl⟩
  have HPy : Hid (RowAt (wz.alloc (.cells #[.int .i64 f, .int .i64 a, .int .i64 b, .int .i64 c] 28)).drew pb (Pl.cells ⟨f, a, b, c⟩)) := by rw [hpb]; exact (RowAt.new _ (Pl.cells ⟨f, a, b, c⟩) (by simp [Pl.cells]) _ rfl).drew
  have HRy : Hid (RowAt (wz.alloc (.cells #[.int .i64 f, .int .i64 a, .int .i64 b, .int .i64 c] 28)).drew (w.heap.size + 1) (Pl.cells ⟨0, 0, 0, 0⟩)) := (HR2.out.alloc _).drew
  have Hfy : Hid (Below w.heap.size w (wz.alloc (.cells #[.int .i64 f, .int .i64 a, .int .i64 b, .int .i64 c] 28)).drew) := (Hfin.out.alloc Hfin.out.size _).drew
  have Hpb : Hid (w.heap.size + 1 < pb) := by have := Hcz.out; unfold Hid; omega
  have Hpn : Hid (pb ≠ w.heap.size + 1) := by have := Hpb.out; unfold Hid; omega
  have He5 : Hid (IntKind.i64.wrap (a + b) = a + b) := IntWalk.i64_in _ (by omega)
  have He8 : Hid (IntKind.i64.wrap (a + b + c) = a + b + c) := IntWalk.i64_in _ (by omega)
  have Hqe : Hid ((a + b + c == 840) = q) := by unfold Hid; rw [Hq.out]; rfl
  rw [← hpb]
  clear hpb
  refine wp_region_slots (by kernel_rfl) 38 rfl (by kernel_rfl) (by kernel_rfl) 5 33 (by kernel_rfl) (SOn w f a b c pb) (FOn f a b c q pb) ?hS0 ?hop ?hend
  case hS0 => exact ⟨HPy.out.drew, Hfy.out.drew, fun h => by simp at h, fun _ => HRy.out.drew⟩
  case hop =>
    refine ⟨?_, ?_, ?_, ?_, ?_, ?_, ?_, ?_, ?_, ?_, ?_, ?_, trivial⟩
    all_goals intro d ac wx hd hcl hS hA haft K hK
    · have f8 : ac.tmps.getD 8 undef = .pointer (some ⟨pb, 0, none⟩) := same_slot hA 8 (by kernel_rfl)
      exact hop_row_load rfl _ rfl _ f8 _ hS.1 rowT_p (hK _ _ rfl (fun _ _ _ h => h) (show SOn w f a b c pb (fun k => k == 0 || d k) wx from ⟨hS.1, hS.2.1, fun h => hS.2.2.1 (by simpa using h), fun h => hS.2.2.2 (by simpa using h)⟩))
    · have f8 : ac.tmps.getD 8 undef = .pointer (some ⟨pb, 0, none⟩) := same_slot hA 8 (by kernel_rfl)
      refine hop_val rfl (.pointer (some ⟨pb, 1, none⟩)) (w' := wx) ?_ (hK _ _ rfl (fun _ _ _ h => h) (show SOn w f a b c pb (fun k => k == 1 || d k) wx from ⟨hS.1, hS.2.1, fun h => hS.2.2.1 (by simpa using h), fun h => hS.2.2.2 (by simpa using h)⟩))
      simp [execOp, Act.eval, f8, go_sem, -Array.getD_eq_getD_getElem?]
    · have f29 : ac.tmps.getD 29 undef = .pointer (some ⟨pb, 1, none⟩) := (haft ⟨1, .data⟩ (by simp) rfl).2 _ rfl
      have c1 := hS.1.at 1 rfl
      refine hop_val rfl (.int .i64 a) (w' := wx) ?_ (hK _ _ rfl (fun _ _ _ h => h) (show SOn w f a b c pb (fun k => k == 2 || d k) wx from ⟨hS.1, hS.2.1, fun h => hS.2.2.1 (by simpa using h), fun h => hS.2.2.2 (by simpa using h)⟩))
      simp [execOp, Act.eval, f29, c1, go_sem, -Array.getD_eq_getD_getElem?]
    · have f8 : ac.tmps.getD 8 undef = .pointer (some ⟨pb, 0, none⟩) := same_slot hA 8 (by kernel_rfl)
      refine hop_val rfl (.pointer (some ⟨pb, 2, none⟩)) (w' := wx) ?_ (hK _ _ rfl (fun _ _ _ h => h) (show SOn w f a b c pb (fun k => k == 3 || d k) wx from ⟨hS.1, hS.2.1, fun h => hS.2.2.1 (by simpa using h), fun h => hS.2.2.2 (by simpa using h)⟩))
      simp [execOp, Act.eval, f8, go_sem, -Array.getD_eq_getD_getElem?]
    · have f31 : ac.tmps.getD 31 undef = .pointer (some ⟨pb, 2, none⟩) := (haft ⟨3, .data⟩ (by simp) rfl).2 _ rfl
      have c2 := hS.1.at 2 rfl
      refine hop_val rfl (.int .i64 b) (w' := wx) ?_ (hK _ _ rfl (fun _ _ _ h => h) (show SOn w f a b c pb (fun k => k == 4 || d k) wx from ⟨hS.1, hS.2.1, fun h => hS.2.2.1 (by simpa using h), fun h => hS.2.2.2 (by simpa using h)⟩))
      simp [execOp, Act.eval, f31, c2, go_sem, -Array.getD_eq_getD_getElem?]
    · have f30 : ac.tmps.getD 30 undef = .int .i64 a := (haft ⟨2, .data⟩ (by simp) rfl).2 _ rfl
      have f32 : ac.tmps.getD 32 undef = .int .i64 b := (haft ⟨4, .data⟩ (by simp) rfl).2 _ rfl
      refine hop_val rfl (.int .i64 (a + b)) (w' := wx) ?_ (hK _ _ rfl (fun _ _ _ h => h) (show SOn w f a b c pb (fun k => k == 5 || d k) wx from ⟨hS.1, hS.2.1, fun h => hS.2.2.1 (by simpa using h), fun h => hS.2.2.2 (by simpa using h)⟩))
      simp [execOp, Act.eval, f30, f32, go_sem, -Array.getD_eq_getD_getElem?]
      exact He5.out
    · have f8 : ac.tmps.getD 8 undef = .pointer (some ⟨pb, 0, none⟩) := same_slot hA 8 (by kernel_rfl)
      refine hop_val rfl (.pointer (some ⟨pb, 3, none⟩)) (w' := wx) ?_ (hK _ _ rfl (fun _ _ _ h => h) (show SOn w f a b c pb (fun k => k == 6 || d k) wx from ⟨hS.1, hS.2.1, fun h => hS.2.2.1 (by simpa using h), fun h => hS.2.2.2 (by simpa using h)⟩))
      simp [execOp, Act.eval, f8, go_sem, -Array.getD_eq_getD_getElem?]
    · have f34 : ac.tmps.getD 34 undef = .pointer (some ⟨pb, 3, none⟩) := (haft ⟨6, .data⟩ (by simp) rfl).2 _ rfl
      have c3 := hS.1.at 3 rfl
      refine hop_val rfl (.int .i64 c) (w' := wx) ?_ (hK _ _ rfl (fun _ _ _ h => h) (show SOn w f a b c pb (fun k => k == 7 || d k) wx from ⟨hS.1, hS.2.1, fun h => hS.2.2.1 (by simpa using h), fun h => hS.2.2.2 (by simpa using h)⟩))
      simp [execOp, Act.eval, f34, c3, go_sem, -Array.getD_eq_getD_getElem?]
    · have f33 : ac.tmps.getD 33 undef = .int .i64 (a + b) := (haft ⟨5, .data⟩ (by simp) rfl).2 _ rfl
      have f35 : ac.tmps.getD 35 undef = .int .i64 c := (haft ⟨7, .data⟩ (by simp) rfl).2 _ rfl
      refine hop_val rfl (.int .i64 (a + b + c)) (w' := wx) ?_ (hK _ _ rfl (fun _ _ _ h => h) (show SOn w f a b c pb (fun k => k == 8 || d k) wx from ⟨hS.1, hS.2.1, fun h => hS.2.2.1 (by simpa using h), fun h => hS.2.2.2 (by simpa using h)⟩))
      simp [execOp, Act.eval, f33, f35, go_sem, -Array.getD_eq_getD_getElem?]
      exact He8.out
    · have f36 : ac.tmps.getD 36 undef = .int .i64 (a + b + c) := (haft ⟨8, .data⟩ (by simp) rfl).2 _ rfl
      refine hop_val rfl (.bool q) (w' := wx) ?_ (hK _ _ rfl (fun _ _ _ h => h) (show SOn w f a b c pb (fun k => k == 9 || d k) wx from ⟨hS.1, hS.2.1, fun h => hS.2.2.1 (by simpa using h), fun h => hS.2.2.2 (by simpa using h)⟩))
      simp [execOp, Act.eval, f36, go_sem, -Array.getD_eq_getD_getElem?]
      exact Hqe.out
    · have f4 : ac.tmps.getD 4 undef = .pointer (some ⟨w.heap.size + 1, 0, none⟩) := same_slot hA 4 (by kernel_rfl)
      have f28 : ac.tmps.getD 28 undef = .agg (Pl.cells ⟨f, a, b, c⟩).toArray := (haft ⟨0, .data⟩ (by simp) rfl).2 _ rfl
      refine hop_row_store rfl _ _ rfl _ f4 _ (Pl.cells ⟨f, a, b, c⟩) f28 (hS.2.2.2 hd) rfl rowT_p (Pl.one _) (fun w3 h3 ha => hK undef _ trivial (fun _ _ _ h => h) ⟨hS.1.apart ha Hpn.out, hS.2.1.trans (ha.below (Nat.le_succ _)), fun _ => h3, fun h => by simp at h⟩)
    · have f37 : ac.tmps.getD 37 undef = .bool q := (haft ⟨9, .data⟩ (by simp) rfl).2 _ rfl
      refine hop_val rfl (.bool q) (w' := wx) ?_ (hK _ _ rfl (fun _ _ _ h => h) (show SOn w f a b c pb (fun k => k == 11 || d k) wx from ⟨hS.1, hS.2.1, fun h => hS.2.2.1 (by simpa using h), fun h => hS.2.2.2 (by simpa using h)⟩))
      simp [execOp, Act.eval, f37, go_sem, -Array.getD_eq_getD_getElem?]
  case hend =>
    intro u w4 d hd hS hF
    have hr := hS.2.2.1 (hd 10 (by decide))
    have hu : u 5 = .bool q := hF 11 _ rfl
    have hbl := hS.2.1
    clear hF hd hS
    simp only [mixL, hu]
    go_wp2_with fail
    exact ret_row2 rfl _ _ _ hr rowT_p rfl rfl rfl ⟨rfl, hbl⟩
end Go.Proofs.Ytpknalpdcfjffaa
/- The reference's places: addresses and the normal one. -/
namespace Go.Proofs.Ytpknalpdcfjffaa
open Go Go.RowKit

/-- Places as cells. -/
def pcells (l : List Pl) : List Value := l.flatMap Pl.cells
theorem pcells_append (a b : List Pl) : pcells (a ++ b) = pcells a ++ pcells b := by simp [pcells]
theorem pcells_length (l : List Pl) : (pcells l).length = l.length * 4 := by
  induction l with
  | nil => rfl
  | cons p r ih => simp [pcells, Pl.cells] at ih ⊢; omega
theorem pcells_at : ∀ (l : List Pl) (i : Nat) (h : i < l.length) (j : Nat), j < 4 → (pcells l)[i * 4 + j]? = (l[i].cells)[j]?
  | p :: r, 0, _, j, hj => by
    show (p.cells ++ pcells r)[0 * 4 + j]? = _
    rw [Nat.zero_mul, Nat.zero_add, List.getElem?_append_left (by show j < 4; exact hj)]; rfl
  | p :: r, i + 1, h, j, hj => by
    show (p.cells ++ pcells r)[(i + 1) * 4 + j]? = _
    rw [List.getElem?_append_right (by show 4 ≤ _; omega)]
    have e : (i + 1) * 4 + j - p.cells.length = i * 4 + j := by show _ - 4 = _; omega
    rw [e]
    exact pcells_at r i (by simpa using h) j hj
/-- v is a slice of places of the call's own. -/
def OwnP (w : World) (base : Nat) (v : Value) (l : List Pl) : Prop := w.ownsRow base 28 4 v l.length (pcells l)
theorem OwnP.nil (w : World) (base : Nat) : OwnP w base (.slice none 0 0) [] := World.ownsRow_nil w base _ 4
theorem OwnP.below {w w' : World} {base : Nat} {v : Value} {l : List Pl} (h : OwnP w base v l) (hb : Below w.heap.size w w') : OwnP w' base v l := ownsRow_below h hb
theorem pinfo : (Try.prog.info? 28).map (fun i => (i.zero, i.size, i.bytes)) = some (some (.agg #[.int .i64 0, .int .i64 0, .int .i64 0, .int .i64 0]), 4, 32) := by kernel_rfl
theorem append_pl {w : World} {base : Nat} {v : Value} {l : List Pl} (h : OwnP w base v l) (p : Pl) (hn : l.length ≤ 1000000000) (hb : base ≤ w.heap.size) (ty : TypeId) :
    ∃ (v' : Value) (w' : World), (Builtin.append_ #[196, 196] ty #[v, .slice (some ⟨w.heap.size, 0, none⟩) 1 1]).run Try.prog (w.alloc (.cells p.cells.toArray 28)) = .ok v' w' ∧
      OwnP w' base v' (l ++ [p]) ∧ Below base w w' := by
  have h1 := append_new 196 28 Try.underlying196 pinfo rfl (by decide) h p.cells 1 rfl p.one hn (by omega) (by decide) hb ty
  unfold OwnP
  rw [pcells_append, List.length_append]
  have : pcells [p] = p.cells := by simp [pcells]
  rw [this]; exact h1
/-- The cells of place i. -/
theorem OwnP.at {w : World} {base : Nat} {v : Value} {l : List Pl} (h : OwnP w base v l) (h0 : 0 < l.length) : ∃ g cap, v = .slice (some ⟨g, 0, none⟩) l.length cap ∧ base ≤ g ∧ l.length ≤ cap ∧ ∀ i, (hi : i < l.length) → w.rangeAt g (i * 4) l[i].cells := by
  have h' := h
  obtain ⟨h1, h2⟩ := h
  rcases h2 with ⟨e, h0'⟩ | ⟨g, cap, cur, e, hg, hh, hc, _⟩
  · omega
  · refine ⟨g, cap, e, hg, hc, fun i hi j u hj => ?_⟩
    have hlt : j < 4 := (List.getElem?_eq_some_iff.1 hj).1
    rw [← pcells_at l i hi j hlt] at hj
    have := World.ownsRow.cells h' (g := g) (by rw [e]; rfl) _ _ hj
    rwa [Go.WideShapes.add_plain, Nat.zero_add] at this
theorem OwnP.mono {w : World} {base B : Nat} {v : Value} {l : List Pl} (h : OwnP w base v l) (hB : B ≤ base) : OwnP w B v l := by
  obtain ⟨h1, h2⟩ := h
  refine ⟨h1, ?_⟩
  rcases h2 with h2 | ⟨g, cap, cur, e, hg, r⟩
  · exact Or.inl h2
  · exact Or.inr ⟨g, cap, cur, e, Nat.le_trans hB hg, r⟩
theorem OwnP.slice {w : World} {base : Nat} {v : Value} {l : List Pl} (h : OwnP w base v l) : ∃ a c, v = .slice a l.length c := by
  rcases h.2 with ⟨e, h0⟩ | ⟨g, cap, cur, e, _⟩
  · exact ⟨none, 0, by rw [e, h0]⟩
  · exact ⟨_, _, e⟩
end Go.Proofs.Ytpknalpdcfjffaa
/- The reference's places: addresses, the normal place, whether a place is normal. -/
namespace Go.Proofs.Ytpknalpdcfjffaa
open Go Go.RowKit

theorem wgt_ok (p : Pl) (h : p.Ok) : WOk (wgt p) := by
  obtain ⟨h1, h2, h3, h4, h5, h6, h7, h8, h9⟩ := h
  refine ⟨wgt_length p, fun x hx => ?_⟩
  unfold wgt at hx
  rcases List.mem_or_eq_of_mem_set hx with hx | rfl
  · rcases List.mem_or_eq_of_mem_set hx with hx | rfl
    · rcases List.mem_or_eq_of_mem_set hx with hx | rfl
      · rw [(List.mem_replicate.1 hx).2]; omega
      · omega
    · omega
  · omega
theorem adr_length (w : List Int) : ∀ k, (adr w k).length ≤ k
  | 0 => Nat.le_refl _
  | k + 1 => by
    have := adr_length w k
    unfold adr
    rw [List.length_append]
    split <;> simp <;> omega
theorem wcells_len (l : List Int) (h : WOk l) : (l.map (Value.int .i64)).length = 12 := by rw [List.length_map]; exact h.1
set_option maxHeartbeats 16000000 in
set_option maxRecDepth 100000 in
theorem addresses_any (f : Nat) (a b c : Int) (hok : Pl.Ok ⟨f, a, b, c⟩) (w : World) :
    Calls Try.prog 91 #[Pl.val ⟨f, a, b, c⟩] w fun e w' => ∃ v, e = .returned (.tuple #[v, .int .i64 0]) ∧ OwnP w' w.heap.size v (adr (wgt ⟨f, a, b, c⟩) 20) ∧ Below w.heap.size w w' := by
  have hf : f < 20 := by have := hok.2.1; simp at this; omega
  have hw := wgt_ok _ hok
  have HW := Lib.hid hw
  have HV := Lib.hid (fun w' => valid_any ⟨f, a, b, c⟩ hok w')
  have HWt := Lib.hid (fun w' => weights_any f hf a b c w')
  have HR0 : Hid (RowAt (w.alloc (.cells (Pl.cells ⟨f, a, b, c⟩).toArray 28)) w.heap.size (Pl.cells ⟨f, a, b, c⟩)) := RowAt.new _ _ (by simp [Pl.cells]) _ rfl
  have HB0 : Hid (Below w.heap.size w (w.alloc (.cells (Pl.cells ⟨f, a, b, c⟩).toArray 28))) := (Below.refl _ _).alloc (Nat.le_refl _) _
  obtain ⟨W, hW⟩ : ∃ W, W = wgt ⟨f, a, b, c⟩ := ⟨_, rfl⟩
  have eW : wgtV ⟨f, a, b, c⟩ = wV W := by rw [hW]; rfl
  rw [eW] at HWt
  unfold wV at HWt
  rw [← hW] at HW ⊢
  have HWl := Lib.hid (wcells_len W HW.out)
  have HW1 : Hid (∀ v ∈ W.map (Value.int .i64), v.oneCell' = true) := by intro v hv; obtain ⟨z, _, rfl⟩ := List.mem_map.1 hv; rfl
  clear hok hw hf hW eW
  unfold Pl.val
  simp only [Pl.cells] at HR0 HB0
  go_enter Try.func91, Try.ntmps91
  go_wp2_with (refine row_load rfl _ rfl _ rfl _ HR0.out rowT_p ?_)
  refine (HV.out _).mono ?_
  rintro e w1 ⟨rfl, hb1⟩
  have HR1 := Lib.hid (HR0.out.below hb1)
  have HB1 := Lib.hid (below_then HB0.out hb1)
  clear hb1
  go_wp2_with (refine row_load rfl _ rfl _ rfl _ HR1.out rowT_p ?_)
  refine (HWt.out _).mono ?_
  rintro e w2 ⟨rfl, hb2⟩
  have HB2 := Lib.hid (below_then HB1.out hb2)
  clear hb2
  have EN : Hid (RowAt (w2.alloc (.cells #[.int .i64 0, .int .i64 0, .int .i64 0, .int .i64 0, .int .i64 0, .int .i64 0, .int .i64 0, .int .i64 0, .int .i64 0, .int .i64 0, .int .i64 0, .int .i64 0] 208)) w2.heap.size (List.replicate 12 (Value.int .i64 0))) := RowAt.new _ (List.replicate 12 (Value.int .i64 0)) (by simp) _ rfl
  have Hal : Hid (∀ w4, ApartR w2.heap.size (w2.alloc (.cells #[.int .i64 0, .int .i64 0, .int .i64 0, .int .i64 0, .int .i64 0, .int .i64 0, .int .i64 0, .int .i64 0, .int .i64 0, .int .i64 0, .int .i64 0, .int .i64 0] 208)) w4 → Below w2.heap.size w2 w4) := fun w4 h => ((Below.refl _ _).alloc (Nat.le_refl _) _).trans (h.below (Nat.le_refl _))
  go_upto_block 0 with (refine row_store rfl _ _ rfl _ rfl _ (W.map (Value.int .i64)) rfl EN.out (by rw [HWl.out]; rfl) rowT_w HW1.out ?_; intro w3 e3 h3)
  have hb3 := Hal.out w3 h3
  have HB3 := Lib.hid (below_then HB2.out hb3)
  obtain ⟨xb, hxb⟩ : ∃ xb, xb = w2.heap.size := ⟨_, rfl⟩
  have HE3 : Hid (RowAt w3 xb (W.map (Value.int .i64))) := by rw [hxb]; exact e3
  rw [← hxb]
  have Hxb : Hid (w.heap.size ≤ xb + 1 ∧ xb + 1 ≤ w3.heap.size) := by unfold Hid; have := e3.lt; have := HB2.out.size; omega
  clear hb3 e3 h3 hxb Hal EN HB2 HB1 HR1 HR0 HB0
  go_wp2_with fail
  go_loopw [5, 6] (fun lv kv wr => ∃ (k : Nat) (ov : Value), ov = lv ∧ kv = .int .i64 k ∧ k ≤ 20 ∧ Hid (OwnP wr (xb + 1) ov (adr W k)) ∧ Hid (RowAt wr xb (W.map (Value.int .i64))) ∧ Hid (Below w.heap.size w wr) ∧ Hid (xb + 1 ≤ wr.heap.size)) (fun _ kv _ => (20 - intOf kv).toNat)
  case atStart => exact ⟨0, _, rfl, rfl, by omega, OwnP.nil _ _, HE3.out, HB3.out, Hxb.out.2⟩
  case round =>
    obtain ⟨k, ov, rfl, rfl, hk, hown, hr, hbr, hxs⟩ := hrel
    clear HE3 HB3
    by_cases hlt : k < 20
    · have k0 : (k : Int) < 20 := by omega
      have HC := Lib.hid (fun w' => on_any k hlt W HW.out w')
      unfold wV Pl.val at HC
      obtain ⟨q, hq⟩ : ∃ q, q = onB k W := ⟨_, rfl⟩
      rw [← hq] at HC
      have Hq := Lib.hid hq
      have HA : Hid (adr W (k + 1) = adr W k ++ if onB k W = true then [onP k W] else []) := rfl
      rw [← hq] at HA
      have Hlen := Lib.hid (adr_length W k)
      clear hq
      generalize onP k W = pp at *
      obtain ⟨pf, pa, pb, pc⟩ := pp
      simp only at HC
      go_wp2_with (refine row_load rfl _ rfl _ rfl _ hr.out (by rw [HWl.out]; exact rowT_w) ?_)
      refine (HC.out _).mono ?_
      rintro e w4 ⟨rfl, hb4⟩
      have HB4 := Lib.hid (below_then hbr.out hb4)
      have HR4 := Lib.hid (hr.out.below hb4)
      have HO4 := Lib.hid (hown.out.below hb4)
      have Hx4 : Hid (xb + 1 ≤ w4.heap.size) := Nat.le_trans hxs.out hb4.size
      have HP4 : Hid (RowAt (w4.alloc (.cells #[.int .i64 pf, .int .i64 pa, .int .i64 pb, .int .i64 pc] 28)) w4.heap.size (Pl.cells ⟨pf, pa, pb, pc⟩)) := RowAt.new _ (Pl.cells ⟨pf, pa, pb, pc⟩) (by simp [Pl.cells]) _ rfl
      clear hb4 hr hown
      cases q
      · go_wp2_with fail
        go_roundw
        case rel => exact ⟨k + 1, ov, rfl, by go_num, by omega, by show OwnP _ _ _ _; rw [HA.out]; simpa using HO4.out.below ((Below.refl _ _).alloc (Nat.le_refl _) _), HR4.out.alloc _, HB4.out.alloc HB4.out.size _, by show xb + 1 ≤ _; have := Hx4.out; simp; omega⟩
        case measure => simp [intOf]; omega
      · have HAp : Hid (∃ (v' : Value) (w' : World), (Builtin.append_ #[196, 196] 196 #[ov, .slice (some ⟨w4.heap.size + 1, 0, none⟩) 1 1]).run Try.prog ((w4.alloc (.cells #[.int .i64 pf, .int .i64 pa, .int .i64 pb, .int .i64 pc] 28)).alloc (.cells #[.int .i64 pf, .int .i64 pa, .int .i64 pb, .int .i64 pc] 28)) = .ok v' w' ∧
            OwnP w' (xb + 1) v' (adr W (k + 1)) ∧ RowAt w' xb (W.map (Value.int .i64)) ∧ Below w.heap.size w w' ∧ xb + 1 ≤ w'.heap.size) := by
          have hal : Below w4.heap.size w4 (w4.alloc (.cells #[.int .i64 pf, .int .i64 pa, .int .i64 pb, .int .i64 pc] 28)) := (Below.refl _ _).alloc (Nat.le_refl _) _
          have e : (w4.alloc (.cells #[.int .i64 pf, .int .i64 pa, .int .i64 pb, .int .i64 pc] 28)).heap.size = w4.heap.size + 1 := by simp
          obtain ⟨v', w', a1, a2, a3⟩ := append_pl (HO4.out.below hal) ⟨pf, pa, pb, pc⟩ (by have := Hlen.out; omega) (by have := Hx4.out; omega) 196
          rw [e] at a1
          exact ⟨v', w', a1, by rw [HA.out]; exact a2, (HR4.out.alloc _).of_block (a3.block _ (Nat.lt_succ_self _)), (below_then HB4.out hal).trans (a3.mono Hxb.out.1), by have := a3.size; have := Hx4.out; omega⟩
        have hsz4 : (Pl.cells ⟨pf, pa, pb, pc⟩).length = 4 := rfl
        go_wp2_with (first
          | (refine row_load rfl _ rfl _ rfl _ HP4.out rowT_p ?_)
          | (at_builtin; obtain ⟨v', w', hrun, hown', hr', hB', hx'⟩ := HAp.out; have Hx' := Lib.hid hx'; have Hrun := Lib.hid hrun; have Hown' := Lib.hid hown'; have HB' := Lib.hid hB'; have Hr' := Lib.hid hr'; clear hrun hown' hB' hr' hx'; refine wpList_append_run rfl _ _ _ rfl _ _ _ _ rfl rfl Hrun.out ?_))
        go_roundw
        case rel => exact ⟨k + 1, v', rfl, by go_num, by omega, Hown'.out, Hr'.out, HB'.out, Hx'.out⟩
        case measure => simp [intOf]; omega
    · obtain rfl : k = 20 := by omega
      obtain ⟨oa, oc, hov⟩ := hown.out.slice
      go_wp2_with fail
      refine bodyPost_ret (v := .tuple #[ov, .int .i64 0]) (by simp [results, Try.results91, go_sem]) rfl ?_
      exact ⟨ov, rfl, hown.out.mono Hxb.out.1, hbr.out⟩
end Go.Proofs.Ytpknalpdcfjffaa
/- The reference's places: the normal place, whether a place is normal. -/
namespace Go.Proofs.Ytpknalpdcfjffaa
open Go Go.RowKit

theorem pl_load {ops : Array Oper} {rest : List Oper} {op : Oper} {a : Act} {w : World} {Q : Exit → Act → World → Prop} (hgd : op.guard = none) (x : Operand) (ho : op.op = .load 28 x)
    (b o : Nat) (hx : a.eval x = .pointer (some ⟨b, o, none⟩)) (p : Pl) (h : w.rangeAt b o p.cells)
    (k : wpList Try.prog ops Q rest (a.put op.dst p.val) w) : wpList Try.prog ops Q (op :: rest) a w := by
  obtain ⟨h0, d, h1, h2⟩ := rowT_p
  exact wpList_load_mid hgd _ x ho b o hx p.cells d h h1 h2 h0 k
/-- A place is loaded though it has a guard. -/
theorem row_load_w {ops : Array Oper} {rest : List Oper} {op : Oper} {a : Act} {w : World} {Q : Exit → Act → World → Prop} {t : TypeId} (hw : Region.wanted op (yielded ops a.tmps) = true) (x : Operand) (ho : op.op = .load t x)
    (b : Nat) (hx : a.eval x = .pointer (some ⟨b, 0, none⟩)) (cs : List Value) (h : RowAt w b cs) (ht : RowT t cs.length)
    (k : wpList Try.prog ops Q rest (a.put op.dst (.agg cs.toArray)) w) : wpList Try.prog ops Q (op :: rest) a w := by
  obtain ⟨h0, d, h1, h2⟩ := ht
  refine wpList_step fun K hK => ?_
  rw [if_pos hw]
  unfold Oper.wp execOp
  simp only [ho, hx, Sem.run_bind, run_loadAt_mid w b 0 t cs d h.range h1 h2 h0, Result.andThen_ok, Sem.run_pure]
  exact hK _ _ k
def AdrOk (p : Pl) : Prop := p.Ok ∧ adr (wgt p) 20 ≠ []
set_option maxHeartbeats 16000000 in
set_option maxRecDepth 100000 in
theorem normal_any (f : Nat) (a b c : Int) (hok : AdrOk ⟨f, a, b, c⟩) (w : World) :
    Calls Try.prog 89 #[Pl.val ⟨f, a, b, c⟩] w fun e w' => e = .returned (.tuple #[(norP ⟨f, a, b, c⟩).val, .int .i64 0]) ∧ Below w.heap.size w w' := by
  have HA := Lib.hid (fun w' => addresses_any f a b c hok.1 w')
  have hlen := adr_length (wgt ⟨f, a, b, c⟩) 20
  have hN : norP ⟨f, a, b, c⟩ = (adr (wgt ⟨f, a, b, c⟩) 20).headD ⟨0, 0, 0, 0⟩ := rfl
  rw [hN]
  have hne := hok.2
  generalize adr (wgt ⟨f, a, b, c⟩) 20 = l at *
  obtain ⟨p, r, rfl⟩ : ∃ p r, l = p :: r := by
    cases l with
    | nil => exact absurd rfl hne
    | cons p r => exact ⟨p, r, rfl⟩
  have HR0 : Hid (RowAt ((w.alloc (.cells (Pl.cells ⟨f, a, b, c⟩).toArray 28)).alloc (.cells (Pl.cells ⟨0, 0, 0, 0⟩).toArray 28)) w.heap.size (Pl.cells ⟨f, a, b, c⟩)) := (RowAt.new _ _ (by simp [Pl.cells]) _ rfl).alloc _
  have HR1 : Hid (RowAt ((w.alloc (.cells (Pl.cells ⟨f, a, b, c⟩).toArray 28)).alloc (.cells (Pl.cells ⟨0, 0, 0, 0⟩).toArray 28)) (w.heap.size + 1) (Pl.cells ⟨0, 0, 0, 0⟩)) := RowAt.new _ _ (by simp [Pl.cells]) _ (by simp)
  have HB0 : Hid (Below w.heap.size w ((w.alloc (.cells (Pl.cells ⟨f, a, b, c⟩).toArray 28)).alloc (.cells (Pl.cells ⟨0, 0, 0, 0⟩).toArray 28))) := ((Below.refl _ _).alloc (Nat.le_refl _) _).alloc (by simp) _
  clear hok hN hne hlen
  unfold Pl.val
  simp only [Pl.cells] at HR0 HB0 HR1
  simp only [List.headD_cons]
  go_enter Try.func89, Try.ntmps89
  go_wp2_with (refine row_load rfl _ rfl _ rfl _ HR0.out rowT_p ?_)
  refine (HA.out _).mono ?_
  rintro e w1 ⟨v, rfl, hown, hb1⟩
  obtain ⟨g, cap, rfl, hg, hcap, hc⟩ := hown.at (by simp)
  have Hc : Hid (w1.rangeAt g 0 p.cells) := by have := hc 0 (by simp); show w1.rangeAt g 0 p.cells; simpa using this
  have HR2 := Lib.hid (HR1.out.below hb1)
  have HB1 := Lib.hid (below_then HB0.out hb1)
  have hl0 : (0 : Int) < ((p :: r).length : Int) := by simp
  clear hown hb1 hg hc hcap
  generalize (p :: r).length = n at *
  obtain ⟨pf, pa, pb, pc⟩ := p
  go_wp2_with (first
    | (refine pl_load rfl _ rfl g 0 rfl _ Hc.out ?_)
    | (refine row_store rfl _ _ rfl _ rfl _ (Pl.cells ⟨pf, pa, pb, pc⟩) rfl HR2.out rfl rowT_p (Pl.one _) ?_; intro w3 e3 h3))
  exact ret_row2 rfl _ _ _ e3 rowT_p rfl rfl rfl ⟨rfl, HB1.out.trans (h3.below (B := w.heap.size) (Nat.le_succ _))⟩
set_option maxHeartbeats 16000000 in
set_option maxRecDepth 100000 in
theorem isNormal_any (f : Nat) (a b c : Int) (hok : AdrOk ⟨f, a, b, c⟩) (q : Bool) (hq : q = decide ((⟨f, a, b, c⟩ : Pl) = norP ⟨f, a, b, c⟩)) (w : World) :
    Calls Try.prog 88 #[Pl.val ⟨f, a, b, c⟩] w fun e w' => e = .returned (.bool q) ∧ Below w.heap.size w w' := by
  have HN := Lib.hid (fun w' => normal_any f a b c hok w')
  generalize norP ⟨f, a, b, c⟩ = p at *
  obtain ⟨pf, pa, pb, pc⟩ := p
  have HR0 : Hid (RowAt (w.alloc (.cells (Pl.cells ⟨f, a, b, c⟩).toArray 28)) w.heap.size (Pl.cells ⟨f, a, b, c⟩)) := RowAt.new _ _ (by simp [Pl.cells]) _ rfl
  have HB0 : Hid (Below w.heap.size w (w.alloc (.cells (Pl.cells ⟨f, a, b, c⟩).toArray 28))) := (Below.refl _ _).alloc (Nat.le_refl _) _
  have Hq := Lib.hid hq
  clear hok hq
  unfold Pl.val at HN ⊢
  simp only [Pl.cells] at HR0 HB0
  simp only at HN
  go_enter Try.func88, Try.ntmps88
  go_wp2_with (refine row_load rfl _ rfl _ rfl _ HR0.out rowT_p ?_)
  refine (HN.out _).mono ?_
  rintro e w1 ⟨rfl, hb1⟩
  have HR1 : Hid (RowAt (w1.alloc (.cells #[.int .i64 pf, .int .i64 pa, .int .i64 pb, .int .i64 pc] 28)) w.heap.size (Pl.cells ⟨f, a, b, c⟩)) := (HR0.out.below hb1).alloc _
  have HR2 : Hid (RowAt (w1.alloc (.cells #[.int .i64 pf, .int .i64 pa, .int .i64 pb, .int .i64 pc] 28)) w1.heap.size (Pl.cells ⟨pf, pa, pb, pc⟩)) := RowAt.new _ (Pl.cells ⟨pf, pa, pb, pc⟩) (by simp [Pl.cells]) _ rfl
  have HB1 : Hid (Below w.heap.size w (w1.alloc (.cells #[.int .i64 pf, .int .i64 pa, .int .i64 pb, .int .i64 pc] 28))) := (below_then HB0.out hb1).alloc (by have := hb1.size; simp at this; omega) _
  clear hb1
  simp only [Pl.cells] at HR1 HR2
  go_wp2_with (first
    | (refine row_load_w rfl _ rfl _ rfl _ HR1.out rowT_p ?_)
    | (refine row_load_w rfl _ rfl _ rfl _ HR2.out rowT_p ?_))
  all_goals
    go_ret
    refine ⟨?_, HB1.out⟩
    rw [Hq.out]
    congr 2
    symm
    first
      | (rw [decide_eq_true_iff, Pl.mk.injEq]; omega)
      | (rw [decide_eq_false_iff_not, Pl.mk.injEq]; omega)
      | (simp; first | omega | (intros; omega) | exact ⟨by assumption, by assumption, by assumption, by assumption⟩)
end Go.Proofs.Ytpknalpdcfjffaa
/- The reference's grid of frequency one: its nodes. -/
namespace Go.Proofs.Ytpknalpdcfjffaa
open Go Go.RowKit

def isN (p : Pl) : Bool := decide (p = norP p)
/-- The nodes on the first k faces and on the first j vertices of the next. -/
def nodesTo (k j : Nat) : List Pl := ((List.range k).flatMap fun f => (vtx f).filter isN) ++ ((vtx k).take j).filter isN
theorem nodesTo_end : nodesTo 20 0 = nodes1 := by decide +kernel
theorem nodesTo_next (k : Nat) : nodesTo k 3 = nodesTo (k + 1) 0 := by
  unfold nodesTo
  rw [List.range_succ, List.flatMap_append]
  simp [vtx]
theorem nodesTo_step (k j : Nat) (p : Pl) (h : (vtx k)[j]? = some p) : nodesTo k (j + 1) = nodesTo k j ++ if isN p = true then [p] else [] := by
  unfold nodesTo
  rw [List.take_add_one, h, List.append_assoc]
  simp only [Option.toList_some, List.filter_append, List.filter_cons, List.filter_nil]
theorem nodesTo_len (k j : Nat) : (nodesTo k j).length ≤ 3 * k + 3 := by
  unfold nodesTo
  have h1 : ∀ k, ((List.range k).flatMap fun f => (vtx f).filter isN).length ≤ 3 * k := by
    intro k
    induction k with
    | zero => simp
    | succ k ih =>
      rw [List.range_succ, List.flatMap_append, List.length_append]
      have : (([k] : List Nat).flatMap fun f => (vtx f).filter isN).length ≤ 3 := by
        simp only [List.flatMap_cons, List.flatMap_nil, List.append_nil]
        exact Nat.le_trans (List.length_filter_le _ _) (by simp [vtx])
      omega
  have h2 : (((vtx k).take j).filter isN).length ≤ 3 := Nat.le_trans (List.length_filter_le _ _) (Nat.le_trans (List.length_take_le' _ _) (by simp [vtx]))
  have := h1 k
  rw [List.length_append]; omega
theorem vtx_ok (f : Nat) (hf : f < 20) (p : Pl) (hp : p ∈ vtx f) : AdrOk p := by
  refine ⟨?_, (nor_all f hf p hp).1⟩
  simp [vtx] at hp
  rcases hp with rfl | rfl | rfl <;> (unfold Pl.Ok; simp; omega)
/-- What a place of the first round is. -/
structure NdS (w : World) (k j : Nat) (v : Value) (wr : World) : Prop where
  own : OwnP wr w.heap.size v (nodesTo k j)
  below : Below w.heap.size w wr
theorem NdS.skip {w wr : World} {k j : Nat} {v : Value} (h : NdS w k j v wr) (e : nodesTo k (j + 1) = nodesTo k j) : NdS w k (j + 1) v wr := ⟨by rw [e]; exact h.own, h.below⟩
theorem NdS.next {w wr : World} {k : Nat} {v : Value} (h : NdS w k 3 v wr) : NdS w (k + 1) 0 v wr := ⟨by rw [← nodesTo_next k]; exact h.own, h.below⟩
def At840 (i : Nat) (v : Value) : Prop := (i = 0 ∧ v = .int .i64 0) ∨ (i = 1 ∧ v = .int .i64 840) ∨ (i = 2 ∧ v = .int .i64 1680)
theorem count_any (w : World) : Calls Try.prog 79 #[.int .i64 1] w fun e w' => e = .returned (.int .i64 12) ∧ w = w' := by
  go_enter Try.func79, Try.ntmps79
  go_wp2_with fail
  go_ret
  exact ⟨rfl, rfl⟩
set_option maxHeartbeats 16000000 in
set_option maxRecDepth 100000 in
theorem nodes_any (w : World) :
    Calls Try.prog 84 #[.int .i64 1] w fun e w' => ∃ v, e = .returned (.tuple #[v, .int .i64 0]) ∧ OwnP w' w.heap.size v nodes1 ∧ Below w.heap.size w w' := by
  go_enter Try.func84, Try.ntmps84
  go_wp2_with fail
  refine (count_any _).mono ?_
  rintro e w1 ⟨rfl, rfl⟩
  go_wp2_with fail
  go_loopw [5, 6] (fun lv kv wr => ∃ (k : Nat) (ov : Value), ov = lv ∧ kv = .int .i64 k ∧ k ≤ 20 ∧ Hid (NdS w k 0 ov wr)) (fun _ kv _ => (20 - intOf kv).toNat)
  case atStart => exact ⟨0, _, rfl, rfl, by omega, OwnP.nil _ _, Below.refl _ _⟩
  case round =>
    obtain ⟨k, ov, rfl, rfl, hk, hs⟩ := hrel
    by_cases hlt : k < 20
    · have k0 : (k : Int) < 20 := by omega
      have Hvx := Lib.hid (fun p hp => vtx_ok k hlt p hp)
      obtain ⟨wout, rfl⟩ : ∃ wout : World, wout = wr := ⟨_, rfl⟩
      go_wp2_with fail
      go_loopw [5, 7] (fun lv av wr => ∃ (i : Nat) (ov : Value), ov = lv ∧ At840 i av ∧ i ≤ 2 ∧ Hid (NdS w k (if i = 0 then 0 else i + 1) ov wr)) (fun _ av _ => (2000 - intOf av).toNat)
      case atStart => exact ⟨0, _, rfl, .inl ⟨rfl, rfl⟩, by omega, hs⟩
      case round =>
        clear hs
        obtain ⟨i, ov, rfl, hav, hi, hs⟩ := hrel
        obtain ⟨wout2, rfl⟩ : ∃ wout2 : World, wout2 = wr := ⟨_, rfl⟩
        rcases hav with ⟨rfl, rfl⟩ | ⟨rfl, rfl⟩ | ⟨rfl, rfl⟩
        · go_wp2_with fail
          go_loopw [5, 8] (fun lv bv wr => ∃ (m : Nat) (ov : Value), ov = lv ∧ At840 m bv ∧ m ≤ 2 ∧ Hid (NdS w k (0 + m) ov wr)) (fun _ bv _ => (2000 - intOf bv).toNat)
          case atStart => exact ⟨0, _, rfl, .inl ⟨rfl, rfl⟩, by omega, hs⟩
          case round =>
            clear hs
            obtain ⟨m, ov, rfl, hbv, hm, hs⟩ := hrel
            rcases hbv with ⟨rfl, rfl⟩ | ⟨rfl, rfl⟩ | ⟨rfl, rfl⟩
            · obtain ⟨q, hq⟩ : ∃ q, q = isN ⟨k, 0, 0, 840⟩ := ⟨_, rfl⟩
              have HN := Lib.hid (fun w' => isNormal_any k 0 0 840 (Hvx.out _ (by simp [vtx])) q hq w')
              unfold Pl.val at HN
              simp only at HN
              have HA : Hid (nodesTo k (0 + 1) = nodesTo k 0 ++ if q = true then [⟨k, 0, 0, 840⟩] else []) := by unfold Hid; rw [hq]; exact nodesTo_step k 0 _ rfl
              have HLn : Hid ((nodesTo k 0).length ≤ 100) := by unfold Hid; have := nodesTo_len k 0; omega
              have HP : Hid (RowAt (wr.alloc (.cells #[.int .i64 (k : Int), .int .i64 0, .int .i64 0, .int .i64 840] 28)) wr.heap.size (Pl.cells ⟨k, 0, 0, 840⟩)) := RowAt.new _ (Pl.cells ⟨k, 0, 0, 840⟩) (by simp [Pl.cells]) _ rfl
              have HS1 : Hid (NdS w k 0 ov (wr.alloc (.cells #[.int .i64 (k : Int), .int .i64 0, .int .i64 0, .int .i64 840] 28))) := ⟨hs.out.own.below ((Below.refl _ _).alloc (Nat.le_refl _) _), hs.out.below.alloc hs.out.below.size _⟩
              simp only [Pl.cells] at HP
              clear hs hq
              go_wp2_with (refine row_load_w rfl _ rfl _ rfl _ HP.out rowT_p ?_)
              refine (HN.out _).mono ?_
              rintro e w6 ⟨rfl, hb6⟩
              have HS6 : Hid (NdS w k 0 ov w6) := ⟨HS1.out.own.below hb6, below_then HS1.out.below hb6⟩
              have HP6 := Lib.hid (HP.out.below hb6)
              clear hb6 HS1 HP
              cases q
              · go_wp2_with fail
                go_roundw
                case rel => exact ⟨1, ov, rfl, .inr (.inl ⟨rfl, rfl⟩), by omega, HS6.out.skip (HA.out.trans (List.append_nil _))⟩
                case measure => simp [intOf]
              · have HAp : Hid (∃ (v' : Value) (w' : World), (Builtin.append_ #[196, 196] 196 #[ov, .slice (some ⟨w6.heap.size, 0, none⟩) 1 1]).run Try.prog (w6.alloc (.cells #[.int .i64 (k : Int), .int .i64 0, .int .i64 0, .int .i64 840] 28)) = .ok v' w' ∧
                    NdS w k (0 + 1) v' w') := by
                  obtain ⟨v', w', a1, a2, a3⟩ := append_pl HS6.out.own ⟨k, 0, 0, 840⟩ (by have := HLn.out; omega) HS6.out.below.size 196
                  exact ⟨v', w', a1, by rw [HA.out]; exact a2, HS6.out.below.trans a3⟩
                go_wp2_with (first
                  | (refine row_load rfl _ rfl _ rfl _ HP6.out rowT_p ?_)
                  | (at_builtin; obtain ⟨v', w', hrun, hs'⟩ := HAp.out; have Hrun := Lib.hid hrun; have Hs' := Lib.hid hs'; clear hrun hs'; refine wpList_append_run rfl _ _ _ rfl _ _ _ _ rfl rfl Hrun.out ?_))
                go_roundw
                case rel => exact ⟨1, v', rfl, .inr (.inl ⟨rfl, rfl⟩), by omega, Hs'.out⟩
                case measure => simp [intOf]
            · obtain ⟨q, hq⟩ : ∃ q, q = isN ⟨k, 0, 840, 0⟩ := ⟨_, rfl⟩
              have HN := Lib.hid (fun w' => isNormal_any k 0 840 0 (Hvx.out _ (by simp [vtx])) q hq w')
              unfold Pl.val at HN
              simp only at HN
              have HA : Hid (nodesTo k (1 + 1) = nodesTo k 1 ++ if q = true then [⟨k, 0, 840, 0⟩] else []) := by unfold Hid; rw [hq]; exact nodesTo_step k 1 _ rfl
              have HLn : Hid ((nodesTo k 1).length ≤ 100) := by unfold Hid; have := nodesTo_len k 1; omega
              have HP : Hid (RowAt (wr.alloc (.cells #[.int .i64 (k : Int), .int .i64 0, .int .i64 840, .int .i64 0] 28)) wr.heap.size (Pl.cells ⟨k, 0, 840, 0⟩)) := RowAt.new _ (Pl.cells ⟨k, 0, 840, 0⟩) (by simp [Pl.cells]) _ rfl
              have HS1 : Hid (NdS w k 1 ov (wr.alloc (.cells #[.int .i64 (k : Int), .int .i64 0, .int .i64 840, .int .i64 0] 28))) := ⟨hs.out.own.below ((Below.refl _ _).alloc (Nat.le_refl _) _), hs.out.below.alloc hs.out.below.size _⟩
              simp only [Pl.cells] at HP
              clear hs hq
              go_wp2_with (refine row_load_w rfl _ rfl _ rfl _ HP.out rowT_p ?_)
              refine (HN.out _).mono ?_
              rintro e w6 ⟨rfl, hb6⟩
              have HS6 : Hid (NdS w k 1 ov w6) := ⟨HS1.out.own.below hb6, below_then HS1.out.below hb6⟩
              have HP6 := Lib.hid (HP.out.below hb6)
              clear hb6 HS1 HP
              cases q
              · go_wp2_with fail
                go_roundw
                case rel => exact ⟨2, ov, rfl, .inr (.inr ⟨rfl, rfl⟩), by omega, HS6.out.skip (HA.out.trans (List.append_nil _))⟩
                case measure => simp [intOf]
              · have HAp : Hid (∃ (v' : Value) (w' : World), (Builtin.append_ #[196, 196] 196 #[ov, .slice (some ⟨w6.heap.size, 0, none⟩) 1 1]).run Try.prog (w6.alloc (.cells #[.int .i64 (k : Int), .int .i64 0, .int .i64 840, .int .i64 0] 28)) = .ok v' w' ∧
                    NdS w k (1 + 1) v' w') := by
                  obtain ⟨v', w', a1, a2, a3⟩ := append_pl HS6.out.own ⟨k, 0, 840, 0⟩ (by have := HLn.out; omega) HS6.out.below.size 196
                  exact ⟨v', w', a1, by rw [HA.out]; exact a2, HS6.out.below.trans a3⟩
                go_wp2_with (first
                  | (refine row_load rfl _ rfl _ rfl _ HP6.out rowT_p ?_)
                  | (at_builtin; obtain ⟨v', w', hrun, hs'⟩ := HAp.out; have Hrun := Lib.hid hrun; have Hs' := Lib.hid hs'; clear hrun hs'; refine wpList_append_run rfl _ _ _ rfl _ _ _ _ rfl rfl Hrun.out ?_))
                go_roundw
                case rel => exact ⟨2, v', rfl, .inr (.inr ⟨rfl, rfl⟩), by omega, Hs'.out⟩
                case measure => simp [intOf]
            · go_wp2_with fail
              go_roundw
              case rel => exact ⟨1, ov, rfl, .inr (.inl ⟨rfl, rfl⟩), by omega, hs⟩
              case measure => simp [intOf]
        · go_wp2_with fail
          go_loopw [5, 8] (fun lv bv wr => ∃ (m : Nat) (ov : Value), ov = lv ∧ At840 m bv ∧ m ≤ 1 ∧ Hid (NdS w k (2 + m) ov wr)) (fun _ bv _ => (2000 - intOf bv).toNat)
          case atStart => exact ⟨0, _, rfl, .inl ⟨rfl, rfl⟩, by omega, hs⟩
          case round =>
            clear hs
            obtain ⟨m, ov, rfl, hbv, hm, hs⟩ := hrel
            rcases hbv with ⟨rfl, rfl⟩ | ⟨rfl, rfl⟩ | ⟨rfl, rfl⟩
            · obtain ⟨q, hq⟩ : ∃ q, q = isN ⟨k, 840, 0, 0⟩ := ⟨_, rfl⟩
              have HN := Lib.hid (fun w' => isNormal_any k 840 0 0 (Hvx.out _ (by simp [vtx])) q hq w')
              unfold Pl.val at HN
              simp only at HN
              have HA : Hid (nodesTo k (2 + 1) = nodesTo k 2 ++ if q = true then [⟨k, 840, 0, 0⟩] else []) := by unfold Hid; rw [hq]; exact nodesTo_step k 2 _ rfl
              have HLn : Hid ((nodesTo k 2).length ≤ 100) := by unfold Hid; have := nodesTo_len k 2; omega
              have HP : Hid (RowAt (wr.alloc (.cells #[.int .i64 (k : Int), .int .i64 840, .int .i64 0, .int .i64 0] 28)) wr.heap.size (Pl.cells ⟨k, 840, 0, 0⟩)) := RowAt.new _ (Pl.cells ⟨k, 840, 0, 0⟩) (by simp [Pl.cells]) _ rfl
              have HS1 : Hid (NdS w k 2 ov (wr.alloc (.cells #[.int .i64 (k : Int), .int .i64 840, .int .i64 0, .int .i64 0] 28))) := ⟨hs.out.own.below ((Below.refl _ _).alloc (Nat.le_refl _) _), hs.out.below.alloc hs.out.below.size _⟩
              simp only [Pl.cells] at HP
              clear hs hq
              go_wp2_with (refine row_load_w rfl _ rfl _ rfl _ HP.out rowT_p ?_)
              refine (HN.out _).mono ?_
              rintro e w6 ⟨rfl, hb6⟩
              have HS6 : Hid (NdS w k 2 ov w6) := ⟨HS1.out.own.below hb6, below_then HS1.out.below hb6⟩
              have HP6 := Lib.hid (HP.out.below hb6)
              clear hb6 HS1 HP
              cases q
              · go_wp2_with fail
                go_roundw
                case rel => exact ⟨1, ov, rfl, .inr (.inl ⟨rfl, rfl⟩), by omega, HS6.out.skip (HA.out.trans (List.append_nil _))⟩
                case measure => simp [intOf]
              · have HAp : Hid (∃ (v' : Value) (w' : World), (Builtin.append_ #[196, 196] 196 #[ov, .slice (some ⟨w6.heap.size, 0, none⟩) 1 1]).run Try.prog (w6.alloc (.cells #[.int .i64 (k : Int), .int .i64 840, .int .i64 0, .int .i64 0] 28)) = .ok v' w' ∧
                    NdS w k (2 + 1) v' w') := by
                  obtain ⟨v', w', a1, a2, a3⟩ := append_pl HS6.out.own ⟨k, 840, 0, 0⟩ (by have := HLn.out; omega) HS6.out.below.size 196
                  exact ⟨v', w', a1, by rw [HA.out]; exact a2, HS6.out.below.trans a3⟩
                go_wp2_with (first
                  | (refine row_load rfl _ rfl _ rfl _ HP6.out rowT_p ?_)
                  | (at_builtin; obtain ⟨v', w', hrun, hs'⟩ := HAp.out; have Hrun := Lib.hid hrun; have Hs' := Lib.hid hs'; clear hrun hs'; refine wpList_append_run rfl _ _ _ rfl _ _ _ _ rfl rfl Hrun.out ?_))
                go_roundw
                case rel => exact ⟨1, v', rfl, .inr (.inl ⟨rfl, rfl⟩), by omega, Hs'.out⟩
                case measure => simp [intOf]
            · go_wp2_with fail
              go_roundw
              case rel => exact ⟨2, ov, rfl, .inr (.inr ⟨rfl, rfl⟩), by omega, hs⟩
              case measure => simp [intOf]
            · omega
        · go_wp2_with fail
          go_roundw
          case rel => exact ⟨k + 1, ov, rfl, by go_num, by omega, hs.out.next⟩
          case measure => simp [intOf]; omega
    · obtain rfl : k = 20 := by omega
      obtain ⟨oa, oc, hov⟩ := hs.out.own.slice
      go_wp2_with fail
      refine bodyPost_ret (v := .tuple #[ov, .int .i64 0]) (by simp [results, Try.results84, go_sem]) rfl ?_
      exact ⟨ov, rfl, by rw [← nodesTo_end]; exact hs.out.own, hs.out.below⟩
end Go.Proofs.Ytpknalpdcfjffaa
/- The reference's grid of frequency one: the search among its nodes. -/
namespace Go.Proofs.Ytpknalpdcfjffaa
open Go Go.RowKit

/-- Places in memory. -/
def PlsAt (w : World) (g : Nat) (l : List Pl) : Prop := ∀ i, (hi : i < l.length) → w.rangeAt g (i * 4) l[i].cells
theorem PlsAt.below {w w' : World} {g : Nat} {l : List Pl} (h : PlsAt w g l) (hb : Below w.heap.size w w') : PlsAt w' g l := fun i hi j u hj => cell_then hb (h i hi j u hj)
theorem hop_pl_load {ops : Array Oper} {Q : Exit → Act → World → Prop} {o : Oper} {a : Act} {w : World} {K : Act → World → Prop} (hg : o.guard = none) (x : Operand) (ho : o.op = .load 28 x)
    (b i : Nat) (hx : a.eval x = .pointer (some ⟨b, i, none⟩)) (p : Pl) (h : w.rangeAt b i p.cells) (k : K (a.put o.dst p.val) w) :
    if Region.wanted o (yielded ops a.tmps) = true then Oper.wp Try.prog o a w K Q else K (a.put o.dst undef) w := by
  obtain ⟨h0, d, h1, h2⟩ := rowT_p
  refine hop_val hg p.val (w' := w) ?_ k
  unfold execOp
  simp only [ho, hx, Sem.run_bind, run_loadAt_mid w b i _ p.cells d h h1 h2 h0, Result.andThen_ok, Sem.run_pure]
  rfl
set_option maxHeartbeats 4000000 in
theorem less_any (p q : Pl) (r : Bool) (hr : r = lessP p q) (w : World) : Calls Try.prog 92 #[p.val, q.val] w fun e w' => e = .returned (.bool r) ∧ Below w.heap.size w w' := by
  obtain ⟨a, b, c, d⟩ := p
  obtain ⟨e, f, g, h⟩ := q
  have hB : Hid (Below w.heap.size w ((w.alloc (.cells #[.int .i64 a, .int .i64 b, .int .i64 c, .int .i64 d] 28)).alloc (.cells #[.int .i64 e, .int .i64 f, .int .i64 g, .int .i64 h] 28))) := ((Below.refl _ _).alloc (Nat.le_refl _) _).alloc (by simp) _
  unfold Pl.val
  by_cases h1 : a = e
  · subst h1
    by_cases h2 : b = f
    · subst h2
      have hq : Hid (r = decide (c < g)) := by show r = _; rw [hr]; unfold lessP; rw [if_neg (by simp), if_neg (by simp)]
      clear hr
      go_enter Try.func92, Try.ntmps92
      go_wp2_with fail
      go_ret
      exact ⟨by rw [hq.out]; rfl, hB.out⟩
    · have hq : Hid (r = decide (b < f)) := by show r = _; rw [hr]; unfold lessP; rw [if_neg (by simp), if_pos h2]
      have n1 : (b == f) = false := by simpa using h2
      have n2 : (b != f) = true := by simpa using h2
      clear hr h2
      go_enter Try.func92, Try.ntmps92
      go_wp2_with fail
      go_ret
      exact ⟨by rw [hq.out]; rfl, hB.out⟩
  · have hq : Hid (r = decide (a < e)) := by show r = _; rw [hr]; unfold lessP; rw [if_pos h1]
    have n1 : (a == e) = false := by simpa using h1
    have n2 : (a != e) = true := by simpa using h1
    clear hr h1
    go_enter Try.func92, Try.ntmps92
    go_wp2_with fail
    go_ret
    exact ⟨by rw [hq.out]; rfl, hB.out⟩
/-- What the slots of find's test hold. -/
def FFi (g m cap : Nat) (x p : Pl) (r : Bool) (k : Nat) (v : Value) (_ : World) : Prop := match k with
  | 0 => v = .slice (some ⟨g, 0, none⟩) 12 cap
  | 1 => v = .int .i64 m
  | 2 => v = .pointer (some ⟨g, m * 4, none⟩)
  | 3 => v = x.val
  | 4 => v = p.val
  | 5 => v = .bool r
  | _ => True
theorem fnd_step (l : List Pl) (p : Pl) (k lo hi : Nat) (h : lo < hi) (hk : hi - lo ≤ k) : ∃ k', k = k' + 1 ∧ fnd l p k lo hi = if lessP (l.getD ((lo + hi) / 2) ⟨0, 0, 0, 0⟩) p = true then fnd l p k' ((lo + hi) / 2 + 1) hi else fnd l p k' lo ((lo + hi) / 2) := by
  obtain ⟨k', rfl⟩ : ∃ k', k = k' + 1 := ⟨k - 1, by omega⟩
  refine ⟨k', rfl, ?_⟩
  rw [fnd, if_pos h]
theorem fnd_done (l : List Pl) (p : Pl) (k lo hi : Nat) (h : ¬ lo < hi) : fnd l p k lo hi = (lo, hi) := by
  cases k with
  | zero => rfl
  | succ k => rw [fnd, if_neg h]
set_option maxHeartbeats 16000000 in
set_option maxRecDepth 100000 in
theorem find_any (g cap : Nat) (hcap : 12 ≤ cap ∧ cap ≤ 9223372036854775807) (p : Pl) (i : Nat) (hi : (fnd nodes1 p 12 0 12).1 = i) (hi2 : i < 12) (hi3 : nodes1.getD i ⟨0, 0, 0, 0⟩ = p) (w : World) (hl : PlsAt w g nodes1) :
    Calls Try.prog 90 #[.slice (some ⟨g, 0, none⟩) 12 cap, p.val] w fun e w' => e = .returned (.int .i64 i) ∧ Below w.heap.size w w' := by
  have HL := Lib.hid hl
  have HI := Lib.hid (And.intro hi hi3)
  have hlen := nodes1_length
  have Hlen := Lib.hid hlen
  have HR0 : Hid (RowAt (w.alloc (.cells p.cells.toArray 28)) w.heap.size p.cells) := RowAt.new _ _ (by simp [Pl.cells]) _ rfl
  have HB0 : Hid (Below w.heap.size w (w.alloc (.cells p.cells.toArray 28))) := (Below.refl _ _).alloc (Nat.le_refl _) _
  have hc1 := hcap.1
  have hc2 := hcap.2
  clear hl hi hi3 hlen hcap
  unfold Pl.val
  simp only [Pl.cells] at HR0 HB0
  go_enter Try.func90, Try.ntmps90
  go_wp2_with fail
  go_loopw [5, 6] (fun lv hv wr => ∃ (lo hi k : Nat), lv = .int .i64 lo ∧ hv = .int .i64 hi ∧ lo ≤ hi ∧ hi ≤ 12 ∧ hi - lo ≤ k ∧ Hid ((fnd nodes1 p k lo hi).1 = i) ∧ Hid (RowAt wr w.heap.size p.cells) ∧ Hid (Below w.heap.size w wr)) (fun lv hv _ => (intOf hv - intOf lv).toNat)
  case atStart => exact ⟨0, 12, 12, rfl, rfl, by omega, by omega, by omega, HI.out.1, HR0.out, HB0.out⟩
  case round =>
    clear HR0 HB0
    obtain ⟨lo, hi, k, rfl, rfl, hlh, hh, hk, hf, hr, hb⟩ := hrel
    by_cases hlt : lo < hi
    · obtain ⟨k', hk', hst⟩ := fnd_step nodes1 p k lo hi hlt hk
      obtain ⟨m, hm⟩ : ∃ m, m = (lo + hi) / 2 := ⟨_, rfl⟩
      have hm1 : lo ≤ m := by omega
      have hm2 : m < hi := by omega
      have hml : m < nodes1.length := by have := Hlen.out; omega
      have hget : nodes1.getD m ⟨0, 0, 0, 0⟩ = nodes1[m] := by rw [List.getD_eq_getElem?_getD, List.getElem?_eq_getElem hml]; rfl
      rw [← hm, hget] at hst
      have hmI : ((lo : Int) + (hi : Int)) / 2 = (m : Int) := by omega
      have i0 : (0 : Int) ≤ (lo : Int) := by omega
      have i1 : (lo : Int) < (hi : Int) := by omega
      have i2 : (hi : Int) ≤ 12 := by omega
      have HX : Hid (wr.rangeAt g (m * 4) nodes1[m].cells) := fun j u hj => cell_then hb.out (HL.out m hml j u hj)
      have Hm : Hid (lo ≤ m ∧ m < hi ∧ hi ≤ 12 ∧ hi - lo ≤ k' + 1) := ⟨hm1, hm2, hh, by omega⟩
      have Hm1 : Hid ((m : Int) < 12) := by unfold Hid; omega
      have Hst := Lib.hid hst
      have HK := Lib.hid hk'
      clear hst hk' hm hm1 hm2 hh hlh hk hlt
      generalize nodes1[m] = x at *
      obtain ⟨r, hrr⟩ : ∃ r, r = lessP x p := ⟨_, rfl⟩
      rw [← hrr] at Hst
      have Hr := Lib.hid hrr
      clear hrr hget
      go_upto_region 4 with fail
      simp only [hmI]
      clear hmI
      refine wp_region_slots (by kernel_rfl) 39 rfl (by kernel_rfl) (by kernel_rfl) 17 6 (by kernel_rfl) (fun _ w' => RowAt w' w.heap.size p.cells ∧ w'.rangeAt g (m * 4) x.cells ∧ Below w.heap.size w w') (FFi g m cap x p r) ?hS0 ?hop ?hend
      case hS0 => exact ⟨hr.out.drew, HX.out, hb.out.drew⟩
      case hop =>
        refine ⟨?_, ?_, ?_, ?_, ?_, ?_, trivial⟩
        all_goals intro d ac wx hd hcl hS hA haft K hK
        · have f0 : ac.tmps.getD 0 undef = .slice (some ⟨g, 0, none⟩) 12 cap := same_slot hA 0 (by kernel_rfl)
          refine hop_val rfl (.slice (some ⟨g, 0, none⟩) 12 cap) (w' := wx) ?_ (hK _ _ rfl (fun _ _ _ h => h) hS)
          simp [execOp, Act.eval, f0, go_sem, -Array.getD_eq_getD_getElem?]
        · have f7 : ac.tmps.getD 7 undef = .int .i64 m := same_slot hA 7 (by kernel_rfl)
          refine hop_val rfl (.int .i64 m) (w' := wx) ?_ (hK _ _ rfl (fun _ _ _ h => h) hS)
          simp [execOp, Act.eval, f7, go_sem, -Array.getD_eq_getD_getElem?]
        · have f17 : ac.tmps.getD 17 undef = .slice (some ⟨g, 0, none⟩) 12 cap := (haft ⟨0, .data⟩ (by simp) rfl).2 _ rfl
          have f18 : ac.tmps.getD 18 undef = .int .i64 m := (haft ⟨1, .data⟩ (by simp) rfl).2 _ rfl
          have m0 : (0 : Int) ≤ (m : Int) := Int.natCast_nonneg m
          have m1 := Hm1.out
          refine hop_val rfl (.pointer (some ⟨g, m * 4, none⟩)) (w' := wx) ?_ (hK _ _ rfl (fun _ _ _ h => h) hS)
          simp [execOp, Act.eval, f17, f18, m0, m1, go_sem, -Array.getD_eq_getD_getElem?]
        · have f19 : ac.tmps.getD 19 undef = .pointer (some ⟨g, m * 4, none⟩) := (haft ⟨2, .data⟩ (by simp) rfl).2 _ rfl
          exact hop_pl_load rfl _ rfl _ _ f19 x (hS.2.1) (hK _ _ rfl (fun _ _ _ h => h) hS)
        · have f3 : ac.tmps.getD 3 undef = .pointer (some ⟨w.heap.size, 0, none⟩) := same_slot hA 3 (by kernel_rfl)
          exact hop_row_load rfl _ rfl _ f3 _ hS.1 rowT_p (hK _ _ rfl (fun _ _ _ h => h) hS)
        · have f20 : ac.tmps.getD 20 undef = x.val := (haft ⟨3, .data⟩ (by simp) rfl).2 _ rfl
          have f21 : ac.tmps.getD 21 undef = p.val := (haft ⟨4, .data⟩ (by simp) rfl).2 _ rfl
          refine hop_call rfl Try.func92 (by kernel_rfl) (by kernel_rfl) _ _ rfl #[x.val, p.val] (by simp only [List.map_toArray, List.map_cons, List.map_nil, Act.eval, f20, f21]) _ (less_any x p r Hr.out wx) ?_
          rintro e wy ⟨rfl, hby⟩
          exact ⟨_, rfl, hK _ _ rfl (fun _ _ _ h => h) ⟨hS.1.below hby, fun j u hj => cell_then hby (hS.2.1 j u hj), below_then hS.2.2 hby⟩⟩
      case hend =>
        intro u w4 d hd hS hF
        have hu : u 22 = .bool r := hF 5 _ rfl
        have HS4 := Lib.hid hS
        clear hF hd hS d HX hr hb
        simp only [mixL, hu]
        have hmn := Hm.out
        have m0 : (0 : Int) ≤ (m : Int) := by omega
        have m1 : (m : Int) < 12 := by omega
        cases r
        · go_wp2_with fail
          go_roundw
          case rel => exact ⟨lo, m, k', rfl, rfl, by omega, by omega, by omega, by have h1 := hf.out; have h2 := Hst.out; rw [HK.out] at h1 h2; rw [h2] at h1; show (fnd _ _ _ _ _).1 = _; simpa using h1, HS4.out.1, HS4.out.2.2⟩
          case measure => simp [intOf]; omega
        · go_wp2_with fail
          go_roundw
          case rel => exact ⟨m + 1, hi, k', by go_num, rfl, by omega, by omega, by omega, by have h1 := hf.out; have h2 := Hst.out; rw [HK.out] at h1 h2; rw [h2] at h1; show (fnd _ _ _ _ _).1 = _; simpa using h1, HS4.out.1, HS4.out.2.2⟩
          case measure => simp [intOf]; omega
    · have hfe := fnd_done nodes1 p k lo hi hlt
      have hli : lo = i := by have h1 := hf.out; rw [hfe] at h1; exact h1
      subst hli
      have hml : lo < nodes1.length := by have := Hlen.out; omega
      have HX : Hid (wr.rangeAt g (lo * 4) p.cells) := by
        intro j u hj
        have e : nodes1[lo] = p := by rw [← HI.out.2, List.getD_eq_getElem?_getD, List.getElem?_eq_getElem hml]; rfl
        refine cell_then hb.out (HL.out lo hml j u ?_)
        rw [e]; exact hj
      have i0 : (0 : Int) ≤ (lo : Int) := by omega
      have i1 : (lo : Int) < 12 := by omega
      have i2 : (hi : Int) ≤ (lo : Int) := by omega
      obtain ⟨pf, pa, pb, pc⟩ := p
      have x0 : wr.cell? ⟨g, lo * 4, none⟩ = some (.int .i64 pf) := HX.out 0 _ rfl
      have x1 : wr.cell? ⟨g, lo * 4 + 1, none⟩ = some (.int .i64 pa) := HX.out 1 _ rfl
      have x2 : wr.cell? ⟨g, lo * 4 + 2, none⟩ = some (.int .i64 pb) := HX.out 2 _ rfl
      have x3 : wr.cell? ⟨g, lo * 4 + 3, none⟩ = some (.int .i64 pc) := HX.out 3 _ rfl
      have y0 := hr.out.at 0 rfl
      have y1 := hr.out.at 1 rfl
      have y2 := hr.out.at 2 rfl
      have y3 := hr.out.at 3 rfl
      clear hfe hlt hlh hh hk
      go_wp2_with fail
      go_region
      go_wp2_with fail
      go_ret
      exact ⟨rfl, hb.out.drew⟩
end Go.Proofs.Ytpknalpdcfjffaa
