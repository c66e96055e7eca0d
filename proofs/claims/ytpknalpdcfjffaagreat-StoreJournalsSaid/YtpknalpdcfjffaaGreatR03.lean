/- Part 3 of the proof: laws on memory and what functions of the program return. No conditions but those that each theorem names. -/
import Derived.Test.YtpknalpdcfjffaaGreatR02
import Derived.Maps.AppendAt
set_option linter.unusedVariables false
set_option linter.unusedSimpArgs false
/- Elements of a slice, of one cell or of several: loaded, stored, laid, appended; what a walk over a slice keeps. No walk. -/
namespace Go.Proofs.YtpknalpdcfjffaaGreat
open Go Go.RowKit

theorem fold_zip : ∀ (l : List Value) (k : Nat) (cs : Array Value) (i : Nat), k + l.length ≤ cs.size → ((l.zipIdx k).foldl (fun (cs : Array Value) (x : Value × Nat) => cs.setIfInBounds x.2 x.1) cs)[i]? = if k ≤ i ∧ i < k + l.length then l[i - k]? else cs[i]?
  | [], k, cs, i, _ => by
    rw [if_neg (by simp)]; rfl
  | v :: l, k, cs, i, h => by
    rw [List.zipIdx_cons, List.foldl_cons, fold_zip l (k + 1) _ i (by simp at h ⊢; omega)]
    simp only [List.length_cons] at h ⊢
    by_cases h1 : k + 1 ≤ i ∧ i < k + 1 + l.length
    · rw [if_pos h1, if_pos (by omega)]
      rw [show i - k = (i - (k + 1)) + 1 by omega, List.getElem?_cons_succ]
    · rw [if_neg h1]
      by_cases h2 : i = k
      · subst h2
        rw [if_pos (by omega), Nat.sub_self]
        simp [show i < cs.size by omega]
      · rw [if_neg (by omega), Array.getElem?_setIfInBounds_ne (by omega)]
theorem fold_zip_all (cs es : Array Value) (h : es.size = cs.size) : es.zipIdx.foldl (fun (cs : Array Value) (x : Value × Nat) => cs.setIfInBounds (0 + x.2) x.1) cs = es := by
  apply Array.ext_getElem?
  intro i
  have h1 := fold_zip es.toList 0 cs i (by simp; omega)
  simp only [Nat.zero_add]
  rw [← Array.foldl_toList, Array.toList_zipIdx, h1]
  by_cases h2 : i < es.size
  · rw [if_pos (by simp; omega)]; simp
  · rw [if_neg (by simp; omega), Array.getElem?_eq_none (by omega), Array.getElem?_eq_none (by omega)]
/-- A type of elements: n cells; what is loaded is ev of them. -/
structure ElT (T ST : TypeId) (n : Nat) (ev : List Value → Value) (zc : List Value) : Prop where
  slice : Tryz.prog.underlying ST = some (.slice T)
  info : ∃ (z : Value) (by_ : Nat), (Tryz.prog.info? T).map (fun i => (i.zero, i.size, i.bytes)) = some (some z, n, by_) ∧ z.cells = zc.toArray ∧ by_ ≤ 1000
  ne : T ≠ 5
  pos : 0 < n
  small : n ≤ 100
  zlen : zc.length = n
  evc : ∀ es : List Value, es.length = n → (∀ v ∈ es, v.oneCell' = true) → (ev es).cells = es.toArray
  load : ∀ (w : World) (b o : Nat) (es : List Value), es.length = n → w.rangeAt b o es → (loadVar T ⟨b, o, none⟩).run Tryz.prog w = .ok (ev es) w
variable {T ST : TypeId} {n : Nat} {ev : List Value → Value} {zc : List Value}
theorem ElT.size (h : ElT T ST n ev zc) : (Tryz.prog.info? T).map (·.size) = some n := by
  obtain ⟨z, by_, h1, _⟩ := h.info
  obtain ⟨i0, hi, hz0, hz1, hz2⟩ := info_parts h1
  rw [hi]; simp [hz1]
theorem ElT.lit (h : ElT T ST n ev zc) (w : World) (es : List Value) (hl : es.length = n) (h1 : ∀ v ∈ es, v.oneCell' = true) :
    (Instr.buildSlice ST 1 #[(0, ev es)]).run Tryz.prog w = .ok (.slice (some ⟨w.heap.size, 0, none⟩) 1 1) (w.alloc (.cells es.toArray T)) := by
  obtain ⟨z, by_, hi, hz, _⟩ := h.info
  obtain ⟨i0, hi, hz0, hz1, hz2⟩ := info_parts hi
  have hev := h.evc es hl h1
  have hs := h.small
  have hp := h.pos
  have hzr : (zeroValue T).run Tryz.prog w = .ok z w := by simp [zeroValue, typeInfo, hi, hz0]
  have hf := fold_zip_all ((Array.range n).map (z.cells[· % z.cells.size]!)) es.toArray (by simp [hl])
  have hc : es.toArray.size = n := by simp [hl]
  have hso : (sizeOf T).run Tryz.prog w = .ok n w := by simp [sizeOf, typeInfo, hi, hz1]
  have hfill : Instr.fill (fun i => some (i * n, n)) ((Array.range n).map (z.cells[· % z.cells.size]!)) [(0, ev es)] = some es.toArray := by
    simp only [Instr.fill, hev, hc, Nat.zero_mul, hf]
    rw [if_neg (by simp)]
  unfold Instr.buildSlice
  simp only [Sem.run_bind, run_underlying h.slice, Result.andThen_ok, hso, Nat.one_mul]
  rw [if_neg (by omega), if_neg (by omega)]
  simp only [Sem.run_bind, Sem.run_pure, Result.andThen_ok, hzr, hfill]
  simp [newRow, go_sem]
theorem storeVar_cells (ty : TypeId) (a : Addr) (v : Value) : storeVar ty a v = storeVar ty a (.agg v.cells) := rfl
theorem ElT.store (h : ElT T ST n ev zc) (w : World) (b o : Nat) (es : List Value) (hl : es.length = n) (h1 : ∀ v ∈ es, v.oneCell' = true) (ht : w.there b o n) :
    (storeVar T ⟨b, o, none⟩ (ev es)).run Tryz.prog w = .ok () (w.setCells b o es) := by
  rw [storeVar_cells, h.evc es hl h1]
  exact run_storeVar_mid w b o T es.toArray (by rw [List.size_toArray, hl]; exact ht) (by rw [h.size, List.size_toArray, hl]) (all_oneCell_toArray h1)
theorem heap_setCells_typed {p : Nat} {t : TypeId} {f : Nat × Nat} : ∀ (vs : List Value) (o : Nat) {w : World} {c : Array Value}, w.heap[p]? = some (Obj.cells c t f) → ∃ c', (w.setCells p o vs).heap[p]? = some (Obj.cells c' t f)
  | [], _, _, c, h => ⟨c, h⟩
  | v :: r, o, w, c, h => by
    obtain ⟨c', h'⟩ := heap_setCell_typed (p := ⟨p, o, none⟩) h v
    exact heap_setCells_typed r (o + 1) h'
theorem PAt.setCells {w : World} {p : Nat} {cs : List Value} (h : PAt w p cs) (es : List Value) (hl : es.length = cs.length) : PAt (w.setCells p 0 es) p es := by
  obtain ⟨h1, c, t, f, h2, h3⟩ := h
  obtain ⟨c', h4⟩ := heap_setCells_typed es 0 h2
  refine ⟨⟨by rw [hl]; exact h1.1, fun i hi => ?_, fun i hi => ?_⟩, c', t, f, h4, h3⟩
  · have := w.rangeAt_setCells_same p 0 es (h1.there (by omega)) i _ (List.getElem?_eq_getElem hi)
    rw [Nat.zero_add] at this
    rw [List.getElem?_eq_getElem hi]
    exact this
  · rw [World.frozen?_setCells]; exact h1.2.2 i (by omega)
theorem PAt.quietR {w w' : World} {p : Nat} {cs : List Value} (h : PAt w p cs) {base b : Nat} (hp : base ≤ p) (hb : p ≠ b) (ha : ApartR p w w') : Quiet base b w w' := by
  obtain ⟨_, c, t, f, h2, h3⟩ := h
  refine ⟨ha.below hp, ha.2.2.2.2 b (Ne.symm hb), fun k c' f' hk => ha.2.2.2.2 k fun e => ?_⟩
  subst e
  rw [h2] at hk
  injection hk with hk
  injection hk with _ hk _
  exact h3 hk
/-- append(v, e) of one element, which lies in a block of its own: the row is turned alone, and where the new one lies. -/
theorem ElT.append (h : ElT T ST n ev zc) {w : World} {base m : Nat} {v : Value} {cc es : List Value} (ho : w.ownsRow base T n v m cc) (hl : es.length = n) (h1 : ∀ u ∈ es, u.oneCell' = true) (hm : m ≤ 1000000) (hb : base ≤ w.heap.size) (ty : TypeId) :
    ∃ (v' : Value) (w' : World), (Builtin.append_ #[ST, ST] ty #[v, .slice (some ⟨w.heap.size, 0, none⟩) 1 1]).run Tryz.prog (w.alloc (.cells es.toArray T)) = .ok v' w' ∧ w'.ownsRow base T n v' (m + 1) (cc ++ es) ∧
      (w.alloc (.cells es.toArray T)).grownBy w' v.ownBlock ∧ (v'.ownBlock = v.ownBlock ∨ ∀ g, v'.ownBlock = some g → w.heap.size < g) := by
  obtain ⟨z, by_, hi, hz, hby⟩ := h.info
  obtain ⟨i0, hi, hz0, hz1, hz2⟩ := info_parts hi
  have hs := h.small
  have hbm : (m + 1) * by_ ≤ 1000001 * 1000 := Nat.mul_le_mul (by omega) hby
  obtain ⟨v', w', a1, a2, a3, _, a5⟩ := run_append_own_at (P := Tryz.prog) (w := w.alloc (.cells es.toArray T)) base ST ty T i0 z n by_ h.slice hi hz0 hz1 hz2 (by rw [hz, List.size_toArray, h.zlen]) h.pos
    v m cc (World.ownsRow.alloc ho _) ⟨w.heap.size, 0, none⟩ 1 1 es (by rw [hl, Nat.one_mul]) (World.news_of_block (cs := es.toArray) (t := T) (fr := (0, 0)) (heap_alloc_new w _)) h1 (by unfold maxLen; omega) (by omega) (by simp; omega)
  refine ⟨v', w', a1, a2, a3, a5.imp id fun e g hg => ?_⟩
  rw [e] at hg
  simp at hg
  omega
/-- The data of what has been walked over lies in what was there, or in what is new but for the row. -/
def avl (av : Nat → Prop) (w0 : World) (ov : Value) : Nat → Prop := fun i => (av i ∧ i < w0.heap.size) ∨ (w0.heap.size ≤ i ∧ ov.ownBlock ≠ some i)
/-- In the midst of a walk over a slice: i elements are done. -/
structure SlS {σ : Type} {k : Wk σ} (K : WkM k) {α : Type} (E : El α) (T : TypeId) (m : σ → α → σ × α) (z : α) (s1 : σ) (l : List α) (p : Nat) (cs : List Value) (av : Nat → Prop) (w0 : World) (i : Nat) (ov : Value) (wr : World) : Prop where
  ws : WS K p (runE m z s1 l i).1 cs w0 wr
  row : ∃ cc, wr.ownsRow w0.heap.size T E.n ov i cc ∧ ∀ j, (hj : j < (runE m z s1 l i).2.length) → ∃ es, E.rep (avl av w0 ov) wr es (runE m z s1 l i).2[j] ∧ ∀ q, q < E.n → cc[j * E.n + q]? = es[q]?
section
variable {σ : Type} {k : Wk σ} {K : WkM k} {α : Type} {E : El α} {m : σ → α → σ × α} {z : α} {s1 : σ} {l : List α} {p : Nat} {cs : List Value} {av : Nat → Prop} {w0 : World} {i : Nat} {ov : Value} {wr : World}
theorem SlS.start {w : World} (h : WS K p s1 cs w0 w) : SlS K E T m z s1 l p cs av w0 0 (.slice none 0 0) w :=
  ⟨h, [], World.ownsRow_nil _ _ _ _, fun j hj => by simp [runE] at hj⟩
theorem SlS.slice (h : SlS K E T m z s1 l p cs av w0 i ov wr) : ∃ a c, ov = .slice a i c := by
  obtain ⟨cc, h1, _⟩ := h.row
  rcases h1.2 with ⟨e, h0⟩ | ⟨g, cap, cur, e, _⟩
  · exact ⟨none, 0, by rw [e, h0]⟩
  · exact ⟨_, _, e⟩
theorem ownsRow_typed {w : World} {base sz m : Nat} {v : Value} {xs : List Value} (h : w.ownsRow base T sz v m xs) : ∀ g, v.ownBlock = some g → base ≤ g ∧ ∃ c f, w.heap[g]? = some (.cells c T f) := by
  obtain ⟨_, h2⟩ := h
  intro g hg
  rcases h2 with ⟨e, _⟩ | ⟨g', cap, cur, e, hb, hh, _⟩
  · rw [e] at hg; cases hg
  · rw [e] at hg
    have : g' = g := by simpa [Value.ownBlock] using hg
    subst this
    exact ⟨hb, _, _, hh⟩
theorem ownsRow_block {w w' : World} {base sz m : Nat} {v : Value} {xs : List Value} (h : w.ownsRow base T sz v m xs) (hb : ∀ g, v.ownBlock = some g → w'.heap[g]? = w.heap[g]?) : w'.ownsRow base T sz v m xs := by
  obtain ⟨h1, h2⟩ := h
  refine ⟨h1, ?_⟩
  rcases h2 with h2 | ⟨g, cap, cur, e, hg, hh, r⟩
  · exact Or.inl h2
  · exact Or.inr ⟨g, cap, cur, e, hg, by rw [hb g (by rw [e]; rfl)]; exact hh, r⟩
theorem RdS.in {w : World} {v : Value} (hE : E.OK) (h : RdS E av w v l) : RdS E (fun k => av k ∧ k < w.heap.size) w v l := h.weak hE fun _ h1 h2 => ⟨h1, h2⟩
/-- One element more. wx: its variable is made; wy: it holds the element; w2: behind the walk over it; w4: behind the append. -/
theorem SlS.next (hK : K.OK) (hE : E.OK) (hT : ElT T ST E.n ev zc) (hb : K.b < w0.heap.size) (hp : p < w0.heap.size) (hpb : p ≠ K.b) (hbase : K.base ≤ p) (hav : ∀ i, av i → i ≠ K.b ∧ i ≠ p) (h : SlS K E T m z s1 l p cs av w0 i ov wr) {es : List Value} {wy w2 : World}
    (h1 : Below wr.heap.size wr wy) (hs1 : wr.heap.size < wy.heap.size) (h2 : K.St (runE m z s1 l (i + 1)).1 w2) (h3 : Fr K.base K.b wr.heap.size wy w2) (h4 : E.rep (fresh (fun k => av k ∧ k < w0.heap.size) wy) w2 es (m (runE m z s1 l i).1 (l.getD i z)).2) (hi : i ≤ 1000000) (ty : TypeId) :
    ∃ (v' : Value) (w4 : World), (Builtin.append_ #[ST, ST] ty #[ov, .slice (some ⟨w2.heap.size, 0, none⟩) 1 1]).run Tryz.prog (w2.alloc (.cells es.toArray T)) = .ok v' w4 ∧ SlS K E T m z s1 l p cs av w0 (i + 1) v' w4 := by
  obtain ⟨cc, r1, r2⟩ := h.row
  have hs0 := h.ws.fr.size
  have hs2 := h3.size
  -- the row behind the walk over the element
  have hg : ∀ g, ov.ownBlock = some g → w0.heap.size ≤ g ∧ g < wr.heap.size := fun g hg => World.ownsRow.lt r1 g hg
  have keepR : ∀ g, (∃ c t f, wr.heap[g]? = some (Obj.cells c t f) ∧ t ≠ 5) → g ≠ K.b → w2.heap[g]? = wr.heap[g]? := by
    rintro g ⟨c, t, f, e1, e2⟩ e3
    have hlt := (Array.getElem?_eq_some_iff.1 e1).1
    have e4 := h1.block g hlt
    rw [← e4]
    exact h3.keeps g c t f (by rw [e4]; exact e1) e2 ⟨e3, by omega⟩
  have r1' : w2.ownsRow w0.heap.size T E.n ov i cc := ownsRow_block r1 fun g hgo => by
    obtain ⟨hb', c, f, e1⟩ := ownsRow_typed r1 g hgo
    exact keepR g ⟨c, T, f, e1, hT.ne⟩ (by omega)
  obtain ⟨v', w4, a1, a2, a3, a4⟩ := hT.append r1' (hE.len h4) (hE.one h4) hi (by omega) ty
  have hal : Below w2.heap.size w2 (w2.alloc (.cells es.toArray T)) := (Below.refl _ _).alloc (Nat.le_refl _) _
  have keepA : ∀ g, g < w2.heap.size → ov.ownBlock ≠ some g → w4.heap[g]? = w2.heap[g]? := fun g hg1 hg2 => by
    rw [a3.block g (by simp; omega) (fun e => hg2 e.symm)]
    exact hal.block g hg1
  have hw4 : Below w0.heap.size w2 w4 := by
    refine ⟨?_, ?_, ?_, ?_, fun g hg1 => keepA g (by omega) (fun e => by have := hg g e; omega)⟩
    · rw [a3.os]; exact hal.os
    · rw [a3.tape]; exact hal.tape
    · rw [a3.output]; exact hal.output
    · exact Nat.le_trans hal.size a3.size
  have hl0 := hK.lt h.ws.st
  have q4 : Quiet K.base K.b w2 w4 := ⟨hw4.mono (by omega), keepA K.b (by omega) (fun e => by have := hg _ e; omega), fun g c f e => keepA g (Array.getElem?_eq_some_iff.1 e).1 fun e' => by
    obtain ⟨_, c', f', e1⟩ := ownsRow_typed r1' g e'
    rw [e] at e1
    injection e1 with e1
    injection e1 with _ e1 _
    exact hT.ne e1.symm⟩
  have nb4 : ∀ g, (av g ∧ g < w0.heap.size) ∨ (w0.heap.size ≤ g ∧ ov.ownBlock ≠ some g) → g < w2.heap.size → w4.heap[g]? = w2.heap[g]? := by
    rintro g (⟨hg1, hg2⟩ | ⟨hg1, hg2⟩) hg3
    · exact keepA g hg3 (fun e => by have := hg g e; omega)
    · exact keepA g hg3 hg2
  have avl' : ∀ g, avl av w0 ov g → g < w2.heap.size → avl av w0 v' g := by
    rintro g (hg1 | ⟨hg1, hg2⟩) hg3
    · exact Or.inl hg1
    · refine Or.inr ⟨hg1, fun e => ?_⟩
      rcases a4 with a4 | a4
      · exact hg2 (a4 ▸ e)
      · have := a4 g e; omega
  have e0 : (runE m z s1 l (i + 1)).2 = (runE m z s1 l i).2 ++ [(m (runE m z s1 l i).1 (l.getD i z)).2] := by rw [runE]
  have hln := runE_len m z s1 l i
  have hbk : ∀ g, avl av w0 ov g → g ≠ K.b := by
    rintro g (hg1 | ⟨hg1, _⟩)
    · exact (hav g hg1.1).1
    · omega
  have f1 : Fr K.base K.b p w0 wy := h.ws.fr.trans (Fr.new h1 (by omega))
  have f2 := f1.fresh h3 hs0
  have hcc : cc.length = i * E.n := r1.1
  refine ⟨v', w4, a1, ⟨hK.stable h2 q4, ⟨f2.below.trans (hw4.mono (by omega)), fun g c t f e1 e2 e3 => ?_⟩, ?_⟩, cc ++ es, a2, fun j hj => ?_⟩
  · have hlt := (Array.getElem?_eq_some_iff.1 e1).1
    rw [keepA g (by omega) (fun e => by have := hg g e; omega)]
    exact f2.keeps g c t f e1 e2 e3
  · refine PAt.of_block (w := wr) h.ws.pa ?_
    obtain ⟨c, t, f, e1, e2⟩ := h.ws.pa.2
    rw [keepA p (by omega) (fun e => by have := hg _ e; omega)]
    exact keepR p ⟨c, t, f, e1, e2⟩ hpb
  · rw [e0, List.length_append, hln] at hj
    have hj : j < i + 1 := hj
    rcases Nat.lt_or_ge j i with hji | hji
    · obtain ⟨es', e1, e2⟩ := r2 j (by rw [hln]; exact hji)
      refine ⟨es', ?_, fun q hq => ?_⟩
      · have e3 : (runE m z s1 l (i + 1)).2[j]'(by rw [runE_len]; exact hj) = (runE m z s1 l i).2[j]'(by rw [hln]; exact hji) := by
          have : (runE m z s1 l (i + 1)).2[j]? = (runE m z s1 l i).2[j]? := by rw [e0, List.getElem?_append_left (by rw [hln]; exact hji)]
          rw [List.getElem?_eq_getElem (by rw [runE_len]; exact hj), List.getElem?_eq_getElem (by rw [hln]; exact hji)] at this
          exact Option.some.inj this
        rw [e3]
        have r4 : E.rep (fun g => avl av w0 ov g ∧ g < wr.heap.size) wr es' _ := hE.weak e1 fun g h5 h6 => ⟨h5, h6⟩
        have r5 : E.rep (fun g => avl av w0 ov g ∧ g < wr.heap.size) w4 es' _ := hE.keep r4 fun g c t f e4 e5 e6 => by
          rw [nb4 g e6.1 (by omega)]
          exact keepR g ⟨c, t, f, e4, e5⟩ (hbk g e6.1)
        exact hE.weak r5 fun g h5 _ => avl' g h5.1 (by omega)
      · rw [List.getElem?_append_left (by
          rw [hcc]
          have : (j + 1) * E.n ≤ i * E.n := Nat.mul_le_mul_right _ hji
          rw [Nat.add_mul] at this; omega)]
        exact e2 q hq
    · obtain rfl : j = i := by omega
      refine ⟨es, ?_, fun q hq => ?_⟩
      · have e3 : (runE m z s1 l (j + 1)).2[j]'(by rw [runE_len]; exact hj) = (m (runE m z s1 l j).1 (l.getD j z)).2 := by
          have : (runE m z s1 l (j + 1)).2[j]? = some (m (runE m z s1 l j).1 (l.getD j z)).2 := by
            rw [e0, List.getElem?_append_right (by rw [hln]; omega), hln, Nat.sub_self]; rfl
          rw [List.getElem?_eq_getElem (by rw [runE_len]; exact hj)] at this
          exact Option.some.inj this
        rw [e3]
        have hfa : ∀ g, fresh (fun k => av k ∧ k < w0.heap.size) wy g → avl av w0 ov g := by
          rintro g (hg1 | hg1)
          · exact Or.inl hg1
          · exact Or.inr ⟨by omega, fun e => by have := hg g e; omega⟩
        have r4 : E.rep (fun g => avl av w0 ov g ∧ g < w2.heap.size) w2 es _ := hE.weak h4 fun g h5 h6 => ⟨hfa g h5, h6⟩
        have r5 : E.rep (fun g => avl av w0 ov g ∧ g < w2.heap.size) w4 es _ := hE.keep r4 fun g c t f e4 e5 e6 => nb4 g e6.1 e6.2
        exact hE.weak r5 fun g h5 _ => avl' g h5.1 h5.2
      · have e5 : j * E.n + q - j * E.n = q := by omega
        rw [List.getElem?_append_right (by rw [hcc]; omega), hcc, e5]
/-- The row is a slice of what has been walked over. -/
theorem SlS.done (hE : E.OK) (hT : ElT T ST E.n ev zc) (h : SlS K E T m z s1 l p cs av w0 i ov wr) (hi : i ≤ 1000000) (hp : p < w0.heap.size) (hav : ∀ i, av i → i ≠ K.b ∧ i ≠ p) (o : Nat) : RdS E (fresh av w0) (wr.setCell ⟨p, o, none⟩ ov) ov (runE m z s1 l i).2 := by
  obtain ⟨cc, r1, r2⟩ := h.row
  have hln := runE_len m z s1 l i
  have key : RdS E (fresh av w0) wr ov (runE m z s1 l i).2 := by
    have r1' := r1
    obtain ⟨h1, h2⟩ := r1
    rcases h2 with ⟨e, h0⟩ | ⟨g, cap, cur, e, hg, hh, hc, hm, hsz, htk⟩
    · refine ⟨none, 0, by rw [hln, e, h0], by omega, by omega, by omega, fun h => by omega⟩
    · refine ⟨some ⟨g, 0, none⟩, cap, by rw [hln, e], by omega, by unfold maxLen at hm; omega, by omega, fun h0 => ⟨g, 0, cur, T, (0, 0), rfl, hh, hT.ne, Or.inr hg, fun j hj => ?_⟩⟩
      obtain ⟨es, e1, e2⟩ := r2 j hj
      refine ⟨es, hE.weak e1 (by
        rintro g' (h5 | ⟨h5, _⟩) _
        · exact Or.inl h5.1
        · exact Or.inr h5), fun q hq => ?_⟩
      rw [← e2 q hq]
      have hlt : j * E.n + q < cc.length := by
        rw [h1]
        have : (j + 1) * E.n ≤ i * E.n := Nat.mul_le_mul_right _ (by omega)
        rw [Nat.add_mul] at this; omega
      have := World.ownsRow.cells r1' (g := g) (by rw [e]; rfl) (j * E.n + q) _ (List.getElem?_eq_getElem hlt)
      rw [Addr.add_mid, Nat.zero_add] at this
      rw [Nat.zero_add, this, List.getElem?_eq_getElem hlt]
  refine key.keep hE fun g c t f _ _ hg => Below.heap_setCell _ _ _ _ ?_
  rcases hg with hg | hg
  · exact (hav g hg).2
  · show g ≠ p
    omega
/-- The end: the row is stored where the slice was. -/
theorem SlS.post (hK : K.OK) (hE : E.OK) (hT : ElT T ST E.n ev zc) (h : SlS K E T m z s1 l p cs av w0 i ov wr) (hi : i ≤ 1000000) (hp : p < w0.heap.size) (hpb : p ≠ K.b) (hbase : K.base ≤ p) (hav : ∀ i, av i → i ≠ K.b ∧ i ≠ p) (o : Nat) (ho : o < cs.length) : WPost K (sliE E) (runE m z s1 l i) p o cs av w0 (wr.setCell ⟨p, o, none⟩ ov) := by
  refine ⟨hK.stable h.ws.st (h.ws.pa.quiet hbase hpb o ov), h.ws.fr.trans (Fr.setCell _ _ _ hbase), [ov], ?_, ov, rfl, h.done hE hT hi hp hav o⟩
  rw [← putL_one ho]
  exact h.ws.pa.set o ho ov
end
end Go.Proofs.YtpknalpdcfjffaaGreat
/- The operations on elements in a plain list; the element types of an entry. No walk. -/
namespace Go.Proofs.YtpknalpdcfjffaaGreat
open Go Go.RowKit

section
variable {T ST : TypeId} {n : Nat} {ev : List Value → Value} {zc : List Value} {ops : Array Oper} {rest : List Oper} {op : Oper} {a : Act} {w : World} {Q : Exit → Act → World → Prop}
theorem list_run (hgd : op.guard = none) (v : Value) (w' : World) (hrun : (execOp a.eval op).run Tryz.prog w = .ok (.value v) w') (h : wpList Tryz.prog ops Q rest (a.put op.dst v) w') : wpList Tryz.prog ops Q (op :: rest) a w := by
  refine wpList_plain hgd fun K hK => ?_
  unfold Oper.wp
  rw [hrun]
  exact hK _ _ h
theorem list_skip (hgd : op.guard = none) (w' : World) (hrun : (execOp a.eval op).run Tryz.prog w = .ok .skip w') (h : wpList Tryz.prog ops Q rest (a.put op.dst undef) w') : wpList Tryz.prog ops Q (op :: rest) a w := by
  refine wpList_plain hgd fun K hK => ?_
  unfold Oper.wp
  rw [hrun]
  exact hK _ _ h
theorem list_load (hT : ElT T ST n ev zc) (hgd : op.guard = none) (x : Operand) (ho : op.op = .load T x) (b o : Nat) (hx : a.eval x = .pointer (some ⟨b, o, none⟩)) (es : List Value) (hl : es.length = n) (hr : w.rangeAt b o es)
    (k : wpList Tryz.prog ops Q rest (a.put op.dst (ev es)) w) : wpList Tryz.prog ops Q (op :: rest) a w := by
  refine list_run hgd _ w ?_ k
  unfold execOp
  simp only [ho, hx, Instr.loadAt, Instr.sureAddr, Sem.run_bind, Sem.run_pure, Result.andThen_ok, hT.load w b o es hl hr]
theorem list_store (hT : ElT T ST n ev zc) (hgd : op.guard = none) (x y : Operand) (ho : op.op = .store T x y) (b : Nat) (hx : a.eval x = .pointer (some ⟨b, 0, none⟩)) (es : List Value) (hy : a.eval y = ev es) (hl : es.length = n) (h1 : ∀ v ∈ es, v.oneCell' = true) (ht : w.there b 0 n)
    (k : wpList Tryz.prog ops Q rest (a.put op.dst undef) (w.setCells b 0 es)) : wpList Tryz.prog ops Q (op :: rest) a w := by
  refine list_skip hgd _ ?_ k
  unfold execOp
  simp only [ho, hx, hy, Instr.storeAt, Instr.sureAddr, Sem.run_bind, Sem.run_pure, Result.andThen_ok, hT.store w b 0 es hl h1 ht]
theorem list_lit (hT : ElT T ST n ev zc) (hgd : op.guard = none) (y : Operand) (ho : op.op = .buildSlice ST 1 #[(0, y)]) (es : List Value) (hy : a.eval y = ev es) (hl : es.length = n) (h1 : ∀ v ∈ es, v.oneCell' = true)
    (k : wpList Tryz.prog ops Q rest (a.put op.dst (.slice (some ⟨w.heap.size, 0, none⟩) 1 1)) (w.alloc (.cells es.toArray T))) : wpList Tryz.prog ops Q (op :: rest) a w := by
  refine list_run hgd _ _ ?_ k
  have e : (#[(0, y)] : Array (Nat × Operand)).map (fun (q : Nat × Operand) => (q.1, a.eval q.2)) = #[(0, ev es)] := by simp [hy]
  unfold execOp
  simp only [ho, e, Sem.run_bind, Sem.run_pure, Result.andThen_ok, hT.lit w es hl h1]
end
def aggOf (es : List Value) : Value := .agg es.toArray
def oneOf (es : List Value) : Value := es.headD undef
theorem elT_row {T ST : TypeId} {n : Nat} {zc : List Value} {d : TypeDesc} (hs : Tryz.prog.underlying ST = some (.slice T)) (hu : Tryz.prog.underlying T = some d) (hd : d.isRow = true) {z : Value} {by_ : Nat} (hi : (Tryz.prog.info? T).map (fun i => (i.zero, i.size, i.bytes)) = some (some z, n, by_)) (hz : z.cells = zc.toArray) (hb : by_ ≤ 1000) (hT : T ≠ 5) (h0 : 0 < n) (h1 : n ≤ 100) (hl : zc.length = n) : ElT T ST n aggOf zc := by
  refine ⟨hs, ⟨z, by_, hi, hz, hb⟩, hT, h0, h1, hl, fun es _ _ => rfl, fun w b o es hes hr => ?_⟩
  obtain ⟨i0, hi', _, hz1, _⟩ := info_parts hi
  exact run_loadVar_mid w b o T es d hr hu hd (by rw [hi']; simp [hz1, hes])
theorem elT_one {T ST : TypeId} {zc : List Value} {d : TypeDesc} (hs : Tryz.prog.underlying ST = some (.slice T)) (hu : Tryz.prog.underlying T = some d) (hd : (match d with | .struct _ | .array _ _ => false | _ => true) = true) {z : Value} {by_ : Nat} (hi : (Tryz.prog.info? T).map (fun i => (i.zero, i.size, i.bytes)) = some (some z, 1, by_)) (hz : z.cells = zc.toArray) (hb : by_ ≤ 1000) (hT : T ≠ 5) (hl : zc.length = 1) : ElT T ST 1 oneOf zc := by
  refine ⟨hs, ⟨z, by_, hi, hz, hb⟩, hT, by omega, by omega, hl, fun es hes h1 => ?_, fun w b o es hes hr => ?_⟩
  · obtain ⟨e, rfl⟩ : ∃ e, es = [e] := by
      match es, hes with
      | [e], _ => exact ⟨e, rfl⟩
    have := h1 e (by simp)
    unfold oneOf
    cases e <;> first | rfl | cases this
  · obtain ⟨e, rfl⟩ : ∃ e, es = [e] := by
      match es, hes with
      | [e], _ => exact ⟨e, rfl⟩
    have hc : w.cell? ⟨b, o, none⟩ = some e := hr 0 e rfl
    have hagg : (isAgg T).run Tryz.prog w = .ok false w := by
      unfold isAgg
      rw [Sem.run_bind, run_underlying hu w]
      cases d <;> simp_all
    simp [loadVar, Sem.run_bind, hagg, hc, oneOf, go_sem]
theorem rdT : ElT 77 30 2 aggOf [.int .i64 0, .int .i64 0] := elT_row Tryz.underlying30 Tryz.underlying77 rfl (z := .agg #[.int .i64 0, .int .i64 0]) (by_ := 16) (by kernel_rfl) rfl (by decide) (by decide) (by decide) (by decide) rfl
theorem intT : ElT 3 38 1 oneOf [.int .i64 0] := elT_one Tryz.underlying38 Tryz.underlying3 rfl (z := .int .i64 0) (by_ := 8) (by kernel_rfl) rfl (by decide) (by decide) rfl
theorem strT : ElT 9 49 1 oneOf [.string ⟨#[]⟩] := elT_one Tryz.underlying49 Tryz.underlying9 rfl (z := .string ⟨#[]⟩) (by_ := 16) (by kernel_rfl) rfl (by decide) (by decide) rfl
theorem cntT : ElT 97 95 3 aggOf [.string ⟨#[]⟩, .int .i64 0, .int .i64 0] := elT_row Tryz.underlying95 Tryz.underlying97 rfl (z := .agg #[.string ⟨#[]⟩, .int .i64 0, .int .i64 0]) (by_ := 32) (by kernel_rfl) rfl (by decide) (by decide) (by decide) (by decide) rfl
theorem cntsT : ElT 95 48 1 oneOf [.slice none 0 0] := elT_one Tryz.underlying48 Tryz.underlying95 rfl (z := .slice none 0 0) (by_ := 24) (by kernel_rfl) rfl (by decide) (by decide) rfl
theorem repT : ElT 32 37 8 aggOf [.int .i64 0, .string ⟨#[]⟩, .int .i64 0, .int .i64 0, .int .i64 0, .int .i64 0, .int .i64 0, .slice none 0 0] :=
  elT_row Tryz.underlying37 Tryz.underlying32 rfl (z := .agg #[.int .i64 0, .string ⟨#[]⟩, .int .i64 0, .int .i64 0, .int .i64 0, .int .i64 0, .int .i64 0, .slice none 0 0]) (by_ := 88) (by kernel_rfl) rfl (by decide) (by decide) (by decide) (by decide) rfl
/-- An element where it lies. -/
theorem RdS.at {α : Type} {E : El α} {av : Nat → Prop} {w : World} {a : Option Addr} {n c : Nat} {l : List α} (hE : E.OK) (h : RdS E av w (.slice a n c) l) (i : Nat) (hi : i < l.length) : ∃ (ab ao : Nat) (es : List Value), a = some ⟨ab, ao, none⟩ ∧ E.rep av w es l[i] ∧ w.rangeAt ab (ao + i * E.n) es := by
  obtain ⟨a', c', e, _, _, _, h4⟩ := h
  obtain ⟨ab, ao, cs, t, f, ea, _, _, _, hc⟩ := h4 (by omega)
  obtain ⟨es, e1, e2⟩ := hc i hi
  obtain ⟨rfl, _⟩ : a = a' ∧ _ := by simpa using e
  refine ⟨ab, ao, es, ea, e1, fun j v hv => ?_⟩
  have hj : j < E.n := by
    rw [← hE.len e1]
    exact (List.getElem?_eq_some_iff.1 hv).1
  rw [e2 j hj, hv]
end Go.Proofs.YtpknalpdcfjffaaGreat
/- store.number, store.text, store.counts, over any walker. -/
namespace Go.Proofs.YtpknalpdcfjffaaGreat
open Go Go.RowKit

section
variable {σ : Type} {k : Wk σ}
theorem WPost.of {K : WkM k} {α : Type} {E : El α} {q : σ × α} {p o : Nat} {cs : List Value} {av : Nat → Prop} {w w' : World} (h : WPost K E q p o cs av w w') : WPost K E q p o cs av w w' := h
set_option maxHeartbeats 16000000 in
set_option maxRecDepth 100000 in
theorem number_walks (K : WkM k) (hK : K.OK) : Walks K 68 K.recv [] intE k.int := by
  intro s x w p o cs es av h1 h2 h3 h4 h5 h6 h7 h8
  obtain ⟨fi, mi, wi⟩ := hK.int
  have HM := Lib.hid mi
  have HC := Lib.hid (wi s x w p o cs es av h1 h2 h3 h4 h5 h6 h7 h8)
  clear h1 h4 h5 h6 h7 h8 hK mi
  go_enter Tryz.func68, Tryz.ntmps68
  go_wp2_with (refine wpList_invoke rfl HM.out.b _ _ _ rfl rfl [.pointer (some ⟨p, o, none⟩)] rfl HC.out ?_; intro e w2 hst; refine ⟨_, hst.1, ?_⟩)
  have HR := Lib.hid hst.2
  clear hst
  try go_wp2_with fail
  go_end0
  exact ⟨rfl, HR.out⟩
set_option maxHeartbeats 16000000 in
set_option maxRecDepth 100000 in
theorem text_walks (K : WkM k) (hK : K.OK) : Walks K 72 K.recv [] strE k.text := by
  intro s x w p o cs es av h1 h2 h3 h4 h5 h6 h7 h8
  obtain ⟨fi, mi, wi⟩ := hK.text
  have HM := Lib.hid mi
  have HC := Lib.hid (wi s x w p o cs es av h1 h2 h3 h4 h5 h6 h7 h8)
  clear h1 h4 h5 h6 h7 h8 hK mi
  go_enter Tryz.func72, Tryz.ntmps72
  go_wp2_with (refine wpList_invoke rfl HM.out.b _ _ _ rfl rfl [.pointer (some ⟨p, o, none⟩)] rfl HC.out ?_; intro e w2 hst; refine ⟨_, hst.1, ?_⟩)
  have HR := Lib.hid hst.2
  clear hst
  try go_wp2_with fail
  go_end0
  exact ⟨rfl, HR.out⟩
end
end Go.Proofs.YtpknalpdcfjffaaGreat
/- synoptic/store.slice[int], over any walker. Printed by gen_slices.py. -/
namespace Go.Proofs.YtpknalpdcfjffaaGreat
open Go Go.RowKit

section
variable {σ : Type} {k : Wk σ}
set_option maxHeartbeats 16000000 in
set_option maxRecDepth 100000 in
theorem slice_int (K : WkM k) (hK : K.OK) : Walks K 67 K.recv [.func (.func 68) #[] #[]] (sliE intE) (k.slice k.int 0) := by
  intro s l w p o cs es av h1 h2 h3 h4 h5 h6 h7 h8
  have HK := Lib.hid hK
  have HEo := Lib.hid intE_ok
  have HTo := Lib.hid intT
  have HMo := Lib.hid HK.out.mono.int
  have HWE := Lib.hid (number_walks K hK)
  obtain ⟨fc, mc, wc⟩ := hK.count
  have HMc := Lib.hid mc
  obtain ⟨v, rfl, hr⟩ := h6
  obtain ⟨a, c, rfl⟩ := hr.slice
  have HLl := Lib.hid hr.le
  have HRd := Lib.hid hr
  have HB : Hid (K.b < w.heap.size) := (hK.lt h1).2
  have HP : Hid (p < w.heap.size) := h4.lt
  have HAv := Lib.hid h7
  have HPA := Lib.hid h4
  have hlo := h5.le (by simp)
  have HO : Hid (o < cs.length) := by unfold Hid; simp at hlo; omega
  have HCs : Hid (cs[o]? = some (.slice a l.length c)) := h5 0 (by simp)
  have HCs2 := Lib.hid HCs.out
  have HC : Hid (w.drew.cell? ⟨p, o, none⟩ = some (.slice a l.length c)) := h4.drew.1.at o HCs.out
  have HS0 := Lib.hid h1
  have HSz := Lib.hid h8
  clear hr h1 h4 h5 h7 h8 hlo mc
  unfold Wk.slice at HSz
  go_enter Tryz.func67, Tryz.ntmps67
  try go_wp2_with fail
  refine wp_region_seq (by kernel_rfl) (fun w' => w'.cell? ⟨p, o, none⟩ = some (.slice a l.length c)) [(0, true), (1, true), (2, true), (3, true), (4, true), (5, true), (6, true), (7, true), (8, false), (9, true)] (by kernel_rfl) (HC.out) ?_
  refine seq_q (d := some 10) rfl rfl rfl (K.recv) (fun w hw => rfl) ?_
  simp only [Act.put, List.setIfInBounds_toArray, List.set_cons_zero, List.set_cons_succ]
  refine seq_q (d := some 11) rfl rfl rfl (.pointer (some ⟨p, o, none⟩)) (fun w hw => rfl) ?_
  simp only [Act.put, List.setIfInBounds_toArray, List.set_cons_zero, List.set_cons_succ]
  refine seq_q (d := some 12) rfl rfl rfl (.pointer (some ⟨p, o, none⟩)) (fun w hw => rfl) ?_
  simp only [Act.put, List.setIfInBounds_toArray, List.set_cons_zero, List.set_cons_succ]
  refine seq_q (d := some 13) rfl rfl rfl (.slice a l.length c) (fun w hw => by simp [execOp, Act.eval, hw, go_sem]) ?_
  simp only [Act.put, List.setIfInBounds_toArray, List.set_cons_zero, List.set_cons_succ]
  refine seq_q (d := some 14) rfl rfl rfl (.int .i64 l.length) (fun w hw => by simp [execOp, Act.eval, go_sem]) ?_
  simp only [Act.put, List.setIfInBounds_toArray, List.set_cons_zero, List.set_cons_succ]
  refine seq_q (d := some 15) rfl rfl rfl (.func (.method "synoptic/store.count") #[K.recv] #[]) (fun w hw => run_makeFunc (.tmp 10) rfl (K.recv) rfl w) ?_
  simp only [Act.put, List.setIfInBounds_toArray, List.set_cons_zero, List.set_cons_succ]
  refine seq_q (d := some 16) rfl rfl rfl (.func (.method "synoptic/store.count") #[K.recv] #[]) (fun w hw => run_nilMethod HMc.out.ahead (.tmp 15) rfl rfl w) ?_
  simp only [Act.put, List.setIfInBounds_toArray, List.set_cons_zero, List.set_cons_succ]
  refine seq_q (d := some 17) rfl rfl rfl (K.recv) (fun w hw => rfl) ?_
  simp only [Act.put, List.setIfInBounds_toArray, List.set_cons_zero, List.set_cons_succ]
  refine seq_invoke (d := some 18) rfl rfl rfl HMc.out.b _ _ _ rfl rfl [.int .i64 l.length] rfl (wc s l.length w.drew (HK.out.stable HS0.out (Quiet.drew _)) HLl.out (Nat.le_trans (Wk.Mono.run HMo.out _ _ _ _) HSz.out)) ?_
  rintro e w1 ⟨rfl, hn, hst, hf⟩
  have HW : Hid (WS K p (k.count s l.length).1 cs w w1) := ⟨hst, (Fr.drew w).trans hf.any, HPA.out.drew.keeps hf.keeps ⟨h3, h3⟩⟩
  have HC1 : Hid (w1.cell? ⟨p, o, none⟩ = some (.slice a l.length c)) := HW.out.pa.1.at o HCs.out
  refine ⟨_, rfl, HC1.out, ?_⟩
  simp only [Act.put, List.setIfInBounds_toArray, List.set_cons_zero, List.set_cons_succ]
  refine seq_q (d := some 6) rfl rfl rfl (.int .i64 (k.count s l.length).2) (fun w hw => rfl) ?_
  simp only [Act.put, List.setIfInBounds_toArray, List.set_cons_zero, List.set_cons_succ]
  refine seq_end ?_
  obtain ⟨s1, hs1⟩ : ∃ s1, s1 = (k.count s l.length).1 := ⟨_, rfl⟩
  obtain ⟨n, hn1⟩ : ∃ n, n = (k.count s l.length).2 := ⟨_, rfl⟩
  have HFin : Hid (k.slice k.int 0 s l = runE k.int 0 s1 l n) := by unfold Hid Wk.slice; rw [hs1, hn1]
  rw [← hs1] at HW
  rw [← hn1] at hn ⊢
  have HSz1 : Hid (k.sz (runE k.int 0 s1 l n).1 ≤ 10000000) := by rw [← HFin.out]; exact HSz.out
  have HN6 : Hid (n ≤ 1000000) := hn
  have n0 : (n : Int) ≤ 1000000 := by omega
  have HLs : Hid (SlS K intE _ k.int 0 s1 l p cs av w 0 (.slice none 0 0) w1) := SlS.start (T := 3) HW.out
  clear HW HC1 HC hst hf hn hs1 hn1 HSz HCs
  go_wp2_with fail
  go_loopw [20, 7] (fun kv lv wr => ∃ (i : Nat) (ov : Value), ov = lv ∧ kv = .int .i64 i ∧ i ≤ n ∧ Hid (SlS K intE 3 k.int 0 s1 l p cs av w i ov wr)) (fun kv _ _ => (2000000 - intOf kv).toNat)
  case atStart => exact ⟨0, _, rfl, rfl, by omega, HLs⟩
  case round =>
    clear HLs
    obtain ⟨i, ov, rfl, rfl, hi, hs⟩ := hrel
    by_cases hin : i < n
    · have i0 : (i : Int) < (n : Int) := by omega
      have HSi : Hid (k.sz (k.int (runE k.int 0 s1 l i).1 (l.getD i 0)).1 ≤ 10000000) := Nat.le_trans (Wk.Mono.run_le HMo.out 0 s1 l (i + 1) n (by omega)) HSz1.out
      go_upto_region 6 with fail
      have hbx : Below wr.heap.size wr (wr.alloc (.cells #[.int .i64 0] 3)) := (Below.refl _ _).alloc (Nat.le_refl _) _
      have hsx : wr.heap.size < (wr.alloc (.cells #[.int .i64 0] 3)).heap.size := by simp
      have HX : Hid (PAt (wr.alloc (.cells #[.int .i64 0] 3)) wr.heap.size [.int .i64 0]) := PAt.new wr [.int .i64 0] (by simp) _ HTo.out.ne rfl
      generalize wr.alloc (.cells #[.int .i64 0] 3) = wx at hbx hsx HX ⊢
      have HWx := Lib.hid (hs.out.ws.new HK.out hbx)
      have hcx : wx.cell? ⟨p, o, none⟩ = some (.slice a l.length c) := HWx.out.pa.1.at o HCs2.out
      have HBx := Lib.hid hbx
      have HSx := Lib.hid hsx
      have HXb : Hid (K.base ≤ wr.heap.size ∧ wr.heap.size ≠ K.b ∧ w.heap.size ≤ wr.heap.size) := by
        have h1 := hs.out.ws.fr.size
        have h2 := HB.out
        have h3 := (HK.out.lt hs.out.ws.st).1
        unfold Hid; omega
      clear hbx hsx
      by_cases hil : i < l.length
      · have i1 : (i : Int) < (l.length : Int) := by omega
        obtain ⟨ab, ao, es, rfl, hrep, hrg⟩ := ((HRd.out.in HEo.out).keep HEo.out (HWx.out.fr.keeps.mono fun g _ hg => HAv.out g hg.1)).at HEo.out i hil
        have hel := HEo.out.len hrep
        have HRg : Hid (wx.rangeAt ab (ao + i) es) := by
          have h : ao + i * intE.n = ao + i := by show ao + i * 1 = _; omega
          unfold Hid; rw [← h]; exact hrg
        have HEl := Lib.hid hel
        have HRp0 := Lib.hid hrep
        have HRo := Lib.hid (HEo.out.one hrep)
        clear hrep hrg hel
        go_wp2_with (first
          | (refine list_load HTo.out rfl _ rfl ab (ao + i) rfl es HEl.out HRg.out ?_)
          | (refine list_store HTo.out rfl _ _ rfl wr.heap.size rfl es rfl HEl.out HRo.out (HX.out.1.there (by simp)) ?_))
        have hap := apartR_setCells wr.heap.size es 0 wx
        have HY : Hid (K.St (runE k.int 0 s1 l i).1 (wx.setCells wr.heap.size 0 es) ∧ K.base ≤ wr.heap.size ∧ wr.heap.size ≠ K.b ∧ PAt (wx.setCells wr.heap.size 0 es) wr.heap.size es ∧ intE.rep (fun g => av g ∧ g < w.heap.size) (wx.setCells wr.heap.size 0 es) es (l.getD i 0) ∧ (∀ g, av g ∧ g < w.heap.size → g ≠ K.b ∧ g ≠ wr.heap.size) ∧ Below wr.heap.size wr (wx.setCells wr.heap.size 0 es) ∧ wr.heap.size < (wx.setCells wr.heap.size 0 es).heap.size) := by
          refine ⟨HK.out.stable HWx.out.st (HX.out.quietR HXb.out.1 HXb.out.2.1 hap), HXb.out.1, HXb.out.2.1, HX.out.setCells es (by rw [HEl.out]; rfl), ?_, fun g hg => ⟨(HAv.out g hg.1).1, by have := HXb.out.2.2; omega⟩, HBx.out.trans (hap.below (Nat.le_refl _)), by rw [hap.2.2.2.1]; exact HSx.out⟩
          have e : l.getD i 0 = l[i] := by simp [hil]
          rw [e]
          exact HEo.out.keep HRp0.out fun g c t f _ _ hg => hap.2.2.2.2 g (by have := HXb.out.2.2; omega)
        generalize wx.setCells wr.heap.size 0 es = wy at HY hap ⊢
        clear hap HRg HEl HRp0 HRo HX HWx HBx HSx hcx
        refine (HWE.out (runE k.int 0 s1 l i).1 (l.getD i 0) wy wr.heap.size 0 es es (fun g => av g ∧ g < w.heap.size) HY.out.1 HY.out.2.1 HY.out.2.2.1 HY.out.2.2.2.1 (fun j hj => by rw [Nat.zero_add]) HY.out.2.2.2.2.1 HY.out.2.2.2.2.2.1 HSi.out).mono ?_
        rintro e w2 ⟨rfl, hst, hf, es', hpa, hrep⟩
        have hes' : es'.length = 1 := HEo.out.len hrep
        have hes : es.length = 1 := HEo.out.len HY.out.2.2.2.2.1
        rw [putL_whole (by rw [hes', hes])] at hpa
        have HAp := Lib.hid (hs.out.next HK.out HEo.out HTo.out HB.out HP.out h3 h2 HAv.out HY.out.2.2.2.2.2.2.1 HY.out.2.2.2.2.2.2.2 hst hf hrep (by have := HN6.out; omega) 38)
        have HPx := Lib.hid hpa
        have HRp := Lib.hid (HEo.out.one hrep)
        have HLn := Lib.hid hes'
        clear hst hf hpa hrep hes hes' HY HSi hs
        go_wp2_with (first
          | (refine list_load HTo.out rfl _ rfl wr.heap.size 0 rfl es' HLn.out HPx.out.1.range ?_)
          | (refine list_lit HTo.out rfl _ rfl es' rfl HLn.out HRp.out ?_)
          | (at_builtin; obtain ⟨v', w', hrun, hs'⟩ := HAp.out; have Hrun := Lib.hid hrun; have Hs' := Lib.hid hs'; clear hrun hs'; refine wpList_append_run rfl _ _ _ rfl _ _ _ _ rfl rfl Hrun.out ?_))
        go_roundw
        case rel => exact ⟨i + 1, v', rfl, by go_num, by omega, Hs'⟩
        case measure => simp [intOf]; omega
      · have HY : Hid (K.St (runE k.int 0 s1 l i).1 wx ∧ K.base ≤ wr.heap.size ∧ wr.heap.size ≠ K.b ∧ PAt wx wr.heap.size [.int .i64 0] ∧ intE.rep (fun g => av g ∧ g < w.heap.size) wx [.int .i64 0] (l.getD i 0) ∧ (∀ g, av g ∧ g < w.heap.size → g ≠ K.b ∧ g ≠ wr.heap.size) ∧ Below wr.heap.size wr wx ∧ wr.heap.size < wx.heap.size) := by
          refine ⟨HWx.out.st, HXb.out.1, HXb.out.2.1, HX.out, ?_, fun g hg => ⟨(HAv.out g hg.1).1, by have := HXb.out.2.2; omega⟩, HBx.out, HSx.out⟩
          have e : l.getD i 0 = 0 := by simp [List.getElem?_eq_none (Nat.le_of_not_lt hil)]
          rw [e]
          exact ⟨rfl, I64.zero⟩
        go_wp2_with fail
        obtain ⟨es, hes0⟩ : ∃ es : List Value, es = [.int .i64 0] := ⟨_, rfl⟩
        rw [← hes0] at HY
        clear hes0 HX HWx HBx HSx hcx
        obtain ⟨wy, rfl⟩ : ∃ wy : World, wy = wx := ⟨_, rfl⟩
        refine (HWE.out (runE k.int 0 s1 l i).1 (l.getD i 0) wy wr.heap.size 0 es es (fun g => av g ∧ g < w.heap.size) HY.out.1 HY.out.2.1 HY.out.2.2.1 HY.out.2.2.2.1 (fun j hj => by rw [Nat.zero_add]) HY.out.2.2.2.2.1 HY.out.2.2.2.2.2.1 HSi.out).mono ?_
        rintro e w2 ⟨rfl, hst, hf, es', hpa, hrep⟩
        have hes' : es'.length = 1 := HEo.out.len hrep
        have hes : es.length = 1 := HEo.out.len HY.out.2.2.2.2.1
        rw [putL_whole (by rw [hes', hes])] at hpa
        have HAp := Lib.hid (hs.out.next HK.out HEo.out HTo.out HB.out HP.out h3 h2 HAv.out HY.out.2.2.2.2.2.2.1 HY.out.2.2.2.2.2.2.2 hst hf hrep (by have := HN6.out; omega) 38)
        have HPx := Lib.hid hpa
        have HRp := Lib.hid (HEo.out.one hrep)
        have HLn := Lib.hid hes'
        clear hst hf hpa hrep hes hes' HY HSi hs
        go_wp2_with (first
          | (refine list_load HTo.out rfl _ rfl wr.heap.size 0 rfl es' HLn.out HPx.out.1.range ?_)
          | (refine list_lit HTo.out rfl _ rfl es' rfl HLn.out HRp.out ?_)
          | (at_builtin; obtain ⟨v', w', hrun, hs'⟩ := HAp.out; have Hrun := Lib.hid hrun; have Hs' := Lib.hid hs'; clear hrun hs'; refine wpList_append_run rfl _ _ _ rfl _ _ _ _ rfl rfl Hrun.out ?_))
        go_roundw
        case rel => exact ⟨i + 1, v', rfl, by go_num, by omega, Hs'⟩
        case measure => simp [intOf]; omega
    · obtain rfl : i = n := by omega
      obtain ⟨oa, oc, rfl⟩ := hs.out.slice
      have hc5 : wr.cell? ⟨p, o, none⟩ = some (.slice a l.length c) := hs.out.ws.pa.1.at o HCs2.out
      have hf5 : wr.frozen? ⟨p, o, none⟩ = false := hs.out.ws.pa.1.2.2 o HO.out
      have HPo : Hid (WPost K (sliE intE) (k.slice k.int 0 s l) p o cs av w (wr.setCell ⟨p, o, none⟩ (.slice oa i oc))) := by rw [HFin.out]; exact hs.out.post HK.out HEo.out HTo.out HN6.out HP.out h3 h2 HAv.out o HO.out
      clear hs
      go_wp2_with fail
      go_end0
      exact ⟨rfl, HPo.out⟩
end
end Go.Proofs.YtpknalpdcfjffaaGreat
/- An entry, its item, its period and its cycle in memory. No walk. -/
namespace Go.Proofs.YtpknalpdcfjffaaGreat
open Go Go.RowKit

structure Itm where
  rep : Rep
  corr : Int
  arr : Int
structure Per where
  from_ : Int
  closed : Bool
  pl : Pla
  bias : List (Int × Int)
def Wk.itm {σ : Type} (k : Wk σ) (s : σ) (x : Itm) : σ × Itm :=
  let a := k.rep s x.rep
  let b := k.int a.1 x.corr
  let c := k.int b.1 x.arr
  (c.1, ⟨a.2, b.2, c.2⟩)
def Wk.per {σ : Type} (k : Wk σ) (s : σ) (x : Per) : σ × Per :=
  let a := k.int s x.from_
  let b := k.bool a.1 x.closed
  let c := k.place b.1 x.pl
  let d := k.slice k.reading (0, 0) c.1 x.bias
  (d.1, ⟨a.2, b.2, c.2, d.2⟩)
theorem Wk.Mono.itm {σ : Type} {k : Wk σ} (h : k.Mono) (s : σ) (x : Itm) : k.sz s ≤ k.sz (k.itm s x).1 := Nat.le_trans (Nat.le_trans (h.rep _ _) (h.int _ _)) (h.int _ _)
theorem Wk.Mono.per {σ : Type} {k : Wk σ} (h : k.Mono) (s : σ) (x : Per) : k.sz s ≤ k.sz (k.per s x).1 := Nat.le_trans (Nat.le_trans (Nat.le_trans (h.int _ _) (h.bool _ _)) (h.place _ _)) (h.slice h.reading _ _ _)
def anaCells (x : Ana) (a b c : Value) : List Value := [a, b, c, .int .i64 x.hi, .int .u64 x.lo, .int .i64 x.anchor, .int .i64 x.radius, .int .i64 x.rounds]
def anaE : El Ana := ⟨8, fun av w cs x => ∃ a b c, cs = anaCells x a b c ∧ RdS intE av w a x.bg ∧ RdS intE av w b x.inc ∧ RdS intE av w c x.field ∧ I64 x.hi ∧ x.lo < 18446744073709551616 ∧ I64 x.anchor ∧ I64 x.radius ∧ I64 x.rounds⟩
def itmE : El Itm := ⟨10, fun av w cs x => ∃ v, cs = repCells x.rep v ++ [.int .i64 x.corr, .int .i64 x.arr] ∧ (I64 x.rep.kind ∧ x.rep.name.size ≤ 10000000 ∧ I64 x.rep.time ∧ okPla x.rep.pl ∧ RdS rdE av w v x.rep.rds) ∧ I64 x.corr ∧ I64 x.arr⟩
def perE : El Per := ⟨7, fun av w cs x => ∃ v, cs = [.int .i64 x.from_, .bool x.closed, .int .i64 x.pl.f, .int .i64 x.pl.a, .int .i64 x.pl.b, .int .i64 x.pl.c, v] ∧ I64 x.from_ ∧ okPla x.pl ∧ RdS rdE av w v x.bias⟩
def cycCells (x : Cyc) (v0 v1 v2 v3 v4 v5 v6 v7 : Value) : List Value :=
  [.int .i64 x.number, .int .i64 x.time, .int .i64 x.cutoff, v0, v1, v2, v3, .int .i64 x.ana.hi, .int .u64 x.ana.lo, .int .i64 x.ana.anchor, .int .i64 x.ana.radius, .int .i64 x.ana.rounds, .int .i64 x.freq, v4, v5, v6, v7]
def cycE : El Cyc := ⟨17, fun av w cs x => ∃ v0 v1 v2 v3 v4 v5 v6 v7, cs = cycCells x v0 v1 v2 v3 v4 v5 v6 v7 ∧ I64 x.number ∧ I64 x.time ∧ I64 x.cutoff ∧ RdS repE av w v0 x.reps ∧
  (RdS intE av w v1 x.ana.bg ∧ RdS intE av w v2 x.ana.inc ∧ RdS intE av w v3 x.ana.field ∧ I64 x.ana.hi ∧ x.ana.lo < 18446744073709551616 ∧ I64 x.ana.anchor ∧ I64 x.ana.radius ∧ I64 x.ana.rounds) ∧
  I64 x.freq ∧ RdS intE av w v4 x.depth ∧ RdS intE av w v5 x.flow ∧ RdS (sliE cntE) av w v6 x.cycles ∧ RdS strE av w v7 x.listed⟩
theorem RdS.one {α : Type} {E : El α} {av : Nat → Prop} {w : World} {v : Value} {l : List α} (h : RdS E av w v l) : v.oneCell' = true := by
  obtain ⟨a, c, rfl⟩ := h.slice
  rfl
theorem anaE_ok : anaE.OK :=
  ⟨by decide, by rintro _ _ _ _ ⟨a, b, c, rfl, _⟩; rfl, by
    rintro _ _ _ _ ⟨a, b, c, rfl, h1, h2, h3, _⟩ u hu
    simp only [anaCells, List.mem_cons, List.not_mem_nil, or_false] at hu
    rcases hu with rfl | rfl | rfl | rfl | rfl | rfl | rfl | rfl <;> first | exact h1.one | exact h2.one | exact h3.one | rfl,
    fun ⟨a, b, c, e, h1, h2, h3, h⟩ hk => ⟨a, b, c, e, h1.keep intE_ok hk, h2.keep intE_ok hk, h3.keep intE_ok hk, h⟩, fun ⟨a, b, c, e, h1, h2, h3, h⟩ hk => ⟨a, b, c, e, h1.weak intE_ok hk, h2.weak intE_ok hk, h3.weak intE_ok hk, h⟩⟩
theorem itmE_ok : itmE.OK :=
  ⟨by decide, by rintro _ _ _ _ ⟨v, rfl, _⟩; rfl, by
    rintro _ _ _ _ ⟨v, rfl, ⟨_, _, _, _, h⟩, _⟩ u hu
    simp only [repCells, List.cons_append, List.nil_append, List.mem_cons, List.not_mem_nil, or_false] at hu
    rcases hu with rfl | rfl | rfl | rfl | rfl | rfl | rfl | rfl | rfl | rfl <;> first | exact h.one | rfl,
    fun ⟨v, e, ⟨h1, h2, h3, h4, h⟩, h5⟩ hk => ⟨v, e, ⟨h1, h2, h3, h4, h.keep rdE_ok hk⟩, h5⟩, fun ⟨v, e, ⟨h1, h2, h3, h4, h⟩, h5⟩ hk => ⟨v, e, ⟨h1, h2, h3, h4, h.weak rdE_ok hk⟩, h5⟩⟩
theorem perE_ok : perE.OK :=
  ⟨by decide, by rintro _ _ _ _ ⟨v, rfl, _⟩; rfl, by
    rintro _ _ _ _ ⟨v, rfl, _, _, h⟩ u hu
    simp only [List.mem_cons, List.not_mem_nil, or_false] at hu
    rcases hu with rfl | rfl | rfl | rfl | rfl | rfl | rfl <;> first | exact h.one | rfl,
    fun ⟨v, e, h1, h2, h⟩ hk => ⟨v, e, h1, h2, h.keep rdE_ok hk⟩, fun ⟨v, e, h1, h2, h⟩ hk => ⟨v, e, h1, h2, h.weak rdE_ok hk⟩⟩
theorem cycE_ok : cycE.OK :=
  ⟨by decide, by rintro _ _ _ _ ⟨v0, v1, v2, v3, v4, v5, v6, v7, rfl, _⟩; rfl, by
    rintro _ _ _ _ ⟨v0, v1, v2, v3, v4, v5, v6, v7, rfl, _, _, _, h0, ⟨h1, h2, h3, _⟩, _, h4, h5, h6, h7⟩ u hu
    simp only [cycCells, List.mem_cons, List.not_mem_nil, or_false] at hu
    rcases hu with rfl | rfl | rfl | rfl | rfl | rfl | rfl | rfl | rfl | rfl | rfl | rfl | rfl | rfl | rfl | rfl | rfl <;> first | exact h0.one | exact h1.one | exact h2.one | exact h3.one | exact h4.one | exact h5.one | exact h6.one | exact h7.one | rfl,
    fun ⟨v0, v1, v2, v3, v4, v5, v6, v7, e, a, b, c, h0, ⟨h1, h2, h3, d⟩, f, h4, h5, h6, h7⟩ hk => ⟨v0, v1, v2, v3, v4, v5, v6, v7, e, a, b, c, h0.keep repE_ok hk, ⟨h1.keep intE_ok hk, h2.keep intE_ok hk, h3.keep intE_ok hk, d⟩, f, h4.keep intE_ok hk, h5.keep intE_ok hk, h6.keep (sliE_ok cntE_ok) hk, h7.keep strE_ok hk⟩,
    fun ⟨v0, v1, v2, v3, v4, v5, v6, v7, e, a, b, c, h0, ⟨h1, h2, h3, d⟩, f, h4, h5, h6, h7⟩ hk => ⟨v0, v1, v2, v3, v4, v5, v6, v7, e, a, b, c, h0.weak repE_ok hk, ⟨h1.weak intE_ok hk, h2.weak intE_ok hk, h3.weak intE_ok hk, d⟩, f, h4.weak intE_ok hk, h5.weak intE_ok hk, h6.weak (sliE_ok cntE_ok) hk, h7.weak strE_ok hk⟩⟩
end Go.Proofs.YtpknalpdcfjffaaGreat
/- store.analysis, over any walker. Printed by gen_fields.py. -/
namespace Go.Proofs.YtpknalpdcfjffaaGreat
open Go Go.RowKit

section
variable {σ : Type} {k : Wk σ}
set_option maxHeartbeats 16000000 in
set_option maxRecDepth 100000 in
theorem analysis_walks (K : WkM k) (hK : K.OK) : Walks K 66 K.recv [] anaE k.ana := by
  intro s x w p o cs es av h1 h2 h3 h4 h5 h6 h7 h8
  have HK := Lib.hid hK
  obtain ⟨f_int, m_int, w_int⟩ := hK.int
  have HM_int := Lib.hid m_int
  obtain ⟨f_word, m_word, w_word⟩ := hK.word
  have HM_word := Lib.hid m_word
  have HB : Hid (K.b < w.heap.size) := (hK.lt h1).2
  have HPl : Hid (p < w.heap.size) := h4.lt
  have HAv := Lib.hid h7
  obtain ⟨v0, v1, v2, rfl, r0, r1, r2, r3, r4, r5, r6, r7⟩ := h6
  have HAt := Lib.hid h5
  have HW0 : Hid (WS K p s (putL cs o []) w w) := (WS.start h1 h4).whole
  have HSz := Lib.hid h8
  clear h1 h4 h5 h7 h8 hK
  go_enter Tryz.func66, Tryz.ntmps66
  go_wp2_with fail
  refine (HW0.out.field (slice_int K HK.out) (sliE_ok intE_ok) h2 h3 (es := [v0]) (a := []) (c := [v1, v2, .int .i64 x.hi, .int .u64 x.lo, .int .i64 x.anchor, .int .i64 x.radius, .int .i64 x.rounds]) HAt.out rfl ⟨_, rfl, r0⟩ HAv.out _ rfl (Nat.le_trans (HK.out.mono.nums _ _) (Nat.le_trans (HK.out.mono.nums _ _) (Nat.le_trans (HK.out.mono.int _ _) (Nat.le_trans (HK.out.mono.word _ _) (Nat.le_trans (HK.out.mono.int _ _) (Nat.le_trans (HK.out.mono.int _ _) (Nat.le_trans (HK.out.mono.int _ _) HSz.out)))))))).mono ?_
  rintro e w1 ⟨rfl, es0, h1, ⟨y0, rfl, R0⟩, -, hf⟩
  have HW1 : Hid (WS K p (k.nums s x.bg).1 (putL cs o [y0]) w w1) := h1
  have R0h := Lib.hid R0
  clear R0
  have R0 := R0h
  clear R0h
  clear h1 hf HW0
  go_wp2_with fail
  refine (HW1.out.field (slice_int K HK.out) (sliE_ok intE_ok) h2 h3 (es := [v1]) (a := [v0]) (c := [v2, .int .i64 x.hi, .int .u64 x.lo, .int .i64 x.anchor, .int .i64 x.radius, .int .i64 x.rounds]) HAt.out rfl ⟨_, rfl, r1⟩ HAv.out _ rfl (Nat.le_trans (HK.out.mono.nums _ _) (Nat.le_trans (HK.out.mono.int _ _) (Nat.le_trans (HK.out.mono.word _ _) (Nat.le_trans (HK.out.mono.int _ _) (Nat.le_trans (HK.out.mono.int _ _) (Nat.le_trans (HK.out.mono.int _ _) HSz.out))))))).mono ?_
  rintro e w2 ⟨rfl, es1, h1, ⟨y1, rfl, R1⟩, -, hf⟩
  have HW2 : Hid (WS K p (k.nums (k.nums s x.bg).1 x.inc).1 (putL cs o [y0, y1]) w w2) := h1
  have R0n := Lib.hid (R0.out.next intE_ok hf HAv.out HB.out HPl.out)
  clear R0
  have R0 := R0n
  clear R0n
  have R1h := Lib.hid R1
  clear R1
  have R1 := R1h
  clear R1h
  clear h1 hf HW1
  go_wp2_with fail
  refine (HW2.out.field (slice_int K HK.out) (sliE_ok intE_ok) h2 h3 (es := [v2]) (a := [v0, v1]) (c := [.int .i64 x.hi, .int .u64 x.lo, .int .i64 x.anchor, .int .i64 x.radius, .int .i64 x.rounds]) HAt.out rfl ⟨_, rfl, r2⟩ HAv.out _ rfl (Nat.le_trans (HK.out.mono.int _ _) (Nat.le_trans (HK.out.mono.word _ _) (Nat.le_trans (HK.out.mono.int _ _) (Nat.le_trans (HK.out.mono.int _ _) (Nat.le_trans (HK.out.mono.int _ _) HSz.out)))))).mono ?_
  rintro e w3 ⟨rfl, es2, h1, ⟨y2, rfl, R2⟩, -, hf⟩
  have HW3 : Hid (WS K p (k.nums (k.nums (k.nums s x.bg).1 x.inc).1 x.field).1 (putL cs o [y0, y1, y2]) w w3) := h1
  have R0n := Lib.hid (R0.out.next intE_ok hf HAv.out HB.out HPl.out)
  clear R0
  have R0 := R0n
  clear R0n
  have R1n := Lib.hid (R1.out.next intE_ok hf HAv.out HB.out HPl.out)
  clear R1
  have R1 := R1n
  clear R1n
  have R2h := Lib.hid R2
  clear R2
  have R2 := R2h
  clear R2h
  clear h1 hf HW2
  try go_wp2_with fail
  refine wp_region_seq (by kernel_rfl) (fun _ => True) [(0, true), (1, true), (2, true), (3, true), (4, true), (5, true), (6, true), (7, true), (8, true), (9, false)] (by kernel_rfl) (trivial) ?_
  refine seq_q (d := some 19) rfl rfl rfl (K.recv) (fun w hw => rfl) ?_
  simp only [Act.put, List.setIfInBounds_toArray, List.set_cons_zero, List.set_cons_succ]
  refine seq_q (d := some 20) rfl rfl rfl (.pointer (some ⟨p, o, none⟩)) (fun w hw => rfl) ?_
  simp only [Act.put, List.setIfInBounds_toArray, List.set_cons_zero, List.set_cons_succ]
  refine seq_q (d := some 21) rfl rfl rfl (.pointer (some ⟨p, o, none⟩)) (fun w hw => rfl) ?_
  simp only [Act.put, List.setIfInBounds_toArray, List.set_cons_zero, List.set_cons_succ]
  refine seq_q (d := some 22) rfl rfl rfl (.pointer (some ⟨p, o + 3, none⟩)) (fun w hw => by go_simp) ?_
  simp only [Act.put, List.setIfInBounds_toArray, List.set_cons_zero, List.set_cons_succ]
  refine seq_q (d := some 23) rfl rfl rfl (.pointer (some ⟨p, o + 3, none⟩)) (fun w hw => by go_simp) ?_
  simp only [Act.put, List.setIfInBounds_toArray, List.set_cons_zero, List.set_cons_succ]
  refine seq_q (d := some 24) rfl rfl rfl (.pointer (some ⟨p, o + 3, none⟩)) (fun w hw => by go_simp) ?_
  simp only [Act.put, List.setIfInBounds_toArray, List.set_cons_zero, List.set_cons_succ]
  refine seq_q (d := some 25) rfl rfl rfl (.func (.method "synoptic/store.int") #[K.recv] #[]) (fun w hw => run_makeFunc (.tmp 19) rfl (K.recv) rfl w) ?_
  simp only [Act.put, List.setIfInBounds_toArray, List.set_cons_zero, List.set_cons_succ]
  refine seq_q (d := some 26) rfl rfl rfl (.func (.method "synoptic/store.int") #[K.recv] #[]) (fun w hw => run_nilMethod HM_int.out.ahead (.tmp 25) rfl rfl w) ?_
  simp only [Act.put, List.setIfInBounds_toArray, List.set_cons_zero, List.set_cons_succ]
  refine seq_q (d := some 27) rfl rfl rfl (K.recv) (fun w hw => rfl) ?_
  simp only [Act.put, List.setIfInBounds_toArray, List.set_cons_zero, List.set_cons_succ]
  refine seq_invoke (d := some 28) rfl rfl rfl HM_int.out.b _ _ _ rfl rfl [.pointer (some ⟨p, o + 3, none⟩)] rfl ((HW3.out.drew HK.out).field w_int intE_ok h2 h3 (es := [.int .i64 x.hi]) (a := [v0, v1, v2]) (c := [.int .u64 x.lo, .int .i64 x.anchor, .int .i64 x.radius, .int .i64 x.rounds]) HAt.out rfl ⟨rfl, r3⟩ HAv.out _ rfl (Nat.le_trans (HK.out.mono.word _ _) (Nat.le_trans (HK.out.mono.int _ _) (Nat.le_trans (HK.out.mono.int _ _) (Nat.le_trans (HK.out.mono.int _ _) HSz.out))))) ?_
  rintro e w4 ⟨rfl, es3, h1, ⟨rfl, i3⟩, -, hf⟩
  refine ⟨_, rfl, trivial, ?_⟩
  simp only [Act.put, List.setIfInBounds_toArray, List.set_cons_zero, List.set_cons_succ]
  refine seq_end ?_
  have HW4 : Hid (WS K p (k.int (k.nums (k.nums (k.nums s x.bg).1 x.inc).1 x.field).1 x.hi).1 (putL cs o [y0, y1, y2, .int .i64 (k.int (k.nums (k.nums (k.nums s x.bg).1 x.inc).1 x.field).1 x.hi).2]) w w4) := h1
  have R0n := Lib.hid (R0.out.next intE_ok ((Fr.drew _).trans hf) HAv.out HB.out HPl.out)
  clear R0
  have R0 := R0n
  clear R0n
  have R1n := Lib.hid (R1.out.next intE_ok ((Fr.drew _).trans hf) HAv.out HB.out HPl.out)
  clear R1
  have R1 := R1n
  clear R1n
  have R2n := Lib.hid (R2.out.next intE_ok ((Fr.drew _).trans hf) HAv.out HB.out HPl.out)
  clear R2
  have R2 := R2n
  clear R2n
  have I3 := Lib.hid i3
  clear i3
  clear h1 hf HW3
  try go_wp2_with fail
  refine wp_region_seq (by kernel_rfl) (fun _ => True) [(0, true), (1, true), (2, true), (3, true), (4, true), (5, true), (6, true), (7, true), (8, true), (9, false)] (by kernel_rfl) (trivial) ?_
  refine seq_q (d := some 29) rfl rfl rfl (K.recv) (fun w hw => rfl) ?_
  simp only [Act.put, List.setIfInBounds_toArray, List.set_cons_zero, List.set_cons_succ]
  refine seq_q (d := some 30) rfl rfl rfl (.pointer (some ⟨p, o, none⟩)) (fun w hw => rfl) ?_
  simp only [Act.put, List.setIfInBounds_toArray, List.set_cons_zero, List.set_cons_succ]
  refine seq_q (d := some 31) rfl rfl rfl (.pointer (some ⟨p, o, none⟩)) (fun w hw => rfl) ?_
  simp only [Act.put, List.setIfInBounds_toArray, List.set_cons_zero, List.set_cons_succ]
  refine seq_q (d := some 32) rfl rfl rfl (.pointer (some ⟨p, o + 3, none⟩)) (fun w hw => by go_simp) ?_
  simp only [Act.put, List.setIfInBounds_toArray, List.set_cons_zero, List.set_cons_succ]
  refine seq_q (d := some 33) rfl rfl rfl (.pointer (some ⟨p, o + 3, none⟩)) (fun w hw => by go_simp) ?_
  simp only [Act.put, List.setIfInBounds_toArray, List.set_cons_zero, List.set_cons_succ]
  refine seq_q (d := some 34) rfl rfl rfl (.pointer (some ⟨p, o + 4, none⟩)) (fun w hw => by go_simp) ?_
  simp only [Act.put, List.setIfInBounds_toArray, List.set_cons_zero, List.set_cons_succ]
  refine seq_q (d := some 35) rfl rfl rfl (.func (.method "synoptic/store.word") #[K.recv] #[]) (fun w hw => run_makeFunc (.tmp 29) rfl (K.recv) rfl w) ?_
  simp only [Act.put, List.setIfInBounds_toArray, List.set_cons_zero, List.set_cons_succ]
  refine seq_q (d := some 36) rfl rfl rfl (.func (.method "synoptic/store.word") #[K.recv] #[]) (fun w hw => run_nilMethod HM_word.out.ahead (.tmp 35) rfl rfl w) ?_
  simp only [Act.put, List.setIfInBounds_toArray, List.set_cons_zero, List.set_cons_succ]
  refine seq_q (d := some 37) rfl rfl rfl (K.recv) (fun w hw => rfl) ?_
  simp only [Act.put, List.setIfInBounds_toArray, List.set_cons_zero, List.set_cons_succ]
  refine seq_invoke (d := some 38) rfl rfl rfl HM_word.out.b _ _ _ rfl rfl [.pointer (some ⟨p, o + 4, none⟩)] rfl ((HW4.out.drew HK.out).field w_word wordE_ok h2 h3 (es := [.int .u64 x.lo]) (a := [v0, v1, v2, .int .i64 x.hi]) (c := [.int .i64 x.anchor, .int .i64 x.radius, .int .i64 x.rounds]) HAt.out rfl ⟨rfl, r4⟩ HAv.out _ rfl (Nat.le_trans (HK.out.mono.int _ _) (Nat.le_trans (HK.out.mono.int _ _) (Nat.le_trans (HK.out.mono.int _ _) HSz.out)))) ?_
  rintro e w5 ⟨rfl, es4, h1, ⟨rfl, i4⟩, -, hf⟩
  refine ⟨_, rfl, trivial, ?_⟩
  simp only [Act.put, List.setIfInBounds_toArray, List.set_cons_zero, List.set_cons_succ]
  refine seq_end ?_
  have HW5 : Hid (WS K p (k.word (k.int (k.nums (k.nums (k.nums s x.bg).1 x.inc).1 x.field).1 x.hi).1 x.lo).1 (putL cs o [y0, y1, y2, .int .i64 (k.int (k.nums (k.nums (k.nums s x.bg).1 x.inc).1 x.field).1 x.hi).2, .int .u64 (k.word (k.int (k.nums (k.nums (k.nums s x.bg).1 x.inc).1 x.field).1 x.hi).1 x.lo).2]) w w5) := h1
  have R0n := Lib.hid (R0.out.next intE_ok ((Fr.drew _).trans hf) HAv.out HB.out HPl.out)
  clear R0
  have R0 := R0n
  clear R0n
  have R1n := Lib.hid (R1.out.next intE_ok ((Fr.drew _).trans hf) HAv.out HB.out HPl.out)
  clear R1
  have R1 := R1n
  clear R1n
  have R2n := Lib.hid (R2.out.next intE_ok ((Fr.drew _).trans hf) HAv.out HB.out HPl.out)
  clear R2
  have R2 := R2n
  clear R2n
  have I4 := Lib.hid i4
  clear i4
  clear h1 hf HW4
  try go_wp2_with fail
  refine wp_region_seq (by kernel_rfl) (fun _ => True) [(0, true), (1, true), (2, true), (3, true), (4, true), (5, true), (6, true), (7, true), (8, true), (9, true), (10, true), (11, true), (12, false), (13, false)] (by kernel_rfl) (trivial) ?_
  refine seq_q (d := some 39) rfl rfl rfl (K.recv) (fun w hw => rfl) ?_
  simp only [Act.put, List.setIfInBounds_toArray, List.set_cons_zero, List.set_cons_succ]
  refine seq_q (d := some 40) rfl rfl rfl (.pointer (some ⟨p, o, none⟩)) (fun w hw => rfl) ?_
  simp only [Act.put, List.setIfInBounds_toArray, List.set_cons_zero, List.set_cons_succ]
  refine seq_q (d := some 41) rfl rfl rfl (.pointer (some ⟨p, o, none⟩)) (fun w hw => rfl) ?_
  simp only [Act.put, List.setIfInBounds_toArray, List.set_cons_zero, List.set_cons_succ]
  refine seq_q (d := some 42) rfl rfl rfl (.pointer (some ⟨p, o + 3, none⟩)) (fun w hw => by go_simp) ?_
  simp only [Act.put, List.setIfInBounds_toArray, List.set_cons_zero, List.set_cons_succ]
  refine seq_q (d := some 43) rfl rfl rfl (.pointer (some ⟨p, o + 5, none⟩)) (fun w hw => by go_simp) ?_
  simp only [Act.put, List.setIfInBounds_toArray, List.set_cons_zero, List.set_cons_succ]
  refine seq_q (d := some 44) rfl rfl rfl (.pointer (some ⟨p, o, none⟩)) (fun w hw => rfl) ?_
  simp only [Act.put, List.setIfInBounds_toArray, List.set_cons_zero, List.set_cons_succ]
  refine seq_q (d := some 45) rfl rfl rfl (.pointer (some ⟨p, o, none⟩)) (fun w hw => rfl) ?_
  simp only [Act.put, List.setIfInBounds_toArray, List.set_cons_zero, List.set_cons_succ]
  refine seq_q (d := some 46) rfl rfl rfl (.pointer (some ⟨p, o + 3, none⟩)) (fun w hw => by go_simp) ?_
  simp only [Act.put, List.setIfInBounds_toArray, List.set_cons_zero, List.set_cons_succ]
  refine seq_q (d := some 47) rfl rfl rfl (.pointer (some ⟨p, o + 6, none⟩)) (fun w hw => by go_simp) ?_
  simp only [Act.put, List.setIfInBounds_toArray, List.set_cons_zero, List.set_cons_succ]
  refine seq_q (d := some 48) rfl rfl rfl (.pointer (some ⟨p, o, none⟩)) (fun w hw => rfl) ?_
  simp only [Act.put, List.setIfInBounds_toArray, List.set_cons_zero, List.set_cons_succ]
  refine seq_q (d := some 49) rfl rfl rfl (.pointer (some ⟨p, o, none⟩)) (fun w hw => rfl) ?_
  simp only [Act.put, List.setIfInBounds_toArray, List.set_cons_zero, List.set_cons_succ]
  refine seq_q (d := some 50) rfl rfl rfl (.pointer (some ⟨p, o + 7, none⟩)) (fun w hw => by go_simp) ?_
  simp only [Act.put, List.setIfInBounds_toArray, List.set_cons_zero, List.set_cons_succ]
  refine seq_run (d := some 51) rfl rfl rfl (.slice (some ⟨w5.heap.size, 0, none⟩) 3 3) (w5.drew.alloc (.cells #[.pointer (some ⟨p, o + 5, none⟩), .pointer (some ⟨p, o + 6, none⟩), .pointer (some ⟨p, o + 7, none⟩)] 114)) (by simp [execOp, Act.eval, Instr.buildSlice, go_sem]) trivial ?_
  simp only [Act.put, List.setIfInBounds_toArray, List.set_cons_zero, List.set_cons_succ]
  have HP5 : Hid (Ptrs (w5.drew.alloc (.cells #[.pointer (some ⟨p, o + 5, none⟩), .pointer (some ⟨p, o + 6, none⟩), .pointer (some ⟨p, o + 7, none⟩)] 114)) w5.heap.size p (o + 5) 3) := ptrs_of (cs := [.pointer (some ⟨p, o + 5, none⟩), .pointer (some ⟨p, o + 6, none⟩), .pointer (some ⟨p, o + 7, none⟩)]) rfl rfl (by intro i hi; match i, hi with | 0, _ => rfl | 1, _ => rfl | 2, _ => rfl)
  have HV5 : Hid (WS K p (k.word (k.int (k.nums (k.nums (k.nums s x.bg).1 x.inc).1 x.field).1 x.hi).1 x.lo).1 (putL cs o [y0, y1, y2, .int .i64 (k.int (k.nums (k.nums (k.nums s x.bg).1 x.inc).1 x.field).1 x.hi).2, .int .u64 (k.word (k.int (k.nums (k.nums (k.nums s x.bg).1 x.inc).1 x.field).1 x.hi).1 x.lo).2]) w (w5.drew.alloc (.cells #[.pointer (some ⟨p, o + 5, none⟩), .pointer (some ⟨p, o + 6, none⟩), .pointer (some ⟨p, o + 7, none⟩)] 114))) := (HW5.out.drew HK.out).new HK.out ((Below.refl _ _).alloc (Nat.le_refl _) _)
  have HN5 : Hid (w5.heap.size ≠ K.b ∧ w5.heap.size ≠ p) := by have := HB.out; have := HPl.out; have := HW5.out.fr.size; unfold Hid; omega
  refine seq_call (d := some 52) rfl rfl rfl ⟨_, Tryz.func61, by kernel_rfl, by kernel_rfl⟩ _ _ _ rfl rfl [K.recv, .slice (some ⟨w5.heap.size, 0, none⟩) 3 3] rfl (HV5.out.ints HK.out h2 h3 (es := [.int .i64 x.anchor, .int .i64 x.radius, .int .i64 x.rounds]) (a := [v0, v1, v2, .int .i64 x.hi, .int .u64 x.lo]) (c := []) HAt.out (xs := [x.anchor, x.radius, x.rounds]) rfl rfl (by simp) (by simp; exact ⟨r5, r6, r7⟩) (by simp) _ rfl HP5.out HN5.out.1 HN5.out.2 3 rfl HSz.out) ?_
  rintro e w6 ⟨rfl, h1, hr, hf⟩
  refine ⟨_, rfl, trivial, ?_⟩
  simp only [Act.put, List.setIfInBounds_toArray, List.set_cons_zero, List.set_cons_succ]
  refine seq_end ?_
  have i5_0 : Hid (I64 (k.int (k.word (k.int (k.nums (k.nums (k.nums s x.bg).1 x.inc).1 x.field).1 x.hi).1 x.lo).1 x.anchor).2) := hr _ (List.Mem.head _)
  have i5_1 : Hid (I64 (k.int (k.int (k.word (k.int (k.nums (k.nums (k.nums s x.bg).1 x.inc).1 x.field).1 x.hi).1 x.lo).1 x.anchor).1 x.radius).2) := hr _ (List.Mem.tail _ (List.Mem.head _))
  have i5_2 : Hid (I64 (k.int (k.int (k.int (k.word (k.int (k.nums (k.nums (k.nums s x.bg).1 x.inc).1 x.field).1 x.hi).1 x.lo).1 x.anchor).1 x.radius).1 x.rounds).2) := hr _ (List.Mem.tail _ (List.Mem.tail _ (List.Mem.head _)))
  have HW6 : Hid (WS K p (k.int (k.int (k.int (k.word (k.int (k.nums (k.nums (k.nums s x.bg).1 x.inc).1 x.field).1 x.hi).1 x.lo).1 x.anchor).1 x.radius).1 x.rounds).1 (putL cs o [y0, y1, y2, .int .i64 (k.int (k.nums (k.nums (k.nums s x.bg).1 x.inc).1 x.field).1 x.hi).2, .int .u64 (k.word (k.int (k.nums (k.nums (k.nums s x.bg).1 x.inc).1 x.field).1 x.hi).1 x.lo).2, .int .i64 (k.int (k.word (k.int (k.nums (k.nums (k.nums s x.bg).1 x.inc).1 x.field).1 x.hi).1 x.lo).1 x.anchor).2, .int .i64 (k.int (k.int (k.word (k.int (k.nums (k.nums (k.nums s x.bg).1 x.inc).1 x.field).1 x.hi).1 x.lo).1 x.anchor).1 x.radius).2, .int .i64 (k.int (k.int (k.int (k.word (k.int (k.nums (k.nums (k.nums s x.bg).1 x.inc).1 x.field).1 x.hi).1 x.lo).1 x.anchor).1 x.radius).1 x.rounds).2]) w w6) := h1
  have R0n := Lib.hid (R0.out.next intE_ok ((Fr.drew _).trans ((Fr.alloc _ _ (by have := HB.out; have := (HK.out.lt HW5.out.st).1; have := HW5.out.fr.size; simp; omega)).trans hf)) HAv.out HB.out HPl.out)
  clear R0
  have R0 := R0n
  clear R0n
  have R1n := Lib.hid (R1.out.next intE_ok ((Fr.drew _).trans ((Fr.alloc _ _ (by have := HB.out; have := (HK.out.lt HW5.out.st).1; have := HW5.out.fr.size; simp; omega)).trans hf)) HAv.out HB.out HPl.out)
  clear R1
  have R1 := R1n
  clear R1n
  have R2n := Lib.hid (R2.out.next intE_ok ((Fr.drew _).trans ((Fr.alloc _ _ (by have := HB.out; have := (HK.out.lt HW5.out.st).1; have := HW5.out.fr.size; simp; omega)).trans hf)) HAv.out HB.out HPl.out)
  clear R2
  have R2 := R2n
  clear R2n
  clear h1 hf HW5 hr HP5 HV5 HN5
  try go_wp2_with fail
  go_end0
  exact ⟨rfl, WS.post (E := anaE) (q := k.ana s x) HW6.out (⟨y0, y1, y2, rfl, R0.out, R1.out, R2.out, I3.out, I4.out, i5_0.out, i5_1.out, i5_2.out⟩)⟩
end
end Go.Proofs.YtpknalpdcfjffaaGreat
/- store.place, store.reading, over any walker. Printed by gen_fields.py. -/
namespace Go.Proofs.YtpknalpdcfjffaaGreat
open Go Go.RowKit

section
variable {σ : Type} {k : Wk σ}
set_option maxHeartbeats 16000000 in
set_option maxRecDepth 100000 in
theorem place_walks (K : WkM k) (hK : K.OK) : Walks K 62 K.recv [] plaE k.place := by
  intro s x w p o cs es av h1 h2 h3 h4 h5 h6 h7 h8
  have HK := Lib.hid hK
  have HB : Hid (K.b < w.heap.size) := (hK.lt h1).2
  have HPl : Hid (p < w.heap.size) := h4.lt
  have HAv := Lib.hid h7
  obtain ⟨rfl, r1, r2, r3, r4⟩ := h6
  have HAt := Lib.hid h5
  have HW0 : Hid (WS K p s (putL cs o []) w w) := (WS.start h1 h4).whole
  have HSz := Lib.hid h8
  clear h1 h4 h5 h7 h8 hK
  go_enter Tryz.func62, Tryz.ntmps62
  try go_wp2_with fail
  refine wp_region_seq (by kernel_rfl) (fun _ => True) [(0, true), (1, true), (2, true), (3, true), (4, true), (5, true), (6, true), (7, true), (8, true), (9, true), (10, true), (11, true), (12, true), (13, false), (14, false)] (by kernel_rfl) (trivial) ?_
  refine seq_q (d := some 4) rfl rfl rfl (K.recv) (fun w hw => rfl) ?_
  simp only [Act.put, List.setIfInBounds_toArray, List.set_cons_zero, List.set_cons_succ]
  refine seq_q (d := some 5) rfl rfl rfl (.pointer (some ⟨p, o, none⟩)) (fun w hw => rfl) ?_
  simp only [Act.put, List.setIfInBounds_toArray, List.set_cons_zero, List.set_cons_succ]
  refine seq_q (d := some 6) rfl rfl rfl (.pointer (some ⟨p, o, none⟩)) (fun w hw => rfl) ?_
  simp only [Act.put, List.setIfInBounds_toArray, List.set_cons_zero, List.set_cons_succ]
  refine seq_q (d := some 7) rfl rfl rfl (.pointer (some ⟨p, o, none⟩)) (fun w hw => by go_simp) ?_
  simp only [Act.put, List.setIfInBounds_toArray, List.set_cons_zero, List.set_cons_succ]
  refine seq_q (d := some 8) rfl rfl rfl (.pointer (some ⟨p, o, none⟩)) (fun w hw => rfl) ?_
  simp only [Act.put, List.setIfInBounds_toArray, List.set_cons_zero, List.set_cons_succ]
  refine seq_q (d := some 9) rfl rfl rfl (.pointer (some ⟨p, o, none⟩)) (fun w hw => rfl) ?_
  simp only [Act.put, List.setIfInBounds_toArray, List.set_cons_zero, List.set_cons_succ]
  refine seq_q (d := some 10) rfl rfl rfl (.pointer (some ⟨p, o + 1, none⟩)) (fun w hw => by go_simp) ?_
  simp only [Act.put, List.setIfInBounds_toArray, List.set_cons_zero, List.set_cons_succ]
  refine seq_q (d := some 11) rfl rfl rfl (.pointer (some ⟨p, o, none⟩)) (fun w hw => rfl) ?_
  simp only [Act.put, List.setIfInBounds_toArray, List.set_cons_zero, List.set_cons_succ]
  refine seq_q (d := some 12) rfl rfl rfl (.pointer (some ⟨p, o, none⟩)) (fun w hw => rfl) ?_
  simp only [Act.put, List.setIfInBounds_toArray, List.set_cons_zero, List.set_cons_succ]
  refine seq_q (d := some 13) rfl rfl rfl (.pointer (some ⟨p, o + 2, none⟩)) (fun w hw => by go_simp) ?_
  simp only [Act.put, List.setIfInBounds_toArray, List.set_cons_zero, List.set_cons_succ]
  refine seq_q (d := some 14) rfl rfl rfl (.pointer (some ⟨p, o, none⟩)) (fun w hw => rfl) ?_
  simp only [Act.put, List.setIfInBounds_toArray, List.set_cons_zero, List.set_cons_succ]
  refine seq_q (d := some 15) rfl rfl rfl (.pointer (some ⟨p, o, none⟩)) (fun w hw => rfl) ?_
  simp only [Act.put, List.setIfInBounds_toArray, List.set_cons_zero, List.set_cons_succ]
  refine seq_q (d := some 16) rfl rfl rfl (.pointer (some ⟨p, o + 3, none⟩)) (fun w hw => by go_simp) ?_
  simp only [Act.put, List.setIfInBounds_toArray, List.set_cons_zero, List.set_cons_succ]
  refine seq_run (d := some 17) rfl rfl rfl (.slice (some ⟨w.heap.size, 0, none⟩) 4 4) (w.drew.alloc (.cells #[.pointer (some ⟨p, o, none⟩), .pointer (some ⟨p, o + 1, none⟩), .pointer (some ⟨p, o + 2, none⟩), .pointer (some ⟨p, o + 3, none⟩)] 114)) (by simp [execOp, Act.eval, Instr.buildSlice, go_sem]) trivial ?_
  simp only [Act.put, List.setIfInBounds_toArray, List.set_cons_zero, List.set_cons_succ]
  have HP0 : Hid (Ptrs (w.drew.alloc (.cells #[.pointer (some ⟨p, o, none⟩), .pointer (some ⟨p, o + 1, none⟩), .pointer (some ⟨p, o + 2, none⟩), .pointer (some ⟨p, o + 3, none⟩)] 114)) w.heap.size p (o) 4) := ptrs_of (cs := [.pointer (some ⟨p, o, none⟩), .pointer (some ⟨p, o + 1, none⟩), .pointer (some ⟨p, o + 2, none⟩), .pointer (some ⟨p, o + 3, none⟩)]) rfl rfl (by intro i hi; match i, hi with | 0, _ => rfl | 1, _ => rfl | 2, _ => rfl | 3, _ => rfl)
  have HV0 : Hid (WS K p s (putL cs o []) w (w.drew.alloc (.cells #[.pointer (some ⟨p, o, none⟩), .pointer (some ⟨p, o + 1, none⟩), .pointer (some ⟨p, o + 2, none⟩), .pointer (some ⟨p, o + 3, none⟩)] 114))) := (HW0.out.drew HK.out).new HK.out ((Below.refl _ _).alloc (Nat.le_refl _) _)
  have HN0 : Hid (w.heap.size ≠ K.b ∧ w.heap.size ≠ p) := by have := HB.out; have := HPl.out; have := HW0.out.fr.size; unfold Hid; omega
  refine seq_call (d := some 18) rfl rfl rfl ⟨_, Tryz.func61, by kernel_rfl, by kernel_rfl⟩ _ _ _ rfl rfl [K.recv, .slice (some ⟨w.heap.size, 0, none⟩) 4 4] rfl (HV0.out.ints HK.out h2 h3 (es := [.int .i64 x.f, .int .i64 x.a, .int .i64 x.b, .int .i64 x.c]) (a := []) (c := []) HAt.out (xs := [x.f, x.a, x.b, x.c]) rfl rfl (by simp) (by simp; exact ⟨r1, r2, r3, r4⟩) (by simp) _ rfl HP0.out HN0.out.1 HN0.out.2 4 rfl HSz.out) ?_
  rintro e w1 ⟨rfl, h1, hr, hf⟩
  refine ⟨_, rfl, trivial, ?_⟩
  simp only [Act.put, List.setIfInBounds_toArray, List.set_cons_zero, List.set_cons_succ]
  refine seq_end ?_
  have i0_0 : Hid (I64 (k.int s x.f).2) := hr _ (List.Mem.head _)
  have i0_1 : Hid (I64 (k.int (k.int s x.f).1 x.a).2) := hr _ (List.Mem.tail _ (List.Mem.head _))
  have i0_2 : Hid (I64 (k.int (k.int (k.int s x.f).1 x.a).1 x.b).2) := hr _ (List.Mem.tail _ (List.Mem.tail _ (List.Mem.head _)))
  have i0_3 : Hid (I64 (k.int (k.int (k.int (k.int s x.f).1 x.a).1 x.b).1 x.c).2) := hr _ (List.Mem.tail _ (List.Mem.tail _ (List.Mem.tail _ (List.Mem.head _))))
  have HW1 : Hid (WS K p (k.int (k.int (k.int (k.int s x.f).1 x.a).1 x.b).1 x.c).1 (putL cs o [.int .i64 (k.int s x.f).2, .int .i64 (k.int (k.int s x.f).1 x.a).2, .int .i64 (k.int (k.int (k.int s x.f).1 x.a).1 x.b).2, .int .i64 (k.int (k.int (k.int (k.int s x.f).1 x.a).1 x.b).1 x.c).2]) w w1) := h1
  clear h1 hf HW0 hr HP0 HV0 HN0
  try go_wp2_with fail
  go_end0
  exact ⟨rfl, WS.post (E := plaE) (q := k.place s x) HW1.out (⟨rfl, i0_0.out, i0_1.out, i0_2.out, i0_3.out⟩)⟩
set_option maxHeartbeats 16000000 in
set_option maxRecDepth 100000 in
theorem reading_walks (K : WkM k) (hK : K.OK) : Walks K 64 K.recv [] rdE k.reading := by
  intro s x w p o cs es av h1 h2 h3 h4 h5 h6 h7 h8
  have HK := Lib.hid hK
  have HB : Hid (K.b < w.heap.size) := (hK.lt h1).2
  have HPl : Hid (p < w.heap.size) := h4.lt
  have HAv := Lib.hid h7
  obtain ⟨rfl, r1, r2⟩ := h6
  have HAt := Lib.hid h5
  have HW0 : Hid (WS K p s (putL cs o []) w w) := (WS.start h1 h4).whole
  have HSz := Lib.hid h8
  clear h1 h4 h5 h7 h8 hK
  go_enter Tryz.func64, Tryz.ntmps64
  try go_wp2_with fail
  refine wp_region_seq (by kernel_rfl) (fun _ => True) [(0, true), (1, true), (2, true), (3, true), (4, true), (5, true), (6, true), (7, false), (8, false)] (by kernel_rfl) (trivial) ?_
  refine seq_q (d := some 4) rfl rfl rfl (K.recv) (fun w hw => rfl) ?_
  simp only [Act.put, List.setIfInBounds_toArray, List.set_cons_zero, List.set_cons_succ]
  refine seq_q (d := some 5) rfl rfl rfl (.pointer (some ⟨p, o, none⟩)) (fun w hw => rfl) ?_
  simp only [Act.put, List.setIfInBounds_toArray, List.set_cons_zero, List.set_cons_succ]
  refine seq_q (d := some 6) rfl rfl rfl (.pointer (some ⟨p, o, none⟩)) (fun w hw => rfl) ?_
  simp only [Act.put, List.setIfInBounds_toArray, List.set_cons_zero, List.set_cons_succ]
  refine seq_q (d := some 7) rfl rfl rfl (.pointer (some ⟨p, o, none⟩)) (fun w hw => by go_simp) ?_
  simp only [Act.put, List.setIfInBounds_toArray, List.set_cons_zero, List.set_cons_succ]
  refine seq_q (d := some 8) rfl rfl rfl (.pointer (some ⟨p, o, none⟩)) (fun w hw => rfl) ?_
  simp only [Act.put, List.setIfInBounds_toArray, List.set_cons_zero, List.set_cons_succ]
  refine seq_q (d := some 9) rfl rfl rfl (.pointer (some ⟨p, o, none⟩)) (fun w hw => rfl) ?_
  simp only [Act.put, List.setIfInBounds_toArray, List.set_cons_zero, List.set_cons_succ]
  refine seq_q (d := some 10) rfl rfl rfl (.pointer (some ⟨p, o + 1, none⟩)) (fun w hw => by go_simp) ?_
  simp only [Act.put, List.setIfInBounds_toArray, List.set_cons_zero, List.set_cons_succ]
  refine seq_run (d := some 11) rfl rfl rfl (.slice (some ⟨w.heap.size, 0, none⟩) 2 2) (w.drew.alloc (.cells #[.pointer (some ⟨p, o, none⟩), .pointer (some ⟨p, o + 1, none⟩)] 114)) (by simp [execOp, Act.eval, Instr.buildSlice, go_sem]) trivial ?_
  simp only [Act.put, List.setIfInBounds_toArray, List.set_cons_zero, List.set_cons_succ]
  have HP0 : Hid (Ptrs (w.drew.alloc (.cells #[.pointer (some ⟨p, o, none⟩), .pointer (some ⟨p, o + 1, none⟩)] 114)) w.heap.size p (o) 2) := ptrs_of (cs := [.pointer (some ⟨p, o, none⟩), .pointer (some ⟨p, o + 1, none⟩)]) rfl rfl (by intro i hi; match i, hi with | 0, _ => rfl | 1, _ => rfl)
  have HV0 : Hid (WS K p s (putL cs o []) w (w.drew.alloc (.cells #[.pointer (some ⟨p, o, none⟩), .pointer (some ⟨p, o + 1, none⟩)] 114))) := (HW0.out.drew HK.out).new HK.out ((Below.refl _ _).alloc (Nat.le_refl _) _)
  have HN0 : Hid (w.heap.size ≠ K.b ∧ w.heap.size ≠ p) := by have := HB.out; have := HPl.out; have := HW0.out.fr.size; unfold Hid; omega
  refine seq_call (d := some 12) rfl rfl rfl ⟨_, Tryz.func61, by kernel_rfl, by kernel_rfl⟩ _ _ _ rfl rfl [K.recv, .slice (some ⟨w.heap.size, 0, none⟩) 2 2] rfl (HV0.out.ints HK.out h2 h3 (es := [.int .i64 x.1, .int .i64 x.2]) (a := []) (c := []) HAt.out (xs := [x.1, x.2]) rfl rfl (by simp) (by simp; exact ⟨r1, r2⟩) (by simp) _ rfl HP0.out HN0.out.1 HN0.out.2 2 rfl HSz.out) ?_
  rintro e w1 ⟨rfl, h1, hr, hf⟩
  refine ⟨_, rfl, trivial, ?_⟩
  simp only [Act.put, List.setIfInBounds_toArray, List.set_cons_zero, List.set_cons_succ]
  refine seq_end ?_
  have i0_0 : Hid (I64 (k.int s x.1).2) := hr _ (List.Mem.head _)
  have i0_1 : Hid (I64 (k.int (k.int s x.1).1 x.2).2) := hr _ (List.Mem.tail _ (List.Mem.head _))
  have HW1 : Hid (WS K p (k.int (k.int s x.1).1 x.2).1 (putL cs o [.int .i64 (k.int s x.1).2, .int .i64 (k.int (k.int s x.1).1 x.2).2]) w w1) := h1
  clear h1 hf HW0 hr HP0 HV0 HN0
  try go_wp2_with fail
  go_end0
  exact ⟨rfl, WS.post (E := rdE) (q := k.reading s x) HW1.out (⟨rfl, i0_0.out, i0_1.out⟩)⟩
end
end Go.Proofs.YtpknalpdcfjffaaGreat
/- synoptic/store.slice[synoptic/api.Reading], over any walker. Printed by gen_slices.py. -/
namespace Go.Proofs.YtpknalpdcfjffaaGreat
open Go Go.RowKit

section
variable {σ : Type} {k : Wk σ}
set_option maxHeartbeats 16000000 in
set_option maxRecDepth 100000 in
theorem slice_rd (K : WkM k) (hK : K.OK) : Walks K 63 K.recv [.func (.func 64) #[] #[]] (sliE rdE) (k.slice k.reading (0, 0)) := by
  intro s l w p o cs es av h1 h2 h3 h4 h5 h6 h7 h8
  have HK := Lib.hid hK
  have HEo := Lib.hid rdE_ok
  have HTo := Lib.hid rdT
  have HMo := Lib.hid HK.out.mono.reading
  have HWE := Lib.hid (reading_walks K hK)
  obtain ⟨fc, mc, wc⟩ := hK.count
  have HMc := Lib.hid mc
  obtain ⟨v, rfl, hr⟩ := h6
  obtain ⟨a, c, rfl⟩ := hr.slice
  have HLl := Lib.hid hr.le
  have HRd := Lib.hid hr
  have HB : Hid (K.b < w.heap.size) := (hK.lt h1).2
  have HP : Hid (p < w.heap.size) := h4.lt
  have HAv := Lib.hid h7
  have HPA := Lib.hid h4
  have hlo := h5.le (by simp)
  have HO : Hid (o < cs.length) := by unfold Hid; simp at hlo; omega
  have HCs : Hid (cs[o]? = some (.slice a l.length c)) := h5 0 (by simp)
  have HCs2 := Lib.hid HCs.out
  have HC : Hid (w.drew.cell? ⟨p, o, none⟩ = some (.slice a l.length c)) := h4.drew.1.at o HCs.out
  have HS0 := Lib.hid h1
  have HSz := Lib.hid h8
  clear hr h1 h4 h5 h7 h8 hlo mc
  unfold Wk.slice at HSz
  go_enter Tryz.func63, Tryz.ntmps63
  try go_wp2_with fail
  refine wp_region_seq (by kernel_rfl) (fun w' => w'.cell? ⟨p, o, none⟩ = some (.slice a l.length c)) [(0, true), (1, true), (2, true), (3, true), (4, true), (5, true), (6, true), (7, true), (8, false), (9, true)] (by kernel_rfl) (HC.out) ?_
  refine seq_q (d := some 10) rfl rfl rfl (K.recv) (fun w hw => rfl) ?_
  simp only [Act.put, List.setIfInBounds_toArray, List.set_cons_zero, List.set_cons_succ]
  refine seq_q (d := some 11) rfl rfl rfl (.pointer (some ⟨p, o, none⟩)) (fun w hw => rfl) ?_
  simp only [Act.put, List.setIfInBounds_toArray, List.set_cons_zero, List.set_cons_succ]
  refine seq_q (d := some 12) rfl rfl rfl (.pointer (some ⟨p, o, none⟩)) (fun w hw => rfl) ?_
  simp only [Act.put, List.setIfInBounds_toArray, List.set_cons_zero, List.set_cons_succ]
  refine seq_q (d := some 13) rfl rfl rfl (.slice a l.length c) (fun w hw => by simp [execOp, Act.eval, hw, go_sem]) ?_
  simp only [Act.put, List.setIfInBounds_toArray, List.set_cons_zero, List.set_cons_succ]
  refine seq_q (d := some 14) rfl rfl rfl (.int .i64 l.length) (fun w hw => by simp [execOp, Act.eval, go_sem]) ?_
  simp only [Act.put, List.setIfInBounds_toArray, List.set_cons_zero, List.set_cons_succ]
  refine seq_q (d := some 15) rfl rfl rfl (.func (.method "synoptic/store.count") #[K.recv] #[]) (fun w hw => run_makeFunc (.tmp 10) rfl (K.recv) rfl w) ?_
  simp only [Act.put, List.setIfInBounds_toArray, List.set_cons_zero, List.set_cons_succ]
  refine seq_q (d := some 16) rfl rfl rfl (.func (.method "synoptic/store.count") #[K.recv] #[]) (fun w hw => run_nilMethod HMc.out.ahead (.tmp 15) rfl rfl w) ?_
  simp only [Act.put, List.setIfInBounds_toArray, List.set_cons_zero, List.set_cons_succ]
  refine seq_q (d := some 17) rfl rfl rfl (K.recv) (fun w hw => rfl) ?_
  simp only [Act.put, List.setIfInBounds_toArray, List.set_cons_zero, List.set_cons_succ]
  refine seq_invoke (d := some 18) rfl rfl rfl HMc.out.b _ _ _ rfl rfl [.int .i64 l.length] rfl (wc s l.length w.drew (HK.out.stable HS0.out (Quiet.drew _)) HLl.out (Nat.le_trans (Wk.Mono.run HMo.out _ _ _ _) HSz.out)) ?_
  rintro e w1 ⟨rfl, hn, hst, hf⟩
  have HW : Hid (WS K p (k.count s l.length).1 cs w w1) := ⟨hst, (Fr.drew w).trans hf.any, HPA.out.drew.keeps hf.keeps ⟨h3, h3⟩⟩
  have HC1 : Hid (w1.cell? ⟨p, o, none⟩ = some (.slice a l.length c)) := HW.out.pa.1.at o HCs.out
  refine ⟨_, rfl, HC1.out, ?_⟩
  simp only [Act.put, List.setIfInBounds_toArray, List.set_cons_zero, List.set_cons_succ]
  refine seq_q (d := some 6) rfl rfl rfl (.int .i64 (k.count s l.length).2) (fun w hw => rfl) ?_
  simp only [Act.put, List.setIfInBounds_toArray, List.set_cons_zero, List.set_cons_succ]
  refine seq_end ?_
  obtain ⟨s1, hs1⟩ : ∃ s1, s1 = (k.count s l.length).1 := ⟨_, rfl⟩
  obtain ⟨n, hn1⟩ : ∃ n, n = (k.count s l.length).2 := ⟨_, rfl⟩
  have HFin : Hid (k.slice k.reading (0, 0) s l = runE k.reading (0, 0) s1 l n) := by unfold Hid Wk.slice; rw [hs1, hn1]
  rw [← hs1] at HW
  rw [← hn1] at hn ⊢
  have HSz1 : Hid (k.sz (runE k.reading (0, 0) s1 l n).1 ≤ 10000000) := by rw [← HFin.out]; exact HSz.out
  have HN6 : Hid (n ≤ 1000000) := hn
  have n0 : (n : Int) ≤ 1000000 := by omega
  have HLs : Hid (SlS K rdE _ k.reading (0, 0) s1 l p cs av w 0 (.slice none 0 0) w1) := SlS.start (T := 77) HW.out
  clear HW HC1 HC hst hf hn hs1 hn1 HSz HCs
  go_wp2_with fail
  go_loopw [20, 7] (fun kv lv wr => ∃ (i : Nat) (ov : Value), ov = lv ∧ kv = .int .i64 i ∧ i ≤ n ∧ Hid (SlS K rdE 77 k.reading (0, 0) s1 l p cs av w i ov wr)) (fun kv _ _ => (2000000 - intOf kv).toNat)
  case atStart => exact ⟨0, _, rfl, rfl, by omega, HLs⟩
  case round =>
    clear HLs
    obtain ⟨i, ov, rfl, rfl, hi, hs⟩ := hrel
    by_cases hin : i < n
    · have i0 : (i : Int) < (n : Int) := by omega
      have HSi : Hid (k.sz (k.reading (runE k.reading (0, 0) s1 l i).1 (l.getD i (0, 0))).1 ≤ 10000000) := Nat.le_trans (Wk.Mono.run_le HMo.out (0, 0) s1 l (i + 1) n (by omega)) HSz1.out
      go_upto_region 6 with fail
      have hbx : Below wr.heap.size wr (wr.alloc (.cells #[.int .i64 0, .int .i64 0] 77)) := (Below.refl _ _).alloc (Nat.le_refl _) _
      have hsx : wr.heap.size < (wr.alloc (.cells #[.int .i64 0, .int .i64 0] 77)).heap.size := by simp
      have HX : Hid (PAt (wr.alloc (.cells #[.int .i64 0, .int .i64 0] 77)) wr.heap.size [.int .i64 0, .int .i64 0]) := PAt.new wr [.int .i64 0, .int .i64 0] (by simp) _ HTo.out.ne rfl
      generalize wr.alloc (.cells #[.int .i64 0, .int .i64 0] 77) = wx at hbx hsx HX ⊢
      have HWx := Lib.hid (hs.out.ws.new HK.out hbx)
      have hcx : wx.cell? ⟨p, o, none⟩ = some (.slice a l.length c) := HWx.out.pa.1.at o HCs2.out
      have HBx := Lib.hid hbx
      have HSx := Lib.hid hsx
      have HXb : Hid (K.base ≤ wr.heap.size ∧ wr.heap.size ≠ K.b ∧ w.heap.size ≤ wr.heap.size) := by
        have h1 := hs.out.ws.fr.size
        have h2 := HB.out
        have h3 := (HK.out.lt hs.out.ws.st).1
        unfold Hid; omega
      clear hbx hsx
      by_cases hil : i < l.length
      · have i1 : (i : Int) < (l.length : Int) := by omega
        obtain ⟨ab, ao, es, rfl, hrep, hrg⟩ := ((HRd.out.in HEo.out).keep HEo.out (HWx.out.fr.keeps.mono fun g _ hg => HAv.out g hg.1)).at HEo.out i hil
        have hel := HEo.out.len hrep
        have HRg := Lib.hid hrg
        have HEl := Lib.hid hel
        have HRp0 := Lib.hid hrep
        have HRo := Lib.hid (HEo.out.one hrep)
        clear hrep hrg hel
        go_wp2_with (first
          | (refine list_load HTo.out rfl _ rfl ab (ao + i * 2) rfl es HEl.out HRg.out ?_)
          | (refine list_store HTo.out rfl _ _ rfl wr.heap.size rfl es rfl HEl.out HRo.out (HX.out.1.there (by simp)) ?_))
        have hap := apartR_setCells wr.heap.size es 0 wx
        have HY : Hid (K.St (runE k.reading (0, 0) s1 l i).1 (wx.setCells wr.heap.size 0 es) ∧ K.base ≤ wr.heap.size ∧ wr.heap.size ≠ K.b ∧ PAt (wx.setCells wr.heap.size 0 es) wr.heap.size es ∧ rdE.rep (fun g => av g ∧ g < w.heap.size) (wx.setCells wr.heap.size 0 es) es (l.getD i (0, 0)) ∧ (∀ g, av g ∧ g < w.heap.size → g ≠ K.b ∧ g ≠ wr.heap.size) ∧ Below wr.heap.size wr (wx.setCells wr.heap.size 0 es) ∧ wr.heap.size < (wx.setCells wr.heap.size 0 es).heap.size) := by
          refine ⟨HK.out.stable HWx.out.st (HX.out.quietR HXb.out.1 HXb.out.2.1 hap), HXb.out.1, HXb.out.2.1, HX.out.setCells es (by rw [HEl.out]; rfl), ?_, fun g hg => ⟨(HAv.out g hg.1).1, by have := HXb.out.2.2; omega⟩, HBx.out.trans (hap.below (Nat.le_refl _)), by rw [hap.2.2.2.1]; exact HSx.out⟩
          have e : l.getD i (0, 0) = l[i] := by simp [hil]
          rw [e]
          exact HEo.out.keep HRp0.out fun g c t f _ _ hg => hap.2.2.2.2 g (by have := HXb.out.2.2; omega)
        generalize wx.setCells wr.heap.size 0 es = wy at HY hap ⊢
        clear hap HRg HEl HRp0 HRo HX HWx HBx HSx hcx
        refine (HWE.out (runE k.reading (0, 0) s1 l i).1 (l.getD i (0, 0)) wy wr.heap.size 0 es es (fun g => av g ∧ g < w.heap.size) HY.out.1 HY.out.2.1 HY.out.2.2.1 HY.out.2.2.2.1 (fun j hj => by rw [Nat.zero_add]) HY.out.2.2.2.2.1 HY.out.2.2.2.2.2.1 HSi.out).mono ?_
        rintro e w2 ⟨rfl, hst, hf, es', hpa, hrep⟩
        have hes' : es'.length = 2 := HEo.out.len hrep
        have hes : es.length = 2 := HEo.out.len HY.out.2.2.2.2.1
        rw [putL_whole (by rw [hes', hes])] at hpa
        have HAp := Lib.hid (hs.out.next HK.out HEo.out HTo.out HB.out HP.out h3 h2 HAv.out HY.out.2.2.2.2.2.2.1 HY.out.2.2.2.2.2.2.2 hst hf hrep (by have := HN6.out; omega) 30)
        have HPx := Lib.hid hpa
        have HRp := Lib.hid (HEo.out.one hrep)
        have HLn := Lib.hid hes'
        clear hst hf hpa hrep hes hes' HY HSi hs
        go_wp2_with (first
          | (refine list_load HTo.out rfl _ rfl wr.heap.size 0 rfl es' HLn.out HPx.out.1.range ?_)
          | (refine list_lit HTo.out rfl _ rfl es' rfl HLn.out HRp.out ?_)
          | (at_builtin; obtain ⟨v', w', hrun, hs'⟩ := HAp.out; have Hrun := Lib.hid hrun; have Hs' := Lib.hid hs'; clear hrun hs'; refine wpList_append_run rfl _ _ _ rfl _ _ _ _ rfl rfl Hrun.out ?_))
        go_roundw
        case rel => exact ⟨i + 1, v', rfl, by go_num, by omega, Hs'⟩
        case measure => simp [intOf]; omega
      · have HY : Hid (K.St (runE k.reading (0, 0) s1 l i).1 wx ∧ K.base ≤ wr.heap.size ∧ wr.heap.size ≠ K.b ∧ PAt wx wr.heap.size [.int .i64 0, .int .i64 0] ∧ rdE.rep (fun g => av g ∧ g < w.heap.size) wx [.int .i64 0, .int .i64 0] (l.getD i (0, 0)) ∧ (∀ g, av g ∧ g < w.heap.size → g ≠ K.b ∧ g ≠ wr.heap.size) ∧ Below wr.heap.size wr wx ∧ wr.heap.size < wx.heap.size) := by
          refine ⟨HWx.out.st, HXb.out.1, HXb.out.2.1, HX.out, ?_, fun g hg => ⟨(HAv.out g hg.1).1, by have := HXb.out.2.2; omega⟩, HBx.out, HSx.out⟩
          have e : l.getD i (0, 0) = (0, 0) := by simp [List.getElem?_eq_none (Nat.le_of_not_lt hil)]
          rw [e]
          exact ⟨rfl, I64.zero, I64.zero⟩
        go_wp2_with fail
        obtain ⟨es, hes0⟩ : ∃ es : List Value, es = [.int .i64 0, .int .i64 0] := ⟨_, rfl⟩
        rw [← hes0] at HY
        clear hes0 HX HWx HBx HSx hcx
        obtain ⟨wy, rfl⟩ : ∃ wy : World, wy = wx := ⟨_, rfl⟩
        refine (HWE.out (runE k.reading (0, 0) s1 l i).1 (l.getD i (0, 0)) wy wr.heap.size 0 es es (fun g => av g ∧ g < w.heap.size) HY.out.1 HY.out.2.1 HY.out.2.2.1 HY.out.2.2.2.1 (fun j hj => by rw [Nat.zero_add]) HY.out.2.2.2.2.1 HY.out.2.2.2.2.2.1 HSi.out).mono ?_
        rintro e w2 ⟨rfl, hst, hf, es', hpa, hrep⟩
        have hes' : es'.length = 2 := HEo.out.len hrep
        have hes : es.length = 2 := HEo.out.len HY.out.2.2.2.2.1
        rw [putL_whole (by rw [hes', hes])] at hpa
        have HAp := Lib.hid (hs.out.next HK.out HEo.out HTo.out HB.out HP.out h3 h2 HAv.out HY.out.2.2.2.2.2.2.1 HY.out.2.2.2.2.2.2.2 hst hf hrep (by have := HN6.out; omega) 30)
        have HPx := Lib.hid hpa
        have HRp := Lib.hid (HEo.out.one hrep)
        have HLn := Lib.hid hes'
        clear hst hf hpa hrep hes hes' HY HSi hs
        go_wp2_with (first
          | (refine list_load HTo.out rfl _ rfl wr.heap.size 0 rfl es' HLn.out HPx.out.1.range ?_)
          | (refine list_lit HTo.out rfl _ rfl es' rfl HLn.out HRp.out ?_)
          | (at_builtin; obtain ⟨v', w', hrun, hs'⟩ := HAp.out; have Hrun := Lib.hid hrun; have Hs' := Lib.hid hs'; clear hrun hs'; refine wpList_append_run rfl _ _ _ rfl _ _ _ _ rfl rfl Hrun.out ?_))
        go_roundw
        case rel => exact ⟨i + 1, v', rfl, by go_num, by omega, Hs'⟩
        case measure => simp [intOf]; omega
    · obtain rfl : i = n := by omega
      obtain ⟨oa, oc, rfl⟩ := hs.out.slice
      have hc5 : wr.cell? ⟨p, o, none⟩ = some (.slice a l.length c) := hs.out.ws.pa.1.at o HCs2.out
      have hf5 : wr.frozen? ⟨p, o, none⟩ = false := hs.out.ws.pa.1.2.2 o HO.out
      have HPo : Hid (WPost K (sliE rdE) (k.slice k.reading (0, 0) s l) p o cs av w (wr.setCell ⟨p, o, none⟩ (.slice oa i oc))) := by rw [HFin.out]; exact hs.out.post HK.out HEo.out HTo.out HN6.out HP.out h3 h2 HAv.out o HO.out
      clear hs
      go_wp2_with fail
      go_end0
      exact ⟨rfl, HPo.out⟩
end
end Go.Proofs.YtpknalpdcfjffaaGreat
/- store.report, over any walker. Printed by gen_fields.py. -/
namespace Go.Proofs.YtpknalpdcfjffaaGreat
open Go Go.RowKit

section
variable {σ : Type} {k : Wk σ}
set_option maxHeartbeats 16000000 in
set_option maxRecDepth 100000 in
theorem report_walks (K : WkM k) (hK : K.OK) : Walks K 60 K.recv [] repE k.rep := by
  intro s x w p o cs es av h1 h2 h3 h4 h5 h6 h7 h8
  have HK := Lib.hid hK
  obtain ⟨f_int, m_int, w_int⟩ := hK.int
  have HM_int := Lib.hid m_int
  obtain ⟨f_text, m_text, w_text⟩ := hK.text
  have HM_text := Lib.hid m_text
  have HB : Hid (K.b < w.heap.size) := (hK.lt h1).2
  have HPl : Hid (p < w.heap.size) := h4.lt
  have HAv := Lib.hid h7
  obtain ⟨v, rfl, r1, r2, r3, r4, r5⟩ := h6
  have HAt := Lib.hid h5
  have HW0 : Hid (WS K p s (putL cs o []) w w) := (WS.start h1 h4).whole
  have HSz := Lib.hid h8
  clear h1 h4 h5 h7 h8 hK
  go_enter Tryz.func60, Tryz.ntmps60
  try go_wp2_with fail
  refine wp_region_seq (by kernel_rfl) (fun _ => True) [(0, true), (1, true), (2, true), (3, true), (4, true), (5, true), (6, true), (7, false)] (by kernel_rfl) (trivial) ?_
  refine seq_q (d := some 4) rfl rfl rfl (K.recv) (fun w hw => rfl) ?_
  simp only [Act.put, List.setIfInBounds_toArray, List.set_cons_zero, List.set_cons_succ]
  refine seq_q (d := some 5) rfl rfl rfl (.pointer (some ⟨p, o, none⟩)) (fun w hw => rfl) ?_
  simp only [Act.put, List.setIfInBounds_toArray, List.set_cons_zero, List.set_cons_succ]
  refine seq_q (d := some 6) rfl rfl rfl (.pointer (some ⟨p, o, none⟩)) (fun w hw => rfl) ?_
  simp only [Act.put, List.setIfInBounds_toArray, List.set_cons_zero, List.set_cons_succ]
  refine seq_q (d := some 7) rfl rfl rfl (.pointer (some ⟨p, o, none⟩)) (fun w hw => by go_simp) ?_
  simp only [Act.put, List.setIfInBounds_toArray, List.set_cons_zero, List.set_cons_succ]
  refine seq_q (d := some 8) rfl rfl rfl (.func (.method "synoptic/store.int") #[K.recv] #[]) (fun w hw => run_makeFunc (.tmp 4) rfl (K.recv) rfl w) ?_
  simp only [Act.put, List.setIfInBounds_toArray, List.set_cons_zero, List.set_cons_succ]
  refine seq_q (d := some 9) rfl rfl rfl (.func (.method "synoptic/store.int") #[K.recv] #[]) (fun w hw => run_nilMethod HM_int.out.ahead (.tmp 8) rfl rfl w) ?_
  simp only [Act.put, List.setIfInBounds_toArray, List.set_cons_zero, List.set_cons_succ]
  refine seq_q (d := some 10) rfl rfl rfl (K.recv) (fun w hw => rfl) ?_
  simp only [Act.put, List.setIfInBounds_toArray, List.set_cons_zero, List.set_cons_succ]
  refine seq_invoke (d := some 11) rfl rfl rfl HM_int.out.b _ _ _ rfl rfl [.pointer (some ⟨p, o, none⟩)] rfl ((HW0.out.drew HK.out).field w_int intE_ok h2 h3 (es := [.int .i64 x.kind]) (a := []) (c := [.string x.name, .int .i64 x.time, .int .i64 x.pl.f, .int .i64 x.pl.a, .int .i64 x.pl.b, .int .i64 x.pl.c, v]) HAt.out rfl ⟨rfl, r1⟩ HAv.out _ rfl (Nat.le_trans (HK.out.mono.text _ _) (Nat.le_trans (HK.out.mono.int _ _) (Nat.le_trans (HK.out.mono.place _ _) (Nat.le_trans (HK.out.mono.slice HK.out.mono.reading _ _ _) HSz.out))))) ?_
  rintro e w1 ⟨rfl, es0, h1, ⟨rfl, i0⟩, -, hf⟩
  refine ⟨_, rfl, trivial, ?_⟩
  simp only [Act.put, List.setIfInBounds_toArray, List.set_cons_zero, List.set_cons_succ]
  refine seq_end ?_
  have HW1 : Hid (WS K p (k.int s x.kind).1 (putL cs o [.int .i64 (k.int s x.kind).2]) w w1) := h1
  have I0 := Lib.hid i0
  clear i0
  clear h1 hf HW0
  try go_wp2_with fail
  refine wp_region_seq (by kernel_rfl) (fun _ => True) [(0, true), (1, true), (2, true), (3, true), (4, true), (5, true), (6, true), (7, false)] (by kernel_rfl) (trivial) ?_
  refine seq_q (d := some 12) rfl rfl rfl (K.recv) (fun w hw => rfl) ?_
  simp only [Act.put, List.setIfInBounds_toArray, List.set_cons_zero, List.set_cons_succ]
  refine seq_q (d := some 13) rfl rfl rfl (.pointer (some ⟨p, o, none⟩)) (fun w hw => rfl) ?_
  simp only [Act.put, List.setIfInBounds_toArray, List.set_cons_zero, List.set_cons_succ]
  refine seq_q (d := some 14) rfl rfl rfl (.pointer (some ⟨p, o, none⟩)) (fun w hw => rfl) ?_
  simp only [Act.put, List.setIfInBounds_toArray, List.set_cons_zero, List.set_cons_succ]
  refine seq_q (d := some 15) rfl rfl rfl (.pointer (some ⟨p, o + 1, none⟩)) (fun w hw => by go_simp) ?_
  simp only [Act.put, List.setIfInBounds_toArray, List.set_cons_zero, List.set_cons_succ]
  refine seq_q (d := some 16) rfl rfl rfl (.func (.method "synoptic/store.text") #[K.recv] #[]) (fun w hw => run_makeFunc (.tmp 12) rfl (K.recv) rfl w) ?_
  simp only [Act.put, List.setIfInBounds_toArray, List.set_cons_zero, List.set_cons_succ]
  refine seq_q (d := some 17) rfl rfl rfl (.func (.method "synoptic/store.text") #[K.recv] #[]) (fun w hw => run_nilMethod HM_text.out.ahead (.tmp 16) rfl rfl w) ?_
  simp only [Act.put, List.setIfInBounds_toArray, List.set_cons_zero, List.set_cons_succ]
  refine seq_q (d := some 18) rfl rfl rfl (K.recv) (fun w hw => rfl) ?_
  simp only [Act.put, List.setIfInBounds_toArray, List.set_cons_zero, List.set_cons_succ]
  refine seq_invoke (d := some 19) rfl rfl rfl HM_text.out.b _ _ _ rfl rfl [.pointer (some ⟨p, o + 1, none⟩)] rfl ((HW1.out.drew HK.out).field w_text strE_ok h2 h3 (es := [.string x.name]) (a := [.int .i64 x.kind]) (c := [.int .i64 x.time, .int .i64 x.pl.f, .int .i64 x.pl.a, .int .i64 x.pl.b, .int .i64 x.pl.c, v]) HAt.out rfl ⟨rfl, r2⟩ HAv.out _ rfl (Nat.le_trans (HK.out.mono.int _ _) (Nat.le_trans (HK.out.mono.place _ _) (Nat.le_trans (HK.out.mono.slice HK.out.mono.reading _ _ _) HSz.out)))) ?_
  rintro e w2 ⟨rfl, es1, h1, ⟨rfl, i1⟩, -, hf⟩
  refine ⟨_, rfl, trivial, ?_⟩
  simp only [Act.put, List.setIfInBounds_toArray, List.set_cons_zero, List.set_cons_succ]
  refine seq_end ?_
  have HW2 : Hid (WS K p (k.text (k.int s x.kind).1 x.name).1 (putL cs o [.int .i64 (k.int s x.kind).2, .string (k.text (k.int s x.kind).1 x.name).2]) w w2) := h1
  have I1 := Lib.hid i1
  clear i1
  clear h1 hf HW1
  try go_wp2_with fail
  refine wp_region_seq (by kernel_rfl) (fun _ => True) [(0, true), (1, true), (2, true), (3, true), (4, true), (5, true), (6, true), (7, false)] (by kernel_rfl) (trivial) ?_
  refine seq_q (d := some 20) rfl rfl rfl (K.recv) (fun w hw => rfl) ?_
  simp only [Act.put, List.setIfInBounds_toArray, List.set_cons_zero, List.set_cons_succ]
  refine seq_q (d := some 21) rfl rfl rfl (.pointer (some ⟨p, o, none⟩)) (fun w hw => rfl) ?_
  simp only [Act.put, List.setIfInBounds_toArray, List.set_cons_zero, List.set_cons_succ]
  refine seq_q (d := some 22) rfl rfl rfl (.pointer (some ⟨p, o, none⟩)) (fun w hw => rfl) ?_
  simp only [Act.put, List.setIfInBounds_toArray, List.set_cons_zero, List.set_cons_succ]
  refine seq_q (d := some 23) rfl rfl rfl (.pointer (some ⟨p, o + 2, none⟩)) (fun w hw => by go_simp) ?_
  simp only [Act.put, List.setIfInBounds_toArray, List.set_cons_zero, List.set_cons_succ]
  refine seq_q (d := some 24) rfl rfl rfl (.func (.method "synoptic/store.int") #[K.recv] #[]) (fun w hw => run_makeFunc (.tmp 20) rfl (K.recv) rfl w) ?_
  simp only [Act.put, List.setIfInBounds_toArray, List.set_cons_zero, List.set_cons_succ]
  refine seq_q (d := some 25) rfl rfl rfl (.func (.method "synoptic/store.int") #[K.recv] #[]) (fun w hw => run_nilMethod HM_int.out.ahead (.tmp 24) rfl rfl w) ?_
  simp only [Act.put, List.setIfInBounds_toArray, List.set_cons_zero, List.set_cons_succ]
  refine seq_q (d := some 26) rfl rfl rfl (K.recv) (fun w hw => rfl) ?_
  simp only [Act.put, List.setIfInBounds_toArray, List.set_cons_zero, List.set_cons_succ]
  refine seq_invoke (d := some 27) rfl rfl rfl HM_int.out.b _ _ _ rfl rfl [.pointer (some ⟨p, o + 2, none⟩)] rfl ((HW2.out.drew HK.out).field w_int intE_ok h2 h3 (es := [.int .i64 x.time]) (a := [.int .i64 x.kind, .string x.name]) (c := [.int .i64 x.pl.f, .int .i64 x.pl.a, .int .i64 x.pl.b, .int .i64 x.pl.c, v]) HAt.out rfl ⟨rfl, r3⟩ HAv.out _ rfl (Nat.le_trans (HK.out.mono.place _ _) (Nat.le_trans (HK.out.mono.slice HK.out.mono.reading _ _ _) HSz.out))) ?_
  rintro e w3 ⟨rfl, es2, h1, ⟨rfl, i2⟩, -, hf⟩
  refine ⟨_, rfl, trivial, ?_⟩
  simp only [Act.put, List.setIfInBounds_toArray, List.set_cons_zero, List.set_cons_succ]
  refine seq_end ?_
  have HW3 : Hid (WS K p (k.int (k.text (k.int s x.kind).1 x.name).1 x.time).1 (putL cs o [.int .i64 (k.int s x.kind).2, .string (k.text (k.int s x.kind).1 x.name).2, .int .i64 (k.int (k.text (k.int s x.kind).1 x.name).1 x.time).2]) w w3) := h1
  have I2 := Lib.hid i2
  clear i2
  clear h1 hf HW2
  go_wp2_with fail
  refine (HW3.out.field (place_walks K HK.out) plaE_ok h2 h3 (es := [.int .i64 x.pl.f, .int .i64 x.pl.a, .int .i64 x.pl.b, .int .i64 x.pl.c]) (a := [.int .i64 x.kind, .string x.name, .int .i64 x.time]) (c := [v]) HAt.out rfl ⟨rfl, r4⟩ HAv.out _ rfl (Nat.le_trans (HK.out.mono.slice HK.out.mono.reading _ _ _) HSz.out)).mono ?_
  rintro e w4 ⟨rfl, es3, h1, ⟨rfl, i3⟩, -, hf⟩
  have HW4 : Hid (WS K p (k.place (k.int (k.text (k.int s x.kind).1 x.name).1 x.time).1 x.pl).1 (putL cs o [.int .i64 (k.int s x.kind).2, .string (k.text (k.int s x.kind).1 x.name).2, .int .i64 (k.int (k.text (k.int s x.kind).1 x.name).1 x.time).2, .int .i64 (k.place (k.int (k.text (k.int s x.kind).1 x.name).1 x.time).1 x.pl).2.f, .int .i64 (k.place (k.int (k.text (k.int s x.kind).1 x.name).1 x.time).1 x.pl).2.a, .int .i64 (k.place (k.int (k.text (k.int s x.kind).1 x.name).1 x.time).1 x.pl).2.b, .int .i64 (k.place (k.int (k.text (k.int s x.kind).1 x.name).1 x.time).1 x.pl).2.c]) w w4) := h1
  have I3 := Lib.hid i3
  clear i3
  clear h1 hf HW3
  go_wp2_with fail
  refine (HW4.out.field (slice_rd K HK.out) (sliE_ok rdE_ok) h2 h3 (es := [v]) (a := [.int .i64 x.kind, .string x.name, .int .i64 x.time, .int .i64 x.pl.f, .int .i64 x.pl.a, .int .i64 x.pl.b, .int .i64 x.pl.c]) (c := []) HAt.out rfl ⟨_, rfl, r5⟩ HAv.out _ rfl HSz.out).mono ?_
  rintro e w5 ⟨rfl, es4, h1, ⟨y4, rfl, R4⟩, -, hf⟩
  have HW5 : Hid (WS K p ((k.slice k.reading (0, 0)) (k.place (k.int (k.text (k.int s x.kind).1 x.name).1 x.time).1 x.pl).1 x.rds).1 (putL cs o [.int .i64 (k.int s x.kind).2, .string (k.text (k.int s x.kind).1 x.name).2, .int .i64 (k.int (k.text (k.int s x.kind).1 x.name).1 x.time).2, .int .i64 (k.place (k.int (k.text (k.int s x.kind).1 x.name).1 x.time).1 x.pl).2.f, .int .i64 (k.place (k.int (k.text (k.int s x.kind).1 x.name).1 x.time).1 x.pl).2.a, .int .i64 (k.place (k.int (k.text (k.int s x.kind).1 x.name).1 x.time).1 x.pl).2.b, .int .i64 (k.place (k.int (k.text (k.int s x.kind).1 x.name).1 x.time).1 x.pl).2.c, y4]) w w5) := h1
  have R4h := Lib.hid R4
  clear R4
  have R4 := R4h
  clear R4h
  clear h1 hf HW4
  try go_wp2_with fail
  go_end0
  exact ⟨rfl, WS.post (E := repE) (q := k.rep s x) HW5.out (⟨y4, rfl, I0.out, I1.out, I2.out, I3.out, R4.out⟩)⟩
end
end Go.Proofs.YtpknalpdcfjffaaGreat
