/- Part 8 of the proof: laws on memory and what functions of the program return. No conditions but those that each theorem names. -/
import Derived.Test.YtkpgciimhjkajaaGreatDoorR07
set_option linter.unusedVariables false
set_option linter.unusedSimpArgs false
/- The program's flux: a range over the edges of a grid; numbers in a block. -/
namespace Go.Proofs.YtkpgciimhjkajaaGreatDoor
open Go Go.RowKit Go.Shelf
def BlkI (W : World) (X : Nat) (D : List Int) (cap : Nat) : Prop := ∃ tl : List Value, W.heap[X]? = some (.cells (ics D ++ tl).toArray 3 (0, 0)) ∧ D.length + tl.length = cap
theorem BlkI.lt {W : World} {X cap : Nat} {D : List Int} (h : BlkI W X D cap) : X < W.heap.size := by obtain ⟨tl, h, _⟩ := h; exact (Array.getElem?_eq_some_iff.1 h).1
theorem BlkI.of_block {W W' : World} {X cap : Nat} {D : List Int} (h : BlkI W X D cap) (hb : W'.heap[X]? = W.heap[X]?) : BlkI W' X D cap := by obtain ⟨tl, h, e⟩ := h; exact ⟨tl, by rw [hb]; exact h, e⟩
theorem BlkI.at {W : World} {X cap : Nat} {D : List Int} (h : BlkI W X D cap) (i : Nat) (hi : i < D.length) : W.cell? ⟨X, i, none⟩ = some (.int .i64 D[i]) := by
  obtain ⟨tl, h, _⟩ := h
  simp only [World.cell?, h]
  rw [if_neg (by simp)]
  have hl : i < (ics D).length := by simp [ics, hi]
  rw [← Array.getElem?_toList]
  show (ics D ++ tl)[i]? = _
  rw [List.getElem?_append_left hl]
  simp [ics, hi]
theorem BlkI.free {W : World} {X cap : Nat} {D : List Int} (h : BlkI W X D cap) (i : Nat) : W.frozen? ⟨X, i, none⟩ = false := by
  obtain ⟨tl, h, _⟩ := h
  simp [World.frozen?, h]
theorem heap_setCell_at {W : World} {X i : Nat} {cs : Array Value} {t : TypeId} {fr : Nat × Nat} {v : Value} (h : W.heap[X]? = some (.cells cs t fr)) : (W.setCell ⟨X, i, none⟩ v).heap[X]? = some (.cells (cs.setIfInBounds i v) t fr) := by
  obtain ⟨hlt, h'⟩ := Array.getElem?_eq_some_iff.1 h
  show (W.heap.modify X _)[X]? = _
  rw [Array.getElem?_eq_getElem (by simpa using hlt), Array.getElem_modify_self, h']
  rfl
theorem BlkI.set {W : World} {X cap : Nat} {D : List Int} (h : BlkI W X D cap) (i : Nat) (hi : i < D.length) (x : Int) : BlkI (W.setCell ⟨X, i, none⟩ (.int .i64 x)) X (D.set i x) cap := by
  obtain ⟨tl, h, e⟩ := h
  refine ⟨tl, ?_, by rw [List.length_set]; exact e⟩
  rw [heap_setCell_at h]
  have hl : i < (ics D).length := by simp [ics, hi]
  simp only [List.setIfInBounds_toArray]
  rw [List.set_append_left _ _ hl]
  simp [ics, List.map_set]
theorem BlkI.own {W : World} {X cap base : Nat} {D : List Int} (h : BlkI W X D cap) (hb : base ≤ X) (hc : cap ≤ 1000000000) : OwnI W base (.slice (some ⟨X, 0, none⟩) D.length cap) D := by
  obtain ⟨tl, h, e⟩ := h
  refine ⟨by simp [ics], Or.inr ⟨X, cap, _, rfl, hb, h, by omega, by unfold maxLen; omega, by simp [ics]; omega, ?_⟩⟩
  simp [ics]
theorem OwnI.blk {w : World} {base : Nat} {v : Value} {l : List Int} (h : OwnI w base v l) (h0 : 0 < l.length) : ∃ g cap, v = .slice (some ⟨g, 0, none⟩) l.length cap ∧ base ≤ g ∧ BlkI w g l cap ∧ cap ≤ 9223372036854775807 := by
  obtain ⟨h1, h2⟩ := h
  rcases h2 with ⟨e, h0'⟩ | ⟨g, cap, cur, e, hg, hh, hc, hm, hs, ht⟩
  · omega
  · rw [Nat.mul_one] at ht hs
    refine ⟨g, cap, e, hg, ⟨cur.toList.drop l.length, ?_, by have := cur.length_toList; simp only [List.length_drop]; omega⟩, by unfold maxLen at hm; omega⟩
    rw [← ht, List.take_append_drop]
    exact hh
theorem BlkI.new (w : World) (N : Nat) : BlkI (w.alloc (.cells (madeCells #[.int .i64 0] N) 3)) w.heap.size (List.replicate N 0) N := by
  refine ⟨[], ?_, by simp⟩
  have e : madeCells #[.int .i64 0] N = (ics (List.replicate N 0) ++ []).toArray := Array.ext' (by rw [toList_madeCells_one]; simp [ics])
  rw [← e]
  exact heap_alloc_new w _
structure KOth (W W' : World) : Prop where
  size : W.heap.size ≤ W'.heap.size
  same : ∀ (k : Nat) (o : Obj), W.heap[k]? = some o → (o.isCells = false ∨ ∃ cs fr, o = .cells cs 95 fr) → W'.heap[k]? = some o
theorem KOth.refl (W : World) : KOth W W := ⟨Nat.le_refl _, fun _ _ h _ => h⟩
theorem KOth.trans {A B C : World} (h : KOth A B) (k : KOth B C) : KOth A C := ⟨Nat.le_trans h.size k.size, fun j o hj ho => k.same j o (h.same j o hj ho) ho⟩
theorem KOth.below {W W' : World} (h : Below W.heap.size W W') : KOth W W' := ⟨h.size, fun k o hk _ => by rw [h.block k (Array.getElem?_eq_some_iff.1 hk).1]; exact hk⟩
theorem KOth.setCell {W : World} {X : Nat} {cs : Array Value} {t : TypeId} {fr : Nat × Nat} (h : W.heap[X]? = some (.cells cs t fr)) (ht : t ≠ 95) (i : Nat) (v : Value) : KOth W (W.setCell ⟨X, i, none⟩ v) :=
  ⟨by simp [World.setCell], fun k o hk ho => by
    by_cases e : k = X
    · subst e
      rw [h] at hk
      injection hk with hk
      subst hk
      rcases ho with ho | ⟨cs', fr', ho⟩
      · cases ho
      · injection ho with _ ho _
        exact absurd ho ht
    · rw [Below.heap_setCell _ _ _ _ (by simpa using e)]; exact hk⟩
theorem KOth.grown {W W' : World} {row : Option Nat} (hg : W.grownBy W' row) (hr : ∀ k, row = some k → ∃ cs t fr, W.heap[k]? = some (Obj.cells cs t fr) ∧ t ≠ 95) : KOth W W' :=
  ⟨hg.size, fun k o hk ho => by
    rw [hg.block k (Array.getElem?_eq_some_iff.1 hk).1 (fun e => ?_)]
    · exact hk
    · obtain ⟨cs, t, fr, h1, h2⟩ := hr k e.symm
      rw [h1] at hk
      injection hk with hk
      subst hk
      rcases ho with ho | ⟨cs', fr', ho⟩
      · cases ho
      · injection ho with _ ho _
        exact h2 ho⟩
theorem KOth.kp {W W' : World} (h : KOth W W') : KpE W W' := ⟨h.size, fun k cs fr hk => by rw [h.same k _ hk (Or.inr ⟨cs, fr, rfl⟩)]; exact hk.symm⟩
theorem KOth.from {W W' : World} (h : KOth W W') (B : Nat) : KeepsFrom B W W' := ⟨h.size, fun k o _ hk ho => h.same k o hk (Or.inl ho)⟩
theorem rowT_ed : RowT 95 2 := ⟨by kernel_rfl, _, Tryz.underlying95, rfl⟩
set_option maxHeartbeats 4000000 in
theorem range_edges {n0 : Nat} (hn : Fq n0) {m : Nat} (hm : 4 ≤ m) {g : Operand} {p1 p2 be id : Nat} {o1 o2 : Oper} {body : Code} {Q : Exit → Act → World → Prop} {a : Act} {w : World} {Bs : Nat}
    (hgf : a.eval g = .func (.func 124) #[] #[.pointer (some ⟨Bs, 0, none⟩)])
    (h1 : o1.op = .alloc 95 ∧ o1.dst = some be ∧ o1.guard = none) (h2 : o2.op = .store 95 (.tmp be) (.tmp p2) ∧ o2.dst = none ∧ o2.guard = none)
    (hz : p2 < a.tmps.size ∧ be < a.tmps.size ∧ p2 ≠ be)
    (hBs : Bs < w.heap.size) (hc : w.cell? ⟨Bs, 0, none⟩ = some (.int .i64 n0)) (hcr : Crn w) (hg : 0 < w.heap.size)
    (I : List (Fin (edgesN n0).length) → World → Prop) (hI : OwnFrom w.heap.size I) (hIs : ∀ pre W, I pre W → w.heap.size ≤ W.heap.size) (h0 : I [] w)
    (hbody : ∀ (l : Nat) (pre : List (Fin (edgesN n0).length)) (x : Fin (edgesN n0).length) (eb : Nat) (W : World), w.heap.size ≤ eb → RowAt W eb [.int .i64 ((edgesN n0)[x.1].1 : Int), .int .i64 ((edgesN n0)[x.1].2 : Int)] → I pre W → pre.length < (edgesN n0).length →
      body.wpIn (Fence.wide.inRound l) (m - 1 - 1) Tryz.prog (ownPostG w.heap.size KpE I (fun _ _ _ => False) (pre ++ [x]) W) { tmps := ((a.tmps.setIfInBounds p1 (.int .i64 (x.1 : Int))).setIfInBounds p2 (.agg #[.int .i64 ((edgesN n0)[x.1].1 : Int), .int .i64 ((edgesN n0)[x.1].2 : Int)])).setIfInBounds be (.pointer (some ⟨eb, 0, none⟩)), defers := [] } W)
    (hdone : ∀ (D : Nat) (W : World), w.heap.size ≤ D → I (List.finRange (edgesN n0).length) W → W.heap[D]? = some (.deferred (some [])) → Q .normal { a with defers := { target := .collected D, args := #[] } :: a.defers } W) :
    (Code.rangeFunc g #[p1, p2] (Code.region id #[o1, o2] false) body).wpIn Fence.wide m Tryz.prog Q a w := by
  refine wpIn_rangeFunc_ownH rfl (by omega) (gf := 124) (lb := #[.pointer (some ⟨Bs, 0, none⟩)]) hgf trivial (enters_of Tryz.func124 (by kernel_rfl) rfl)
    (edges_stops n0 hn (m - 1) (by omega) Bs w hBs hc hcr hg) KpE.trans KpE.put (Below.refl _ _) (fun _ => rfl) I (fun _ _ _ => False) hI (fun _ _ _ _ _ h _ _ => h) h0
    (fun x a' W => ∃ eb, w.heap.size ≤ eb ∧ eb < W.heap.size ∧ RowAt W eb [.int .i64 ((edgesN n0)[x.1].1 : Int), .int .i64 ((edgesN n0)[x.1].2 : Int)] ∧
      a' = { tmps := ((a.tmps.setIfInBounds p1 (.int .i64 (x.1 : Int))).setIfInBounds p2 (.agg #[.int .i64 ((edgesN n0)[x.1].1 : Int), .int .i64 ((edgesN n0)[x.1].2 : Int)])).setIfInBounds be (.pointer (some ⟨eb, 0, none⟩)), defers := [] })
    ?hAx ?assign ?body ?done ?stop
  case hAx =>
    rintro x a' _ W W' row ⟨eb, h1, h2, h3, h5⟩ hgr hr
    obtain ⟨ox, h4, hcx⟩ := cells_of_cell (h3.at 0 rfl)
    have hb : W'.heap[eb]? = W.heap[eb]? := hgr.block eb h2 (fun e => by
      obtain ⟨_, o, ho, hoc⟩ := hr eb e.symm
      have h4 : W.heap[eb]? = some ox := h4
      rw [h4] at ho; injection ho with ho; rw [← ho, hcx] at hoc; cases hoc)
    exact ⟨eb, h1, Nat.lt_of_lt_of_le h2 hgr.size, h3.of_block hb, h5⟩
  case assign =>
    intro l pre x W K hi hK
    obtain ⟨h11, h12, h13⟩ := h1
    obtain ⟨h21, h22, h23⟩ := h2
    refine wpIn_region ?_
    show wpOpsIn _ _ _ _ _ [0, 1] _ _
    have hRn : RowAt (W.alloc (.cells #[.int .i64 0, .int .i64 0] 95)) W.heap.size [.int .i64 0, .int .i64 0] := RowAt.new W [.int .i64 0, .int .i64 0] (by simp) _ rfl
    obtain ⟨w', hrun, hR', hA⟩ := run_row_store (cs' := [.int .i64 ((edgesN n0)[x.1].1 : Int), .int .i64 ((edgesN n0)[x.1].2 : Int)]) hRn rfl rowT_ed (by intro v hv; simp at hv; rcases hv with rfl | rfl <;> rfl)
    have hbw : Below W.heap.size W w' := ((Below.refl _ W).alloc (Nat.le_refl _) _).trans (hA.below (Nat.le_refl _))
    refine opIn_val (o := o1) rfl h13 (by rw [h11]; intro c hc; cases hc) (v := .pointer (some ⟨W.heap.size, 0, none⟩)) (w' := W.alloc (.cells #[.int .i64 0, .int .i64 0] 95)) ?_ ?_
    · unfold execOp
      simp only [h11]
      simp [go_sem]
    · rw [h12]
      refine opIn_skip (o := o2) rfl h23 (by rw [h21]; intro c hc; cases hc) (w' := w') ?_ ?_
      · unfold execOp
        have hx : Act.eval (Act.put { tmps := (#[p1, p2].zip (eenc (edgesN n0) x)).foldl (fun t (p, v) => t.setIfInBounds p v) a.tmps, defers := [] } (some be) (.pointer (some ⟨W.heap.size, 0, none⟩))) (.tmp be) = .pointer (some ⟨W.heap.size, 0, none⟩) := by
          simp [Act.eval, Act.put, eenc, hz.2.1]
        have hy : Act.eval (Act.put { tmps := (#[p1, p2].zip (eenc (edgesN n0) x)).foldl (fun t (p, v) => t.setIfInBounds p v) a.tmps, defers := [] } (some be) (.pointer (some ⟨W.heap.size, 0, none⟩))) (.tmp p2) = .agg #[.int .i64 ((edgesN n0)[x.1].1 : Int), .int .i64 ((edgesN n0)[x.1].2 : Int)] := by
          simp [Act.eval, Act.put, eenc, hz.1, hz.2.2, Array.getElem_setIfInBounds_ne, Ne.symm hz.2.2]
        have hrun' : (Instr.storeAt 95 (.pointer (some ⟨W.heap.size, 0, none⟩)) (.agg #[.int .i64 ((edgesN n0)[x.1].1 : Int), .int .i64 ((edgesN n0)[x.1].2 : Int)])).run Tryz.prog (W.alloc (.cells #[.int .i64 0, .int .i64 0] 95)) = .ok () w' := hrun
        simp only [h21, hx, hy, Sem.run_bind, hrun', Result.andThen_ok, Sem.run_pure]
      · rw [h22]
        refine hK _ _ (KOth.below hbw |>.from _) (KpE.below hbw) ?_ ⟨W.heap.size, ?_, hR'.lt, hR', by simp [Act.put, eenc]⟩
        · exact hI _ _ _ none hi (grown_of_below hbw) (fun r e => by cases e)
        · exact hIs _ _ hi
  case body =>
    rintro l pre x a' W _ _ hi ⟨eb, h1, _, h3, rfl⟩ hlt
    exact hbody l pre x eb W h1 h3 hi hlt
  case done =>
    rintro D xs W hD rfl hi hK
    exact hdone D W hD hi hK
  case stop =>
    rintro D c pre W _ _ h _
    exact h.elim
theorem KOth.post {α : Type} {B : Nat} {I : List α → World → Prop} {xs : List α} {a : Act} {W W' : World} (h : KOth W W') (hi : I xs W') : ownPostG B KpE I (fun _ _ _ => False) xs W .normal a W' := ⟨h.from _, h.kp, hi⟩
theorem BlkI.typ {W : World} {X cap : Nat} {D : List Int} (h : BlkI W X D cap) : ∃ cs fr, W.heap[X]? = some (Obj.cells cs 3 fr) := by obtain ⟨tl, h, _⟩ := h; exact ⟨_, _, h⟩
theorem BlkI.koth {W : World} {X cap : Nat} {D : List Int} (h : BlkI W X D cap) (i : Nat) (v : Value) : KOth W (W.setCell ⟨X, i, none⟩ v) := by
  obtain ⟨cs, fr, h⟩ := h.typ
  exact KOth.setCell h (by decide) i v
theorem BlkI.from {α : Type} {B X cap : Nat} {f : α → List Int} (hX : X < B) : OwnFrom B (fun s W => BlkI W X (f s) cap) := fun s W W' row hs hg hr => hs.of_block (hg.block X hs.lt (fun e => by have := (hr X e.symm).1; omega))
theorem boxed_from {α : Type} {B X : Nat} {t : TypeId} {f : α → Value} (hX : X < B) : OwnFrom B (fun s W => Boxed W X t (f s)) := fun s W W' row hs hg hr => hs.kept hg (fun e => by have := (hr X e.symm).1; omega)
theorem RowAt.from {α : Type} {B X : Nat} {f : α → List Value} (hX : X < B) : OwnFrom B (fun s W => RowAt W X (f s)) := fun s W W' row hs hg hr => hs.of_block (hg.block X hs.lt (fun e => by have := (hr X e.symm).1; omega))
end Go.Proofs.YtkpgciimhjkajaaGreatDoor
/- The program's flux: Degrees. -/
namespace Go.Proofs.YtkpgciimhjkajaaGreatDoor
open Go Go.RowKit Go.Shelf
attribute [local go_sem] Oper.semAt_some
def bump (D : List Int) (a : Nat) : List Int := D.set a (D.getD a 0 + 1)
def degF (E : List Ed) (D : List Int) (pre : List (Fin E.length)) : List Int := pre.foldl (fun D i => bump (bump D E[i.1].1) E[i.1].2) D
def degN (n : Nat) : List Int := degF (edgesN n) (List.replicate (10 * n * n + 2) 0) (List.finRange _)
theorem bump_length (D : List Int) (a : Nat) : (bump D a).length = D.length := by simp [bump]
theorem degF_snoc (E : List Ed) (D : List Int) (pre : List (Fin E.length)) (i : Fin E.length) : degF E D (pre ++ [i]) = bump (bump (degF E D pre) E[i.1].1) E[i.1].2 := by simp [degF]
theorem bump_getD (D : List Int) (a b : Nat) (ha : a < D.length) : (bump D a).getD b 0 = if a = b then D.getD b 0 + 1 else D.getD b 0 := by
  unfold bump
  simp only [List.getD_eq_getElem?_getD]
  by_cases h : a = b
  · subst h; simp [ha]
  · simp [h]
theorem degF_length (E : List Ed) : ∀ (pre : List (Fin E.length)) (D : List Int), (degF E D pre).length = D.length
  | [], _ => rfl
  | i :: r, D => by
    show (degF E (bump (bump D E[i.1].1) E[i.1].2) r).length = _
    rw [degF_length E r, bump_length, bump_length]
theorem degF_bnd (E : List Ed) (hE : ∀ e ∈ E, e.1 < e.2) : ∀ (pre : List (Fin E.length)) (D : List Int) (b : Nat), (∀ e ∈ E, e.2 < D.length) → D.getD b 0 ≤ (degF E D pre).getD b 0 ∧ (degF E D pre).getD b 0 ≤ D.getD b 0 + 2 * pre.length ∧ ((∃ i ∈ pre, E[i.1].1 = b ∨ E[i.1].2 = b) → D.getD b 0 + 1 ≤ (degF E D pre).getD b 0)
  | [], D, b, _ => ⟨Int.le_refl _, by simp [degF], by rintro ⟨i, h, _⟩; cases h⟩
  | i :: r, D, b, hb => by
    have h1 := hb _ (List.getElem_mem i.2)
    have h2 := hE _ (List.getElem_mem i.2)
    obtain ⟨k1, k2, k3⟩ := degF_bnd E hE r (bump (bump D E[i.1].1) E[i.1].2) b (by intro e he; rw [bump_length, bump_length]; exact hb e he)
    have e1 := bump_getD (bump D E[i.1].1) E[i.1].2 b (by rw [bump_length]; exact h1)
    have e2 := bump_getD D E[i.1].1 b (by omega)
    have hs : degF E D (i :: r) = degF E (bump (bump D E[i.1].1) E[i.1].2) r := rfl
    rw [hs]
    simp only [List.length_cons]
    refine ⟨?_, ?_, ?_⟩
    · split at e1 <;> split at e2 <;> omega
    · split at e1 <;> split at e2 <;> omega
    · rintro ⟨j, hj, hjb⟩
      rcases List.mem_cons.1 hj with rfl | hj
      · rcases hjb with hjb | hjb <;> (split at e1 <;> split at e2 <;> omega)
      · have k3 := k3 ⟨j, hj, hjb⟩
        split at e1 <;> split at e2 <;> omega
theorem bump_set {D : List Int} {a : Nat} (h : a < D.length) : bump D a = D.set a (D[a] + 1) := by
  unfold bump; rw [List.getD_eq_getElem?_getD, List.getElem?_eq_getElem h]; rfl
theorem iinfoN : (Tryz.prog.info? 3).map (fun i => (i.zero, i.size, i.bytes)) = some (some (.int .i64 0), 1, 8) := by kernel_rfl
set_option maxRecDepth 100000 in
set_option maxHeartbeats 8000000 in
theorem pdegrees_any (n : Nat) (hn : Fq n) (w : World) (hcr : Crn w) (hg : 0 < w.heap.size) :
    Calls Tryz.prog 110 #[.int .i64 n] w fun e w' => ∃ v, e = .returned (.tuple #[v, .int .i64 0]) ∧ OwnI w' w.heap.size v (degN n) ∧ Below w.heap.size w w' := by
  have hn8 : 1 ≤ n ∧ n ≤ 8 := hn
  have HW := Lib.hid (pwithin_any (n : Int) 1 8 w)
  have hdec : decide (1 ≤ (n : Int) ∧ (n : Int) ≤ 8) = true := by simp; omega
  rw [hdec] at HW
  obtain ⟨N, hN⟩ : ∃ N, N = 10 * n * n + 2 := ⟨_, rfl⟩
  have hNb : 2 ≤ N ∧ N ≤ 1000 := by
    have := Nat.mul_le_mul (Nat.mul_le_mul_left 10 hn8.2) hn8.2
    omega
  have HCo := Lib.hid (pcount_any n hn w)
  rw [← hN] at HCo
  have hmk := run_make_row' (P := Tryz.prog) 34 3 (.int .i64 0) 8 Tryz.underlying34 iinfoN rfl .i64 .i64 N (by omega) (by omega)
  have HN := Lib.hid hN
  clear hN
  refine callsIn_wide (n := 10) |>.1 ?_
  refine callsIn_of_wp_marks Tryz.func110 rfl trivial ?_ rfl
  simp only [Tryz.ntmps110, List.size_toArray, List.length_cons, List.length_nil, Nat.reduceAdd, Nat.reduceSub, Array.replicate_succ, Array.replicate_zero, List.push_toArray, List.append_toArray, List.nil_append, List.cons_append]
  gi_wp2_with first
    | (refine ⟨trivial, ?_⟩; gi_at_call 64; refine (callsIn_wide.2 HW.out).mono ?_; rintro e w1 ⟨rfl, rfl⟩)
    | (refine ⟨trivial, ?_⟩; gi_at_call 50; refine (callsIn_wide.2 HCo.out).mono ?_; rintro e w1 ⟨rfl, rfl⟩)
    | (refine ⟨trivial, ?_⟩; gi_at_call 111; refine (callsIn_wide.2 (pedgesF_any (n : Int) _)).mono ?_; rintro e w1 ⟨rfl, rfl⟩)
  clear hmk HW HCo
  obtain ⟨X, hX⟩ : ∃ x, x = w1.heap.size := ⟨_, rfl⟩
  obtain ⟨W0, hW0⟩ : ∃ u, u = ((w1.alloc (.cells (madeCells #[.int .i64 0] N) 3)).alloc (.cells #[.slice (some ⟨w1.heap.size, 0, none⟩) N N] 34)).alloc (.cells #[.int .i64 n] 3) := ⟨_, rfl⟩
  have hB0 : Below X w1 W0 := by rw [hW0, hX]; exact (((Below.refl _ _).alloc (Nat.le_refl _) _).alloc (by simp) _).alloc (by simp; omega) _
  have hsz : W0.heap.size = X + 1 + 1 + 1 := by rw [hW0, hX]; simp
  have hX0 : BlkI W0 X (List.replicate N 0) N := by
    rw [hW0, hX]
    exact (BlkI.new w1 N).of_block (((Below.refl _ _).alloc (Nat.le_refl _) _).alloc (by simp) _ |>.block _ (by simp))
  have hBx : Boxed W0 (X + 1) 34 (.slice (some ⟨X, 0, none⟩) N N) := by
    rw [hW0]
    have h := Boxed.alloc (Boxed.new (w1.alloc (.cells (madeCells #[.int .i64 0] N) 3)) 34 (.slice (some ⟨w1.heap.size, 0, none⟩) N N)) (.cells #[.int .i64 n] 3)
    rw [World.size_alloc, ← hX] at h
    rw [← hX]; exact h
  have hBs : W0.cell? ⟨X + 1 + 1, 0, none⟩ = some (.int .i64 n) := by
    rw [hW0]
    have h := (Boxed.new ((w1.alloc (.cells (madeCells #[.int .i64 0] N) 3)).alloc (.cells #[.slice (some ⟨w1.heap.size, 0, none⟩) N N] 34)) 3 (.int .i64 n)).cell
    rw [World.size_alloc, World.size_alloc, ← hX] at h
    rw [← hX]; exact h
  rw [← hW0, ← hX]
  have hE1 := edgesN_ok hn
  have hEl := edgesN_le hn
  rw [← HN.out] at hE1
  have HE1 := Lib.hid (And.intro hE1 hEl)
  refine range_edges hn (by omega) (Bs := X + 1 + 1) rfl ⟨rfl, rfl, rfl⟩ ⟨rfl, rfl, rfl⟩ ⟨by simp, by simp, by decide⟩ (by omega) hBs (hcr.below hB0 (by omega)) (by omega)
    (fun pre W => (BlkI W X (degF (edgesN n) (List.replicate N 0) pre) N ∧ Boxed W (X + 1) 34 (.slice (some ⟨X, 0, none⟩) N N)) ∧ Below X W0 W)
    (OwnFrom.and (OwnFrom.and (BlkI.from (by omega)) (boxed_from (by omega))) (ownFrom_below (by omega) (by omega))) (fun pre W h => h.2.size) ⟨⟨hX0, hBx⟩, Below.refl _ _⟩ ?body ?done
  case body =>
    rintro l pre i eb W heb hR ⟨⟨hD, hBx⟩, hb⟩ hlt
    have he := HE1.out.1 _ (List.getElem_mem i.2)
    have hbn := degF_bnd (edgesN n) (fun e he => (HE1.out.1 e he).1) pre (List.replicate N 0)
    have hsn := degF_snoc (edgesN n) (List.replicate N 0) pre i
    obtain ⟨xn, hxn⟩ : ∃ x, x = (edgesN n)[i.1].1 := ⟨_, rfl⟩
    obtain ⟨yn, hyn⟩ : ∃ x, x = (edgesN n)[i.1].2 := ⟨_, rfl⟩
    rw [← hxn, ← hyn] at hR he hsn
    rw [← hxn, ← hyn]
    have hlN : (degF (edgesN n) (List.replicate N 0) pre).length = N := by rw [degF_length]; simp
    have hbx := (hbn xn (by intro e he; simp; exact (HE1.out.1 e he).2))
    have hby := (hbn yn (by intro e he; simp; exact (HE1.out.1 e he).2))
    refine wpIn_mono (Q := fun e _ W' => e = .normal ∧ KOth W W' ∧ (BlkI W' X (degF (edgesN n) (List.replicate N 0) (pre ++ [i])) N ∧ Boxed W' (X + 1) 34 (.slice (some ⟨X, 0, none⟩) N N)) ∧ Below X W0 W') ?_ (by rintro e a W' ⟨rfl, hk, hi⟩; exact KOth.post hk hi)
    rw [hsn]
    have hl2 := HE1.out.2
    generalize degF (edgesN n) (List.replicate N 0) pre = D at *
    have hrx : (List.replicate N (0 : Int)).getD xn 0 = 0 := by simp [List.getD_eq_getElem?_getD, List.getElem?_replicate]; split <;> rfl
    have hry : (List.replicate N (0 : Int)).getD yn 0 = 0 := by simp [List.getD_eq_getElem?_getD, List.getElem?_replicate]; split <;> rfl
    rw [hrx] at hbx
    rw [hry] at hby
    have hxl : xn < D.length := by omega
    have hyl : yn < D.length := by omega
    have hgx : D.getD xn 0 = D[xn] := by rw [List.getD_eq_getElem?_getD, List.getElem?_eq_getElem hxl]; rfl
    have hgy : D.getD yn 0 = D[yn] := by rw [List.getD_eq_getElem?_getD, List.getElem?_eq_getElem hyl]; rfl
    rw [hgx] at hbx
    rw [hgy] at hby
    have hbe : bump (bump D xn) yn = (D.set xn (D[xn] + 1)).set yn (D[yn] + 1) := by
      rw [bump_set hxl, bump_set (by rw [List.length_set]; exact hyl), List.getElem_set_ne (by omega)]
    rw [hbe]
    have cx := hD.at xn hxl
    have fx := hD.free xn
    have hD1 := hD.set xn hxl (D[xn] + 1)
    have cy := hD1.at yn (by rw [List.length_set]; exact hyl)
    rw [List.getElem_set_ne (by omega)] at cy
    have fy := hD1.free yn
    have hD2 := hD1.set yn (by rw [List.length_set]; exact hyl) (D[yn] + 1)
    have k1 := hD.koth xn (.int .i64 (D[xn] + 1))
    have k2 := hD1.koth yn (.int .i64 (D[yn] + 1))
    have hXe : eb ≠ X ∧ eb ≠ X + 1 := by omega
    have ho : ∀ (V : World) (j : Nat) (v : Value) (k : Nat), k ≠ X → (V.setCell ⟨X, j, none⟩ v).heap[k]? = V.heap[k]? := fun V j v k hk => Below.heap_setCell _ _ _ _ (by simpa using hk)
    have c4 := hBx.cell
    have hBx1 : Boxed (W.setCell ⟨X, xn, none⟩ (.int .i64 (D[xn] + 1))) (X + 1) 34 (.slice (some ⟨X, 0, none⟩) N N) := (ho _ _ _ _ (by omega)).trans hBx
    have hBx2 : Boxed ((W.setCell ⟨X, xn, none⟩ (.int .i64 (D[xn] + 1))).setCell ⟨X, yn, none⟩ (.int .i64 (D[yn] + 1))) (X + 1) 34 (.slice (some ⟨X, 0, none⟩) N N) := (ho _ _ _ _ (by omega)).trans hBx1
    have c41 := hBx1.cell
    have ce0 := hR.at 0 rfl
    have ce1 := (hR.of_block (ho W xn (.int .i64 (D[xn] + 1)) eb hXe.1)).at 1 rfl
    have HEnd := Lib.hid (And.intro (k1.trans k2) (And.intro (And.intro hD2 hBx2) ((hb.setCell (p := ⟨X, xn, none⟩) (Nat.le_refl _) (.int .i64 (D[xn] + 1))).setCell (p := ⟨X, yn, none⟩) (Nat.le_refl _) (.int .i64 (D[yn] + 1)))))
    have hx1 : (xn : Int) < (N : Int) := by omega
    have hy1 : (yn : Int) < (N : Int) := by omega
    have hd1 : 0 ≤ D[xn] ∧ D[xn] ≤ 18000 := by omega
    have hd2 : 0 ≤ D[yn] ∧ D[yn] ≤ 18000 := by omega
    generalize D[xn] = d1 at *
    generalize D[yn] = d2 at *
    obtain ⟨d10, d11⟩ := hd1
    obtain ⟨d20, d21⟩ := hd2
    clear hX hxn hyn hbx hby hbn hsn hrx hry hgx hgy hbe hD hD1 hD2 k1 k2 hBx hBx1 hBx2 hb hR ho hlN hl2 hE1 hEl he hXe heb hlt hB0 hX0 hW0 hBs
    simp only [List.setIfInBounds_toArray, List.set_cons_zero, List.set_cons_succ]
    gi_wp2
    exact HEnd.out
  case done =>
    rintro D W hD ⟨⟨h1, h2⟩, h3⟩ hK
    have c4 := h2.cell
    have hO : OwnI W w1.heap.size (.slice (some ⟨X, 0, none⟩) N N) (degN n) := by
      have h := h1.own (base := w1.heap.size) (by omega) (by omega)
      rw [degF_length, List.length_replicate] at h
      unfold degN
      rw [← HN.out]
      exact h
    have HEnd := Lib.hid (And.intro hO (Below.trans (hX ▸ hB0) (hX ▸ h3)))
    have hD' : w1.heap.size ≤ D := Nat.le_trans hB0.size hD
    clear hX hB0 hW0 hX0 hBx hBs h1 h2 h3 hO hsz
    gi_wp2
    refine ⟨by simp, .inl ⟨_, _, rfl, run_takeDeferred hK, _, results_tmp2 rfl _ _ _, _, rfl, ?_, ?_⟩⟩
    · exact ownsRow_putObj HEnd.out.1 _ hK rfl
    · exact HEnd.out.2.trans (belowK_b (w := w1) (Nat.le_refl _) W D _ _ hD' hK rfl rfl)
end Go.Proofs.YtkpgciimhjkajaaGreatDoor
/- As SeqL, where now and then one of several operations may come next: each way is walked. And a cut behind a region. No program. -/
namespace Go.Proofs.YtkpgciimhjkajaaGreatDoor
open Go Go.RowKit
inductive Tr
  | nil
  | q (i f : Nat) (r : Tr)
  | e (i : Nat) (r : Tr)
  | fork (x y : Tr)
def Tr.more : Tr → Bool
  | .nil => false
  | .q _ _ r => r.more
  | .e _ _ => true
  | .fork _ _ => true
def Tr.depth : Tr → Nat
  | .nil => 0
  | .q _ _ r => r.depth + 1
  | .e _ r => r.depth + 1
  | .fork x _ => x.depth
def Tr.heads : Tr → List Nat
  | .e i _ => [i]
  | .fork x y => x.heads ++ y.heads
  | _ => []
section
variable {P : Program} {ops : Array Oper} {Q : Exit → Act → World → Prop} {S : World → Prop} {L : Nat}
def wpT (P : Program) (ops : Array Oper) (Q : Exit → Act → World → Prop) (S : World → Prop) : Tr → Act → World → Prop
  | .nil, a, w => Q .normal a w
  | .q i f r, a, w => ∃ o, ops[i]? = some o ∧ ∃ v, YieldsIf P ops (fun w => f = 1 → S w) o v a ∧ wpT P ops Q S r (a.put o.dst v) w
  | .e i r, a, w => ∃ o, ops[i]? = some o ∧ if Region.wanted o (yielded ops a.tmps) = true then Oper.wp P o a w (fun a' w' => (r.more = true → S w') ∧ wpT P ops Q S r a' w') Q else wpT P ops Q S r (a.put o.dst undef) w
  | .fork x y, a, w => wpT P ops Q S x a w ∧ wpT P ops Q S y a w
def chkT (ops : Array Oper) (L : Nat) : Bool → Tr → Array Bool → Bool
  | fl, .nil, listed => !fl && (Region.ready .any ops listed).isEmpty
  | fl, .q i f r, listed => !fl && i != L && (f == 0 || (anc ops ops.size L).contains i) && Region.free .any ops listed i && (Region.ready .any ops listed).contains i && chkT ops L false r (listed.setIfInBounds i true)
  | fl, .e i r, listed => (fl || Region.ready .any ops listed == [i]) && (Region.ready .any ops listed).contains i && (i == L || r.more) && chkT ops L false r (listed.setIfInBounds i true)
  | fl, .fork x y, listed => (fl || Region.ready .any ops listed == x.heads ++ y.heads) && (x.depth == y.depth) && chkT ops L true x listed && chkT ops L true y listed
theorem chkT_depth : ∀ (t : Tr) (listed : Array Bool), chkT ops L true t listed = true → 0 < t.depth
  | .nil, _, h => by simp [chkT] at h
  | .q _ _ _, _, h => by simp [chkT] at h
  | .e _ _, _, _ => Nat.succ_pos _
  | .fork x y, listed, h => by
    simp only [chkT, Bool.and_eq_true] at h
    exact chkT_depth x listed h.1.2
theorem chkT_heads : ∀ (t : Tr) (listed : Array Bool), chkT ops L true t listed = true → t.heads ≠ []
  | .nil, _, h => by simp [chkT] at h
  | .q _ _ _, _, h => by simp [chkT] at h
  | .e _ _, _, _ => by simp [Tr.heads]
  | .fork x y, listed, h => by
    simp only [chkT, Bool.and_eq_true] at h
    have := chkT_heads x listed h.1.2
    intro e
    exact this (List.append_eq_nil_iff.1 e).1
theorem wpT_sound (hn : Region.noSelect ops = true) (hL : L < ops.size) (hQ : ∀ c a d v w, Q (.panic c) (Act.put a d v) w → Q (.panic c) a w) : ∀ (t : Tr) (listed : Array Bool) (a : Act) (w : World), ClosedL ops listed → listed.size = ops.size → (listed.getD L false = false → S w) → wpT P ops Q S t a w →
    (chkT ops L false t listed = true → wpAnyL P ops Q S L t.depth listed a w) ∧
    (chkT ops L true t listed = true → ∀ i ∈ t.heads, wpOp P ops Q i (fun a' w' => ((listed.setIfInBounds i true).getD L false = false → S w') ∧ wpAnyL P ops Q S L (t.depth - 1) (listed.setIfInBounds i true) a' w') a w)
  | .nil, listed, a, w, _, _, _, h => ⟨fun hb => ⟨by simpa [chkT] using hb, h⟩, fun hb => by simp [chkT] at hb⟩
  | .q i f r, listed, a, w, hc, hsz, hS, ⟨o, ho, v, hy, h⟩ => by
    refine ⟨fun hb => ?_, fun hb => by simp [chkT] at hb⟩
    simp only [chkT, Bool.and_eq_true, bne_iff_ne, Bool.or_eq_true, beq_iff_eq] at hb
    obtain ⟨⟨⟨⟨⟨_, h1⟩, h5⟩, h2⟩, h3⟩, h4⟩ := hb
    have hr : i ∈ Region.ready .any ops listed := by simpa using h3
    have hno : (listed.setIfInBounds i true).getD L false = false → listed.getD L false = false := fun h => by rw [getD_set_ne false h1] at h; exact h
    have hun : f = 1 → ∀ listed : Array Bool, ClosedL ops listed → listed.size = ops.size → i ∈ Region.ready .any ops listed → listed.getD L false = false ∧ L ∉ Region.ready .any ops listed := fun hf1 listed hc hsz hi => by
      have ha : i ∈ anc ops ops.size L := by
        rcases h5 with h5 | h5
        · omega
        · simpa using h5
      have h0 := (mem_ready.1 hi).1
      have hf : listed.getD i false = false := by
        have hlt : i < listed.size := by
          rcases Nat.lt_or_ge i listed.size with h | h
          · exact h
          · simp [Array.getElem?_eq_none h] at h0
        simp [hlt] at h0 ⊢; exact h0
      have hoL : ops[L]? = some ops[L] := Array.getElem?_eq_getElem hL
      refine ⟨?_, fun hLr => ?_⟩
      · cases hq : listed.getD L false with
        | false => rfl
        | true =>
          have := anc_listed hc ops.size L _ hoL (hc L _ hoL hq) hsz i ha
          rw [hf] at this; cases this
      · obtain ⟨_, oL, hoL', hall⟩ := mem_ready.1 hLr
        have := anc_listed hc ops.size L _ hoL' hall hsz i ha
        rw [hf] at this; cases this
    have hSw : f = 1 → S w := fun hf1 => hS (hun hf1 listed hc hsz hr).1
    have ih := wpT_sound hn hL hQ r (listed.setIfInBounds i true) (a.put o.dst v) w (hc.set hr) (by simp [hsz]) (fun h => hS (hno h)) h
    exact wpAnyL_first (T := fun w => f = 1 → S w) h1 ho (Region.noSelect_spec hn) (fun c a w => hQ c a _ _ w) (fun j listed w' hc hsz hj hi hji hS' hf1 => hS' (by
        have h6 := hun hf1 listed hc hsz hi
        have hjL : j ≠ L := fun e => h6.2 (e ▸ hj)
        rw [getD_set_ne false hjL]; exact h6.1)) r.depth listed a w (Region.free_spec ho h2) hc hsz hr hy hSw (fun h => hS (hno h)) (ih.1 h4)
  | .e i r, listed, a, w, hc, hsz, hS, ⟨o, ho, h⟩ => by
    have key : (Region.ready .any ops listed).contains i = true → (i == L || r.more) = true → chkT ops L false r (listed.setIfInBounds i true) = true → wpOp P ops Q i (fun a' w' => ((listed.setIfInBounds i true).getD L false = false → S w') ∧ wpAnyL P ops Q S L r.depth (listed.setIfInBounds i true) a' w') a w := fun hr0 h1 h3 => by
      have hr : i ∈ Region.ready .any ops listed := by simpa using hr0
      have h1 : i = L ∨ r.more = true := by simpa using h1
      have hLt : i = L → (listed.setIfInBounds i true).getD L false = false → False := fun e hf => by
        subst e
        have : i < listed.size := by omega
        simp [this] at hf
      unfold wpOp
      rw [ho]
      simp only
      split
      · rename_i hw
        rw [if_pos hw] at h
        refine Or.inl (Oper.wp_mono (fun a' w' h' => ?_) h)
        have hs : (listed.setIfInBounds i true).getD L false = false → S w' := fun hf => by
          rcases h1 with h1 | h1
          · exact (hLt h1 hf).elim
          · exact h'.1 h1
        exact ⟨hs, (wpT_sound hn hL hQ r _ a' w' (hc.set hr) (by simp [hsz]) hs h'.2).1 h3⟩
      · rename_i hw
        rw [if_neg hw] at h
        have hs : (listed.setIfInBounds i true).getD L false = false → S w := fun hf => hS (by
          by_cases e : i = L
          · exact (hLt e hf).elim
          · rw [getD_set_ne false e] at hf; exact hf)
        exact ⟨hs, (wpT_sound hn hL hQ r _ _ w (hc.set hr) (by simp [hsz]) hs h).1 h3⟩
    refine ⟨fun hb => ?_, fun hb j hj => ?_⟩
    · simp only [chkT, Bool.and_eq_true, Bool.false_or, beq_iff_eq] at hb
      obtain ⟨⟨⟨h1, h2⟩, h3⟩, h4⟩ := hb
      refine ⟨fun h0 => by (rw [h1] at h0; cases h0), fun j hj => ?_⟩
      obtain rfl : j = i := by rw [h1] at hj; simpa using hj
      exact key h2 h3 h4
    · simp only [chkT, Bool.and_eq_true] at hb
      obtain ⟨⟨⟨_, h2⟩, h3⟩, h4⟩ := hb
      obtain rfl : j = i := by simpa [Tr.heads] using hj
      exact key h2 h3 h4
  | .fork x y, listed, a, w, hc, hsz, hS, ⟨hx, hy⟩ => by
    have ix := (wpT_sound hn hL hQ x listed a w hc hsz hS hx).2
    have iy := (wpT_sound hn hL hQ y listed a w hc hsz hS hy).2
    have key : (x.depth == y.depth) = true → chkT ops L true x listed = true → chkT ops L true y listed = true → ∀ i ∈ x.heads ++ y.heads, wpOp P ops Q i (fun a' w' => ((listed.setIfInBounds i true).getD L false = false → S w') ∧ wpAnyL P ops Q S L (x.depth - 1) (listed.setIfInBounds i true) a' w') a w := fun hd h1 h2 i hi => by
      have hd : x.depth = y.depth := by simpa using hd
      rcases List.mem_append.1 hi with hi | hi
      · exact ix h1 i hi
      · rw [hd]; exact iy h2 i hi
    refine ⟨fun hb => ?_, fun hb => ?_⟩
    · simp only [chkT, Bool.and_eq_true, Bool.false_or] at hb
      obtain ⟨⟨⟨h1, h2⟩, h3⟩, h4⟩ := hb
      have h1 : Region.ready .any ops listed = x.heads ++ y.heads := by simpa using h1
      have hdep := chkT_depth x listed h3
      obtain ⟨n, hn'⟩ : ∃ n, x.depth = n + 1 := ⟨x.depth - 1, by omega⟩
      have k := key h2 h3 h4
      show wpAnyL P ops Q S L x.depth listed a w
      rw [hn'] at k ⊢
      have hne : x.heads ++ y.heads ≠ [] := by
        intro e
        exact chkT_heads x listed h3 (List.append_eq_nil_iff.1 e).1
      refine ⟨fun h0 => by (rw [h1] at h0; exact absurd h0 hne), fun j hj => ?_⟩
      rw [h1] at hj
      exact k j hj
    · simp only [chkT, Bool.and_eq_true] at hb
      obtain ⟨⟨⟨_, h2⟩, h3⟩, h4⟩ := hb
      exact key h2 h3 h4
theorem wp_region_tree {id : Nat} {a : Act} {w : World} (hm : P.follows .mixedOrders = true) (S : World → Prop) (L : Nat) (t : Tr) (hb : (Region.noSelect ops && (t.depth == ops.size) && decide (L < ops.size) && chkT ops L false t (Array.replicate ops.size false)) = true)
    (hS : S w.drew) (h : wpT P ops (NoPanic Q) S t a w.drew) : (Code.region id ops true).wp P Q a w := by
  simp only [Bool.and_eq_true, beq_iff_eq, decide_eq_true_eq] at hb
  obtain ⟨⟨⟨h1, h2⟩, h3⟩, h4⟩ := hb
  refine wp_region_noPanic (wp_region_any hm ?_)
  have hc : ClosedL ops (Array.replicate ops.size false) := fun k o ho hk => by
    have hk' := (Array.getElem?_eq_some_iff.1 ho).1
    simp [hk'] at hk
  have h5 := wpAny_of_L _ _ _ _ ((wpT_sound h1 h3 (fun _ _ _ _ _ h => h) t _ a _ hc (by simp) (fun _ => hS) h).1 h4)
  rw [h2] at h5
  exact h5
variable {r : Tr} {i : Nat} {o : Oper} {d : Option Tmp} {a : Act} {w : World}
theorem tr_end (h : Q .normal a w) : wpT P ops (NoPanic Q) S .nil a w := h
theorem tr_fork {x y : Tr} (h1 : wpT P ops Q S x a w) (h2 : wpT P ops Q S y a w) : wpT P ops Q S (.fork x y) a w := ⟨h1, h2⟩
theorem tr_q (ho : ops[i]? = some o) (hd : o.dst = d) (hw : Region.wanted o (yielded ops a.tmps) = true) (v : Value) (hy : ∀ w, (execOp a.eval o).run P w = .ok (.value v) w) (h : wpT P ops Q S r (a.put d v) w) : wpT P ops Q S (.q i 0 r) a w := by
  subst hd
  exact ⟨o, ho, v, Or.inl ⟨hw, fun w _ => hy w⟩, h⟩
theorem tr_s (ho : ops[i]? = some o) (hd : o.dst = d) (hw : Region.wanted o (yielded ops a.tmps) = true) (v : Value) (hy : ∀ w, S w → (execOp a.eval o).run P w = .ok (.value v) w) (h : wpT P ops Q S r (a.put d v) w) : wpT P ops Q S (.q i 1 r) a w := by
  subst hd
  exact ⟨o, ho, v, Or.inl ⟨hw, fun w hs => hy w (hs rfl)⟩, h⟩
theorem tr_wp (ho : ops[i]? = some o) (hw : Region.wanted o (yielded ops a.tmps) = true) (h : ∀ K : Act → World → Prop, (∀ a' w', (r.more = true → S w') → wpT P ops Q S r a' w' → K a' w') → Oper.wp P o a w K Q) : wpT P ops Q S (.e i r) a w :=
  ⟨o, ho, by rw [if_pos hw]; exact h _ (fun _ _ hs hr => ⟨hs, hr⟩)⟩
theorem tr_run (ho : ops[i]? = some o) (hd : o.dst = d) (hw : Region.wanted o (yielded ops a.tmps) = true) (v : Value) (w' : World) (hrun : (execOp a.eval o).run P w = .ok (.value v) w') (hS : r.more = true → S w') (h : wpT P ops Q S r (a.put d v) w') : wpT P ops Q S (.e i r) a w := by
  subst hd
  refine tr_wp ho hw fun K hK => ?_
  unfold Oper.wp
  rw [hrun]
  exact hK _ _ hS h
theorem tr_skip (ho : ops[i]? = some o) (hd : o.dst = d) (hw : Region.wanted o (yielded ops a.tmps) = true) (w' : World) (hrun : (execOp a.eval o).run P w = .ok .skip w') (hS : r.more = true → S w') (h : wpT P ops Q S r (a.put d undef) w') : wpT P ops Q S (.e i r) a w := by
  subst hd
  refine tr_wp ho hw fun K hK => ?_
  unfold Oper.wp
  rw [hrun]
  exact hK _ _ hS h
theorem tr_call (ho : ops[i]? = some o) (hd : o.dst = d) (hw : Region.wanted o (yielded ops a.tmps) = true) {f : FuncId} (hf : Has P f) (fo : Operand) (args : Array Operand) (ts : Array TypeId) (hop : o.op = .call { callee := .value fo, args := args, argTypes := ts }) (hfo : a.eval fo = .func (.func f) #[] #[]) (vs : List Value) (hv : args.toList.map a.eval = vs)
    {R : Ending → World → Prop} (hc : Calls P f vs.toArray w R) (h : ∀ e w', R e w' → ∃ v, e = .returned v ∧ (r.more = true → S w') ∧ wpT P ops Q S r (a.put d v) w') : wpT P ops Q S (.e i r) a w := by
  subst hd
  refine tr_wp ho hw fun K hK => ?_
  unfold Oper.wp
  rw [run_call hf fo args ts hop hfo vs hv, Oper.upon_enter]
  refine hc.mono fun e w' hr => ?_
  obtain ⟨v, rfl, h1, h2⟩ := h e w' hr
  exact hK _ _ h1 h2
theorem region_cut {id : Nat} {b : Bool} (R : Act → World → Prop) (h : (Code.region id ops b).wp P (fun e a w => e = .normal ∧ R a w) a w) (k : ∀ a w, R a w → Q .normal a w) : (Code.region id ops b).wp P Q a w :=
  Code.wp_mono (fun e a w ⟨he, hr⟩ => by subst he; exact k a w hr) h
end
end Go.Proofs.YtkpgciimhjkajaaGreatDoor
/- As SeqT, but the condition on the world is asked only until one operation has come. No program. -/
namespace Go.Proofs.YtkpgciimhjkajaaGreatDoor
open Go Go.RowKit
def Tr.has (L : Nat) : Tr → Bool
  | .nil => false
  | .q _ _ r => r.has L
  | .e i r => i == L || r.has L
  | .fork x _ => x.has L
section
variable {P : Program} {ops : Array Oper} {Q : Exit → Act → World → Prop} {S : World → Prop} {L : Nat}
def wpU (P : Program) (ops : Array Oper) (Q : Exit → Act → World → Prop) (S : World → Prop) (L : Nat) : Tr → Act → World → Prop
  | .nil, a, w => Q .normal a w
  | .q i f r, a, w => ∃ o, ops[i]? = some o ∧ ∃ v, YieldsIf P ops (fun w => f = 1 → S w) o v a ∧ wpU P ops Q S L r (a.put o.dst v) w
  | .e i r, a, w => ∃ o, ops[i]? = some o ∧ if Region.wanted o (yielded ops a.tmps) = true then Oper.wp P o a w (fun a' w' => (r.has L = true → S w') ∧ wpU P ops Q S L r a' w') Q else wpU P ops Q S L r (a.put o.dst undef) w
  | .fork x y, a, w => wpU P ops Q S L x a w ∧ wpU P ops Q S L y a w
def chkU (ops : Array Oper) (L : Nat) : Bool → Tr → Array Bool → Bool
  | fl, .nil, listed => !fl && (Region.ready .any ops listed).isEmpty
  | fl, .q i f r, listed => !fl && i != L && (f == 0 || (anc ops ops.size L).contains i) && Region.free .any ops listed i && (Region.ready .any ops listed).contains i && chkU ops L false r (listed.setIfInBounds i true)
  | fl, .e i r, listed => (fl || Region.ready .any ops listed == [i]) && (Region.ready .any ops listed).contains i && (i == L || listed.getD L false || r.has L) && chkU ops L false r (listed.setIfInBounds i true)
  | fl, .fork x y, listed => (fl || Region.ready .any ops listed == x.heads ++ y.heads) && (x.depth == y.depth) && chkU ops L true x listed && chkU ops L true y listed
theorem chkU_depth : ∀ (t : Tr) (listed : Array Bool), chkU ops L true t listed = true → 0 < t.depth
  | .nil, _, h => by simp [chkU] at h
  | .q _ _ _, _, h => by simp [chkU] at h
  | .e _ _, _, _ => Nat.succ_pos _
  | .fork x y, listed, h => by
    simp only [chkU, Bool.and_eq_true] at h
    exact chkU_depth x listed h.1.2
theorem chkU_heads : ∀ (t : Tr) (listed : Array Bool), chkU ops L true t listed = true → t.heads ≠ []
  | .nil, _, h => by simp [chkU] at h
  | .q _ _ _, _, h => by simp [chkU] at h
  | .e _ _, _, _ => by simp [Tr.heads]
  | .fork x y, listed, h => by
    simp only [chkU, Bool.and_eq_true] at h
    have := chkU_heads x listed h.1.2
    intro e
    exact this (List.append_eq_nil_iff.1 e).1
theorem wpU_sound (hn : Region.noSelect ops = true) (hL : L < ops.size) (hQ : ∀ c a d v w, Q (.panic c) (Act.put a d v) w → Q (.panic c) a w) : ∀ (t : Tr) (listed : Array Bool) (a : Act) (w : World), ClosedL ops listed → listed.size = ops.size → (listed.getD L false = false → S w) → wpU P ops Q S L t a w →
    (chkU ops L false t listed = true → wpAnyL P ops Q S L t.depth listed a w) ∧
    (chkU ops L true t listed = true → ∀ i ∈ t.heads, wpOp P ops Q i (fun a' w' => ((listed.setIfInBounds i true).getD L false = false → S w') ∧ wpAnyL P ops Q S L (t.depth - 1) (listed.setIfInBounds i true) a' w') a w)
  | .nil, listed, a, w, _, _, _, h => ⟨fun hb => ⟨by simpa [chkU] using hb, h⟩, fun hb => by simp [chkU] at hb⟩
  | .q i f r, listed, a, w, hc, hsz, hS, ⟨o, ho, v, hy, h⟩ => by
    refine ⟨fun hb => ?_, fun hb => by simp [chkU] at hb⟩
    simp only [chkU, Bool.and_eq_true, bne_iff_ne, Bool.or_eq_true, beq_iff_eq] at hb
    obtain ⟨⟨⟨⟨⟨_, h1⟩, h5⟩, h2⟩, h3⟩, h4⟩ := hb
    have hr : i ∈ Region.ready .any ops listed := by simpa using h3
    have hno : (listed.setIfInBounds i true).getD L false = false → listed.getD L false = false := fun h => by rw [getD_set_ne false h1] at h; exact h
    have hun : f = 1 → ∀ listed : Array Bool, ClosedL ops listed → listed.size = ops.size → i ∈ Region.ready .any ops listed → listed.getD L false = false ∧ L ∉ Region.ready .any ops listed := fun hf1 listed hc hsz hi => by
      have ha : i ∈ anc ops ops.size L := by
        rcases h5 with h5 | h5
        · omega
        · simpa using h5
      have h0 := (mem_ready.1 hi).1
      have hf : listed.getD i false = false := by
        have hlt : i < listed.size := by
          rcases Nat.lt_or_ge i listed.size with h | h
          · exact h
          · simp [Array.getElem?_eq_none h] at h0
        simp [hlt] at h0 ⊢; exact h0
      have hoL : ops[L]? = some ops[L] := Array.getElem?_eq_getElem hL
      refine ⟨?_, fun hLr => ?_⟩
      · cases hq : listed.getD L false with
        | false => rfl
        | true =>
          have := anc_listed hc ops.size L _ hoL (hc L _ hoL hq) hsz i ha
          rw [hf] at this; cases this
      · obtain ⟨_, oL, hoL', hall⟩ := mem_ready.1 hLr
        have := anc_listed hc ops.size L _ hoL' hall hsz i ha
        rw [hf] at this; cases this
    have hSw : f = 1 → S w := fun hf1 => hS (hun hf1 listed hc hsz hr).1
    have ih := wpU_sound hn hL hQ r (listed.setIfInBounds i true) (a.put o.dst v) w (hc.set hr) (by simp [hsz]) (fun h => hS (hno h)) h
    exact wpAnyL_first (T := fun w => f = 1 → S w) h1 ho (Region.noSelect_spec hn) (fun c a w => hQ c a _ _ w) (fun j listed w' hc hsz hj hi hji hS' hf1 => hS' (by
        have h6 := hun hf1 listed hc hsz hi
        have hjL : j ≠ L := fun e => h6.2 (e ▸ hj)
        rw [getD_set_ne false hjL]; exact h6.1)) r.depth listed a w (Region.free_spec ho h2) hc hsz hr hy hSw (fun h => hS (hno h)) (ih.1 h4)
  | .e i r, listed, a, w, hc, hsz, hS, ⟨o, ho, h⟩ => by
    have key : (Region.ready .any ops listed).contains i = true → (i == L || listed.getD L false || r.has L) = true → chkU ops L false r (listed.setIfInBounds i true) = true → wpOp P ops Q i (fun a' w' => ((listed.setIfInBounds i true).getD L false = false → S w') ∧ wpAnyL P ops Q S L r.depth (listed.setIfInBounds i true) a' w') a w := fun hr0 h1 h3 => by
      have hr : i ∈ Region.ready .any ops listed := by simpa using hr0
      have h1 : (i = L ∨ listed.getD L false = true) ∨ r.has L = true := by simpa only [Bool.or_eq_true, beq_iff_eq] using h1
      have hLt : i = L → (listed.setIfInBounds i true).getD L false = false → False := fun e hf => by
        subst e
        have : i < listed.size := by omega
        simp [this] at hf
      unfold wpOp
      rw [ho]
      simp only
      split
      · rename_i hw
        rw [if_pos hw] at h
        refine Or.inl (Oper.wp_mono (fun a' w' h' => ?_) h)
        have hs : (listed.setIfInBounds i true).getD L false = false → S w' := fun hf => by
          rcases h1 with (h1 | h1) | h1
          · exact (hLt h1 hf).elim
          · rw [getD_set_true h1] at hf; cases hf
          · exact h'.1 h1
        exact ⟨hs, (wpU_sound hn hL hQ r _ a' w' (hc.set hr) (by simp [hsz]) hs h'.2).1 h3⟩
      · rename_i hw
        rw [if_neg hw] at h
        have hs : (listed.setIfInBounds i true).getD L false = false → S w := fun hf => hS (by
          by_cases e : i = L
          · exact (hLt e hf).elim
          · rw [getD_set_ne false e] at hf; exact hf)
        exact ⟨hs, (wpU_sound hn hL hQ r _ _ w (hc.set hr) (by simp [hsz]) hs h).1 h3⟩
    refine ⟨fun hb => ?_, fun hb j hj => ?_⟩
    · simp only [chkU, Bool.and_eq_true, Bool.false_or, beq_iff_eq] at hb
      obtain ⟨⟨⟨h1, h2⟩, h3⟩, h4⟩ := hb
      refine ⟨fun h0 => by (rw [h1] at h0; cases h0), fun j hj => ?_⟩
      obtain rfl : j = i := by rw [h1] at hj; simpa using hj
      exact key h2 h3 h4
    · simp only [chkU, Bool.and_eq_true] at hb
      obtain ⟨⟨⟨_, h2⟩, h3⟩, h4⟩ := hb
      obtain rfl : j = i := by simpa [Tr.heads] using hj
      exact key h2 h3 h4
  | .fork x y, listed, a, w, hc, hsz, hS, ⟨hx, hy⟩ => by
    have ix := (wpU_sound hn hL hQ x listed a w hc hsz hS hx).2
    have iy := (wpU_sound hn hL hQ y listed a w hc hsz hS hy).2
    have key : (x.depth == y.depth) = true → chkU ops L true x listed = true → chkU ops L true y listed = true → ∀ i ∈ x.heads ++ y.heads, wpOp P ops Q i (fun a' w' => ((listed.setIfInBounds i true).getD L false = false → S w') ∧ wpAnyL P ops Q S L (x.depth - 1) (listed.setIfInBounds i true) a' w') a w := fun hd h1 h2 i hi => by
      have hd : x.depth = y.depth := by simpa using hd
      rcases List.mem_append.1 hi with hi | hi
      · exact ix h1 i hi
      · rw [hd]; exact iy h2 i hi
    refine ⟨fun hb => ?_, fun hb => ?_⟩
    · simp only [chkU, Bool.and_eq_true, Bool.false_or] at hb
      obtain ⟨⟨⟨h1, h2⟩, h3⟩, h4⟩ := hb
      have h1 : Region.ready .any ops listed = x.heads ++ y.heads := by simpa using h1
      have hdep := chkU_depth x listed h3
      obtain ⟨n, hn'⟩ : ∃ n, x.depth = n + 1 := ⟨x.depth - 1, by omega⟩
      have k := key h2 h3 h4
      show wpAnyL P ops Q S L x.depth listed a w
      rw [hn'] at k ⊢
      have hne : x.heads ++ y.heads ≠ [] := by
        intro e
        exact chkU_heads x listed h3 (List.append_eq_nil_iff.1 e).1
      refine ⟨fun h0 => by (rw [h1] at h0; exact absurd h0 hne), fun j hj => ?_⟩
      rw [h1] at hj
      exact k j hj
    · simp only [chkU, Bool.and_eq_true] at hb
      obtain ⟨⟨⟨_, h2⟩, h3⟩, h4⟩ := hb
      exact key h2 h3 h4
variable {r : Tr} {i : Nat} {o : Oper} {d : Option Tmp} {a : Act} {w : World}
theorem tu_fork {x y : Tr} (h1 : wpU P ops Q S L x a w) (h2 : wpU P ops Q S L y a w) : wpU P ops Q S L (.fork x y) a w := ⟨h1, h2⟩
theorem tu_q (ho : ops[i]? = some o) (hd : o.dst = d) (hw : Region.wanted o (yielded ops a.tmps) = true) (v : Value) (hy : ∀ w, (execOp a.eval o).run P w = .ok (.value v) w) (h : wpU P ops Q S L r (a.put d v) w) : wpU P ops Q S L (.q i 0 r) a w := by
  subst hd
  exact ⟨o, ho, v, Or.inl ⟨hw, fun w _ => hy w⟩, h⟩
theorem tu_s (ho : ops[i]? = some o) (hd : o.dst = d) (hw : Region.wanted o (yielded ops a.tmps) = true) (v : Value) (hy : ∀ w, S w → (execOp a.eval o).run P w = .ok (.value v) w) (h : wpU P ops Q S L r (a.put d v) w) : wpU P ops Q S L (.q i 1 r) a w := by
  subst hd
  exact ⟨o, ho, v, Or.inl ⟨hw, fun w hs => hy w (hs rfl)⟩, h⟩
theorem tu_wp (ho : ops[i]? = some o) (hw : Region.wanted o (yielded ops a.tmps) = true) (h : ∀ K : Act → World → Prop, (∀ a' w', (r.has L = true → S w') → wpU P ops Q S L r a' w' → K a' w') → Oper.wp P o a w K Q) : wpU P ops Q S L (.e i r) a w :=
  ⟨o, ho, by rw [if_pos hw]; exact h _ (fun _ _ hs hr => ⟨hs, hr⟩)⟩
theorem tu_run (ho : ops[i]? = some o) (hd : o.dst = d) (hw : Region.wanted o (yielded ops a.tmps) = true) (v : Value) (w' : World) (hrun : (execOp a.eval o).run P w = .ok (.value v) w') (hS : r.has L = true → S w') (h : wpU P ops Q S L r (a.put d v) w') : wpU P ops Q S L (.e i r) a w := by
  subst hd
  refine tu_wp ho hw fun K hK => ?_
  unfold Oper.wp
  rw [hrun]
  exact hK _ _ hS h
theorem tu_skip (ho : ops[i]? = some o) (hd : o.dst = d) (hw : Region.wanted o (yielded ops a.tmps) = true) (w' : World) (hrun : (execOp a.eval o).run P w = .ok .skip w') (hS : r.has L = true → S w') (h : wpU P ops Q S L r (a.put d undef) w') : wpU P ops Q S L (.e i r) a w := by
  subst hd
  refine tu_wp ho hw fun K hK => ?_
  unfold Oper.wp
  rw [hrun]
  exact hK _ _ hS h
end
section
variable {P : Program} {ops : Array Oper} {Q : Exit → Act → World → Prop} {l n : Nat}
theorem wpIn_region_treeU {id : Nat} {a : Act} {w : World} (hm : P.follows .mixedOrders = true) (S : World → Prop) (L : Nat) (t : Tr) (hb : (noDefer ops && Region.noSelect ops && (t.depth == ops.size) && decide (L < ops.size) && chkU ops L false t (Array.replicate ops.size false)) = true)
    (hS : S w.drew) (h : wpU P ops (NoPanic (OnlyN Q)) S L t a w.drew) : (Code.region id ops true).wpIn (Fence.wide.inRound l) n P Q a w := by
  simp only [Bool.and_eq_true, beq_iff_eq, decide_eq_true_eq] at hb
  obtain ⟨⟨⟨⟨h0, h1⟩, h2⟩, h3⟩, h4⟩ := hb
  refine wpIn_mono (wpIn_region_any hm ?_) OnlyN.imp
  have hc : ClosedL ops (Array.replicate ops.size false) := fun k o ho hk => by
    have hk' := (Array.getElem?_eq_some_iff.1 ho).1
    simp [hk'] at hk
  have h5 := wpAny_of_L _ _ _ _ ((wpU_sound h1 h3 (fun _ _ _ _ _ h => h) t _ a _ hc (by simp) (fun _ => hS) h).1 h4)
  rw [h2] at h5
  exact wpAny_in h0 OnlyN.lets _ _ _ _ h5
theorem tu_endN {S : World → Prop} {L : Nat} {a : Act} {w : World} (h : Q .normal a w) : wpU P ops (NoPanic (OnlyN Q)) S L .nil a w := h
end
end Go.Proofs.YtkpgciimhjkajaaGreatDoor
/- The program's flux: two lists that grow side by side; a range over edges whose assignment has two parts. -/
namespace Go.Proofs.YtkpgciimhjkajaaGreatDoor
open Go Go.RowKit Go.Shelf
theorem OwnI.of_grown {w w' : World} {base : Nat} {v : Value} {l : List Int} {row : Option Nat} (h : OwnI w base v l) (hg : w.grownBy w' row) (hr : ∀ r, row = some r → v.ownBlock ≠ some r) : OwnI w' base v l := by
  refine ⟨h.1, ?_⟩
  rcases h.2 with e | ⟨g, cap, cur, e, hgb, hh, r⟩
  · exact Or.inl e
  · exact Or.inr ⟨g, cap, cur, e, hgb, by rw [hg.block g (Array.getElem?_eq_some_iff.1 hh).1 (fun e' => hr g e'.symm (by rw [e]; rfl))]; exact hh, r⟩
theorem OwnI.cells {w : World} {base : Nat} {v : Value} {l : List Int} (h : OwnI w base v l) {g : Nat} (hg : v.ownBlock = some g) : ∃ cs fr, w.heap[g]? = some (Obj.cells cs 3 fr) := by
  rcases h.2 with ⟨e, _⟩ | ⟨g', cap, cur, e, hgb, hh, r⟩
  · rw [e] at hg; simp [Value.ownBlock] at hg
  · rw [e] at hg
    have : g' = g := by simpa [Value.ownBlock] using hg
    subst this
    exact ⟨_, _, hh⟩
theorem append_atI {W : World} {base : Nat} {v : Value} {l : List Int} (T ty : TypeId) (hT : Tryz.prog.underlying T = some (.slice 3)) (h : OwnI W base v l) (k : Nat) (x : Int) (hk : W.heap[k]? = some (.cells #[.int .i64 x] 3 (0, 0))) (hn : l.length ≤ 1000000) (hb : base ≤ W.heap.size) :
    ∃ (a : Option Addr) (n c : Nat) (w' : World), (Builtin.append_ #[T, T] ty #[v, .slice (some ⟨k, 0, none⟩) 1 1]).run Tryz.prog W = .ok (.slice a n c) w' ∧ OwnI w' base (.slice a n c) (l ++ [x]) ∧ W.grownBy w' v.ownBlock ∧
      (∀ g, (Value.slice a n c).ownBlock = some g → v.ownBlock = some g ∨ W.heap.size ≤ g) := by
  obtain ⟨i0, hinf, hz0, hz1, hz2⟩ := info_parts iinfo
  obtain ⟨v', w', h1, h2, h3, _, h5⟩ := run_append_own_at (P := Tryz.prog) _ base T ty 3 i0 _ 1 8 hT hinf hz0 hz1 hz2 rfl (by omega)
    v l.length (ics l) h ⟨k, 0, none⟩ 1 1 [.int .i64 x] rfl
    (World.news_of_block (cs := #[.int .i64 x]) (t := 3) (fr := (0, 0)) hk)
    (by intro u hu; simp at hu; subst hu; rfl) (by unfold maxLen; omega) (by omega) hb
  have h2' : OwnI w' base v' (l ++ [x]) := by
    unfold OwnI
    rw [List.length_append]
    have e : ics (l ++ [x]) = ics l ++ [.int .i64 x] := by simp [ics]
    rw [e]; exact h2
  obtain ⟨a, c, rfl⟩ := h2'.slice
  refine ⟨a, _, c, w', h1, h2', h3, fun g hg => ?_⟩
  rcases h5 with h5 | h5
  · exact Or.inl (by rw [← h5]; exact hg)
  · right
    rw [h5] at hg
    injection hg with hg
    omega
structure Md (ta tb : TypeId) (W : World) (base ab bb : Nat) (ca cb av bv : Value) (al bl : List Int) : Prop where
  xa : Boxed W ab ta ca
  xb : Boxed W bb tb cb
  oa : OwnI W base av al
  ob : OwnI W base bv bl
  ap : ∀ g, av.ownBlock = some g → bv.ownBlock ≠ some g
  lo : ab < base ∧ bb < base ∧ ab ≠ bb ∧ base ≤ W.heap.size
theorem Md.swap {ta tb : TypeId} {W : World} {base ab bb : Nat} {ca cb av bv : Value} {al bl : List Int} (h : Md ta tb W base ab bb ca cb av bv al bl) : Md tb ta W base bb ab cb ca bv av bl al :=
  ⟨h.xb, h.xa, h.ob, h.oa, fun g h1 h2 => h.ap g h2 h1, h.lo.2.1, h.lo.1, fun e => h.lo.2.2.1 e.symm, h.lo.2.2.2⟩
theorem Md.below {ta tb : TypeId} {W W' : World} {base ab bb : Nat} {ca cb av bv : Value} {al bl : List Int} (h : Md ta tb W base ab bb ca cb av bv al bl) (hb : Below W.heap.size W W') : Md ta tb W' base ab bb ca cb av bv al bl :=
  ⟨(hb.block _ h.xa.lt).trans h.xa, (hb.block _ h.xb.lt).trans h.xb, h.oa.below hb, h.ob.below hb, h.ap, h.lo.1, h.lo.2.1, h.lo.2.2.1, Nat.le_trans h.lo.2.2.2 hb.size⟩
structure Kp2 (base ab bb : Nat) (W W' : World) : Prop where
  oth : KOth W W'
  same : ∀ k, k < base → k ≠ ab → k ≠ bb → W'.heap[k]? = W.heap[k]?
theorem Kp2.trans {base ab bb : Nat} {A B C : World} (h : Kp2 base ab bb A B) (k : Kp2 base ab bb B C) : Kp2 base ab bb A C := ⟨h.oth.trans k.oth, fun i h1 h2 h3 => (k.same i h1 h2 h3).trans (h.same i h1 h2 h3)⟩
theorem Kp2.below {base ab bb : Nat} {W W' : World} (h : Below W.heap.size W W') (hb : base ≤ W.heap.size) : Kp2 base ab bb W W' := ⟨KOth.below h, fun k hk _ _ => h.block k (by omega)⟩
theorem Kp2.swap {base ab bb : Nat} {W W' : World} (h : Kp2 base ab bb W W') : Kp2 base bb ab W W' := ⟨h.oth, fun k h1 h2 h3 => h.same k h1 h3 h2⟩
theorem Kp2.from {α : Type} {base ab bb : Nat} {W0 : World} (hb : W0.heap.size = base) : OwnFrom base (fun (_ : α) W => Kp2 base ab bb W0 W) := fun _ W W' row hs hg hr => by
  have hk : ∀ k, k < base → W'.heap[k]? = W.heap[k]? := fun k hk => hg.block k (by have := hs.oth.size; omega) (fun e => by have := (hr k e.symm).1; omega)
  refine ⟨⟨Nat.le_trans hs.oth.size hg.size, fun k o h1 h2 => ?_⟩, fun k h1 h2 h3 => (hk k h1).trans (hs.same k h1 h2 h3)⟩
  rw [hk k (by have := (Array.getElem?_eq_some_iff.1 h1).1; omega)]
  exact hs.oth.same k o h1 h2
theorem Md.from {α : Type} {ta tb : TypeId} {base ab bb : Nat} {f : α → List Int} (hl : ab < base ∧ bb < base) :
    OwnFrom base (fun s W => ∃ av bv bl, Md ta tb W base ab bb av bv av bv (f s) bl ∧ bl.length = (f s).length) := fun s W W' row ⟨av, bv, bl, hs, hbl⟩ hg hr => by
  have hk : ∀ k, k < base → W'.heap[k]? = W.heap[k]? := fun k hk => hg.block k (by have := hs.lo.2.2.2; omega) (fun e => by have := (hr k e.symm).1; omega)
  have hc : ∀ (v : Value) (l : List Int), OwnI W base v l → ∀ r, row = some r → v.ownBlock ≠ some r := fun v l hv r h1 h2 => by
    obtain ⟨cs, fr, h3⟩ := hv.cells h2
    obtain ⟨_, o, h4, h5⟩ := hr r h1
    rw [h3] at h4; injection h4 with h4; rw [← h4] at h5; cases h5
  exact ⟨av, bv, bl, ⟨(hk _ hl.1).trans hs.xa, (hk _ hl.2).trans hs.xb, hs.oa.of_grown hg (hc _ _ hs.oa), hs.ob.of_grown hg (hc _ _ hs.ob), hs.ap, hs.lo.1, hs.lo.2.1, hs.lo.2.2.1, Nat.le_trans hs.lo.2.2.2 hg.size⟩, hbl⟩
theorem Md.app {ta tb : TypeId} {W : World} {base ab bb : Nat} {ca cb av bv : Value} {al bl : List Int} (h : Md ta tb W base ab bb ca cb av bv al bl) (T ty : TypeId) (hT : Tryz.prog.underlying T = some (.slice 3)) (k : Nat) (x : Int) (hk : W.heap[k]? = some (.cells #[.int .i64 x] 3 (0, 0))) (hn : al.length ≤ 1000000) :
    ∃ (a : Option Addr) (n c : Nat) (w' : World), (Builtin.append_ #[T, T] ty #[av, .slice (some ⟨k, 0, none⟩) 1 1]).run Tryz.prog W = .ok (.slice a n c) w' ∧ Md ta tb w' base ab bb ca cb (.slice a n c) bv (al ++ [x]) bl ∧ Below base W w' ∧ Kp2 base ab bb W w' ∧
      (∀ j, j < W.heap.size → av.ownBlock ≠ some j → w'.heap[j]? = W.heap[j]? ∧ (Value.slice a n c).ownBlock ≠ some j) := by
  obtain ⟨a, n, c, w', h1, h2, h3, h4⟩ := append_atI T ty hT h.oa k x hk hn h.lo.2.2.2
  have hbw : Below base W w' := (Below.refl _ _).grown h3 h.lo.2.2.2 (fun j hj => (h.oa.lt j hj).1)
  have hot : KOth W w' := KOth.grown h3 (fun j hj => by
    obtain ⟨cs, fr, hc⟩ := h.oa.cells hj
    exact ⟨cs, _, fr, hc, by decide⟩)
  refine ⟨a, n, c, w', h1, ⟨(hbw.block _ h.lo.1).trans h.xa, (hbw.block _ h.lo.2.1).trans h.xb, h2, h.ob.of_grown h3 (fun r hr => h.ap r hr), fun g hg hb => ?_, h.lo.1, h.lo.2.1, h.lo.2.2.1, Nat.le_trans h.lo.2.2.2 hbw.size⟩, hbw, ⟨hot, fun j hj _ _ => hbw.block j hj⟩, fun j hj hv => ⟨h3.block j hj (fun e => hv e.symm), fun e => ?_⟩⟩
  · rcases h4 g hg with h6 | h6
    · exact h.ap g h6 hb
    · have := (h.ob.lt g hb).2; omega
  · rcases h4 j e with h6 | h6
    · exact hv h6
    · omega
theorem Md.store {ta tb : TypeId} {W : World} {base ab bb : Nat} {ca cb av bv : Value} {al bl : List Int} (h : Md ta tb W base ab bb ca cb av bv al bl) (ht : ta ≠ 95) (v : Value) : Md ta tb (W.setCell ⟨ab, 0, none⟩ v) base ab bb v cb av bv al bl ∧ Kp2 base ab bb W (W.setCell ⟨ab, 0, none⟩ v) ∧ Below ab W (W.setCell ⟨ab, 0, none⟩ v) := by
  have ho : ∀ k, k ≠ ab → (W.setCell ⟨ab, 0, none⟩ v).heap[k]? = W.heap[k]? := fun k hk => Below.heap_setCell _ _ _ _ (by simpa using hk)
  have hl := h.lo
  refine ⟨⟨h.xa.set v, (ho _ (fun e => hl.2.2.1 e.symm)).trans h.xb, ⟨h.oa.1, ?_⟩, ⟨h.ob.1, ?_⟩, h.ap, hl.1, hl.2.1, hl.2.2.1, by simp [World.setCell]; exact hl.2.2.2⟩, ⟨KOth.setCell h.xa ht 0 v, fun k _ h2 _ => ho k h2⟩, (Below.refl ab W).setCell (p := ⟨ab, 0, none⟩) (Nat.le_refl _) v⟩
  · rcases h.oa.2 with e | ⟨g, cap, cur, e, hg, hh, r⟩
    · exact Or.inl e
    · exact Or.inr ⟨g, cap, cur, e, hg, by rw [ho g (by omega)]; exact hh, r⟩
  · rcases h.ob.2 with e | ⟨g, cap, cur, e, hg, hh, r⟩
    · exact Or.inl e
    · exact Or.inr ⟨g, cap, cur, e, hg, by rw [ho g (by omega)]; exact hh, r⟩
set_option maxHeartbeats 4000000 in
theorem range_edges2 {n0 : Nat} (hn : Fq n0) {m : Nat} (hm : 4 ≤ m) {g : Operand} {p1 p2 pi be id0 id : Nat} {o0 o1 o2 : Oper} {body : Code} {Q : Exit → Act → World → Prop} {a : Act} {w : World} {Bs : Nat}
    (hgf : a.eval g = .func (.func 124) #[] #[.pointer (some ⟨Bs, 0, none⟩)])
    (h0' : o0.op = .assign (.tmp p1) ∧ o0.dst = some pi ∧ o0.guard = none) (h1 : o1.op = .alloc 95 ∧ o1.dst = some be ∧ o1.guard = none) (h2 : o2.op = .store 95 (.tmp be) (.tmp p2) ∧ o2.dst = none ∧ o2.guard = none)
    (hz : p2 < a.tmps.size ∧ be < a.tmps.size ∧ p2 ≠ be) (hz' : p1 < a.tmps.size ∧ p1 ≠ p2 ∧ p2 ≠ pi)
    (hBs : Bs < w.heap.size) (hc : w.cell? ⟨Bs, 0, none⟩ = some (.int .i64 n0)) (hcr : Crn w) (hg : 0 < w.heap.size)
    (I : List (Fin (edgesN n0).length) → World → Prop) (hI : OwnFrom w.heap.size I) (hIs : ∀ pre W, I pre W → w.heap.size ≤ W.heap.size) (h0 : I [] w)
    (hbody : ∀ (l : Nat) (pre : List (Fin (edgesN n0).length)) (x : Fin (edgesN n0).length) (eb : Nat) (W : World), w.heap.size ≤ eb → RowAt W eb [.int .i64 ((edgesN n0)[x.1].1 : Int), .int .i64 ((edgesN n0)[x.1].2 : Int)] → I pre W → pre.length < (edgesN n0).length →
      body.wpIn (Fence.wide.inRound l) (m - 1 - 1) Tryz.prog (ownPostG w.heap.size KpE I (fun _ _ _ => False) (pre ++ [x]) W) { tmps := (((a.tmps.setIfInBounds p1 (.int .i64 (x.1 : Int))).setIfInBounds p2 (.agg #[.int .i64 ((edgesN n0)[x.1].1 : Int), .int .i64 ((edgesN n0)[x.1].2 : Int)])).setIfInBounds pi (.int .i64 (x.1 : Int))).setIfInBounds be (.pointer (some ⟨eb, 0, none⟩)), defers := [] } W)
    (hdone : ∀ (D : Nat) (W : World), w.heap.size ≤ D → I (List.finRange (edgesN n0).length) W → W.heap[D]? = some (.deferred (some [])) → Q .normal { a with defers := { target := .collected D, args := #[] } :: a.defers } W) :
    (Code.rangeFunc g #[p1, p2] ((Code.region id0 #[o0] false).seq (Code.region id #[o1, o2] false)) body).wpIn Fence.wide m Tryz.prog Q a w := by
  refine wpIn_rangeFunc_ownH rfl (by omega) (gf := 124) (lb := #[.pointer (some ⟨Bs, 0, none⟩)]) hgf trivial (enters_of Tryz.func124 (by kernel_rfl) rfl)
    (edges_stops n0 hn (m - 1) (by omega) Bs w hBs hc hcr hg) KpE.trans KpE.put (Below.refl _ _) (fun _ => rfl) I (fun _ _ _ => False) hI (fun _ _ _ _ _ h _ _ => h) h0
    (fun x a' W => ∃ eb, w.heap.size ≤ eb ∧ eb < W.heap.size ∧ RowAt W eb [.int .i64 ((edgesN n0)[x.1].1 : Int), .int .i64 ((edgesN n0)[x.1].2 : Int)] ∧
      a' = { tmps := (((a.tmps.setIfInBounds p1 (.int .i64 (x.1 : Int))).setIfInBounds p2 (.agg #[.int .i64 ((edgesN n0)[x.1].1 : Int), .int .i64 ((edgesN n0)[x.1].2 : Int)])).setIfInBounds pi (.int .i64 (x.1 : Int))).setIfInBounds be (.pointer (some ⟨eb, 0, none⟩)), defers := [] })
    ?hAx ?assign ?body ?done ?stop
  case hAx =>
    rintro x a' _ W W' row ⟨eb, h1, h2, h3, h5⟩ hgr hr
    obtain ⟨ox, h4, hcx⟩ := cells_of_cell (h3.at 0 rfl)
    have hb : W'.heap[eb]? = W.heap[eb]? := hgr.block eb h2 (fun e => by
      obtain ⟨_, o, ho, hoc⟩ := hr eb e.symm
      have h4 : W.heap[eb]? = some ox := h4
      rw [h4] at ho; injection ho with ho; rw [← ho, hcx] at hoc; cases hoc)
    exact ⟨eb, h1, Nat.lt_of_lt_of_le h2 hgr.size, h3.of_block hb, h5⟩
  case assign =>
    intro l pre x W K hi hK
    obtain ⟨h11, h12, h13⟩ := h1
    obtain ⟨h21, h22, h23⟩ := h2
    obtain ⟨h01, h02, h03⟩ := h0'
    refine wpIn_seq (wpIn_region ?_)
    show wpOpsIn _ _ _ _ _ [0] _ _
    refine opIn_val (o := o0) rfl h03 (by rw [h01]; intro c hc; cases hc) (v := .int .i64 (x.1 : Int)) (w' := W) ?_ ?_
    · unfold execOp
      have hx : Act.eval { tmps := (#[p1, p2].zip (eenc (edgesN n0) x)).foldl (fun t (p, v) => t.setIfInBounds p v) a.tmps, defers := [] } (.tmp p1) = .int .i64 (x.1 : Int) := by
        simp [Act.eval, eenc, hz'.1, Array.getElem_setIfInBounds_ne, Ne.symm hz'.2.1]
      simp only [h01, hx]
      simp [go_sem]
    rw [h02]
    show (Code.region id #[o1, o2] false).wpIn _ _ _ _ _ _
    refine wpIn_region ?_
    show wpOpsIn _ _ _ _ _ [0, 1] _ _
    have hRn : RowAt (W.alloc (.cells #[.int .i64 0, .int .i64 0] 95)) W.heap.size [.int .i64 0, .int .i64 0] := RowAt.new W [.int .i64 0, .int .i64 0] (by simp) _ rfl
    obtain ⟨w', hrun, hR', hA⟩ := run_row_store (cs' := [.int .i64 ((edgesN n0)[x.1].1 : Int), .int .i64 ((edgesN n0)[x.1].2 : Int)]) hRn rfl rowT_ed (by intro v hv; simp at hv; rcases hv with rfl | rfl <;> rfl)
    have hbw : Below W.heap.size W w' := ((Below.refl _ W).alloc (Nat.le_refl _) _).trans (hA.below (Nat.le_refl _))
    refine opIn_val (o := o1) rfl h13 (by rw [h11]; intro c hc; cases hc) (v := .pointer (some ⟨W.heap.size, 0, none⟩)) (w' := W.alloc (.cells #[.int .i64 0, .int .i64 0] 95)) ?_ ?_
    · unfold execOp
      simp only [h11]
      simp [go_sem]
    · rw [h12]
      refine opIn_skip (o := o2) rfl h23 (by rw [h21]; intro c hc; cases hc) (w' := w') ?_ ?_
      · unfold execOp
        have hx : Act.eval (Act.put (Act.put { tmps := (#[p1, p2].zip (eenc (edgesN n0) x)).foldl (fun t (p, v) => t.setIfInBounds p v) a.tmps, defers := [] } (some pi) (.int .i64 (x.1 : Int))) (some be) (.pointer (some ⟨W.heap.size, 0, none⟩))) (.tmp be) = .pointer (some ⟨W.heap.size, 0, none⟩) := by
          simp [Act.eval, Act.put, eenc, hz.2.1]
        have hy : Act.eval (Act.put (Act.put { tmps := (#[p1, p2].zip (eenc (edgesN n0) x)).foldl (fun t (p, v) => t.setIfInBounds p v) a.tmps, defers := [] } (some pi) (.int .i64 (x.1 : Int))) (some be) (.pointer (some ⟨W.heap.size, 0, none⟩))) (.tmp p2) = .agg #[.int .i64 ((edgesN n0)[x.1].1 : Int), .int .i64 ((edgesN n0)[x.1].2 : Int)] := by
          simp [Act.eval, Act.put, eenc, hz.1, hz.2.2, Array.getElem_setIfInBounds_ne, Ne.symm hz.2.2, Ne.symm hz'.2.2]
        have hrun' : (Instr.storeAt 95 (.pointer (some ⟨W.heap.size, 0, none⟩)) (.agg #[.int .i64 ((edgesN n0)[x.1].1 : Int), .int .i64 ((edgesN n0)[x.1].2 : Int)])).run Tryz.prog (W.alloc (.cells #[.int .i64 0, .int .i64 0] 95)) = .ok () w' := hrun
        simp only [h21, hx, hy, Sem.run_bind, hrun', Result.andThen_ok, Sem.run_pure]
      · rw [h22]
        refine hK _ _ (KOth.below hbw |>.from _) (KpE.below hbw) ?_ ⟨W.heap.size, ?_, hR'.lt, hR', by simp [Act.put, eenc]⟩
        · exact hI _ _ _ none hi (grown_of_below hbw) (fun r e => by cases e)
        · exact hIs _ _ hi
  case body =>
    rintro l pre x a' W _ _ hi ⟨eb, h1, _, h3, rfl⟩ hlt
    exact hbody l pre x eb W h1 h3 hi hlt
  case done =>
    rintro D xs W hD rfl hi hK
    exact hdone D W hD hi hK
  case stop =>
    rintro D c pre W _ _ h _
    exact h.elim
end Go.Proofs.YtkpgciimhjkajaaGreatDoor
/- The program's flux: what is known between two operations of a region that appends to two lists. -/
namespace Go.Proofs.YtkpgciimhjkajaaGreatDoor
open Go Go.RowKit Go.Shelf
structure Rd (ta tb : TypeId) (W0 W : World) (base ab bb lm : Nat) (ca cb av bv : Value) (al bl : List Int) (la lb : Int) (ka kb : Option (Nat × Int)) : Prop where
  md : Md ta tb W base ab bb ca cb av bv al bl
  kp : Kp2 base ab bb W0 W
  be : Below base W0 W
  lr : RowAt W lm [.int .i64 la, .int .i64 lb] ∧ av.ownBlock ≠ some lm ∧ bv.ownBlock ≠ some lm
  xa : ∀ k x, ka = some (k, x) → W.heap[k]? = some (.cells #[.int .i64 x] 3 (0, 0)) ∧ av.ownBlock ≠ some k ∧ bv.ownBlock ≠ some k
  xb : ∀ k x, kb = some (k, x) → W.heap[k]? = some (.cells #[.int .i64 x] 3 (0, 0)) ∧ av.ownBlock ≠ some k ∧ bv.ownBlock ≠ some k
variable {ta tb : TypeId} {W0 W : World} {base ab bb lm : Nat} {ca cb av bv : Value} {al bl : List Int} {la lb : Int} {ka kb : Option (Nat × Int)}
theorem Rd.swap (h : Rd ta tb W0 W base ab bb lm ca cb av bv al bl la lb ka kb) : Rd tb ta W0 W base bb ab lm cb ca bv av bl al la lb kb ka :=
  ⟨h.md.swap, h.kp.swap, h.be, ⟨h.lr.1, h.lr.2.2, h.lr.2.1⟩, fun k x e => by obtain ⟨h1, h2, h3⟩ := h.xb k x e; exact ⟨h1, h3, h2⟩, fun k x e => by obtain ⟨h1, h2, h3⟩ := h.xa k x e; exact ⟨h1, h3, h2⟩⟩
theorem Rd.below {W' : World} (h : Rd ta tb W0 W base ab bb lm ca cb av bv al bl la lb ka kb) (hb : Below W.heap.size W W') : Rd ta tb W0 W' base ab bb lm ca cb av bv al bl la lb ka kb :=
  ⟨h.md.below hb, h.kp.trans (Kp2.below hb h.md.lo.2.2.2), h.be.trans (hb.mono h.md.lo.2.2.2), ⟨h.lr.1.below hb, h.lr.2⟩,
    fun k x e => by obtain ⟨h1, h2⟩ := h.xa k x e; exact ⟨by rw [hb.block k (Array.getElem?_eq_some_iff.1 h1).1]; exact h1, h2⟩, fun k x e => by obtain ⟨h1, h2⟩ := h.xb k x e; exact ⟨by rw [hb.block k (Array.getElem?_eq_some_iff.1 h1).1]; exact h1, h2⟩⟩
theorem Rd.lita (h : Rd ta tb W0 W base ab bb lm ca cb av bv al bl la lb none kb) (x : Int) : Rd ta tb W0 (W.alloc (.cells #[.int .i64 x] 3)) base ab bb lm ca cb av bv al bl la lb (some (W.heap.size, x)) kb := by
  have h' := h.below ((Below.refl _ W).alloc (Nat.le_refl _) (.cells #[.int .i64 x] 3))
  refine ⟨h'.md, h'.kp, h'.be, h'.lr, fun k y e => ?_, h'.xb⟩
  injection e with e
  injection e with e1 e2
  subst e1; subst e2
  exact ⟨heap_alloc_new _ _, fun e => Nat.lt_irrefl _ (h.md.oa.lt _ e).2, fun e => Nat.lt_irrefl _ (h.md.ob.lt _ e).2⟩
theorem Rd.litb (h : Rd ta tb W0 W base ab bb lm ca cb av bv al bl la lb ka none) (x : Int) : Rd ta tb W0 (W.alloc (.cells #[.int .i64 x] 3)) base ab bb lm ca cb av bv al bl la lb ka (some (W.heap.size, x)) := (h.swap.lita x).swap
theorem Rd.appa {k : Nat} {x : Int} (h : Rd ta tb W0 W base ab bb lm ca cb av bv al bl la lb (some (k, x)) kb) (T ty : TypeId) (hT : Tryz.prog.underlying T = some (.slice 3)) (hn : al.length ≤ 1000000) :
    ∃ (a : Option Addr) (n c : Nat) (w' : World), (Builtin.append_ #[T, T] ty #[av, .slice (some ⟨k, 0, none⟩) 1 1]).run Tryz.prog W = .ok (.slice a n c) w' ∧ Rd ta tb W0 w' base ab bb lm ca cb (.slice a n c) bv (al ++ [x]) bl la lb none kb := by
  obtain ⟨x1, x2, x3⟩ := h.xa k x rfl
  obtain ⟨a, n, c, w', h1, h2, h3, h4, h5⟩ := h.md.app T ty hT k x x1 hn
  have hl := h5 lm h.lr.1.lt h.lr.2.1
  refine ⟨a, n, c, w', h1, ⟨h2, h.kp.trans h4, h.be.trans h3, ⟨h.lr.1.of_block hl.1, hl.2, h.lr.2.2⟩, fun _ _ e => (by cases e), fun j y e => ?_⟩⟩
  obtain ⟨y1, y2, y3⟩ := h.xb j y e
  have hj := h5 j (Array.getElem?_eq_some_iff.1 y1).1 y2
  exact ⟨by rw [hj.1]; exact y1, hj.2, y3⟩
theorem Rd.appb {k : Nat} {x : Int} (h : Rd ta tb W0 W base ab bb lm ca cb av bv al bl la lb ka (some (k, x))) (T ty : TypeId) (hT : Tryz.prog.underlying T = some (.slice 3)) (hn : bl.length ≤ 1000000) :
    ∃ (a : Option Addr) (n c : Nat) (w' : World), (Builtin.append_ #[T, T] ty #[bv, .slice (some ⟨k, 0, none⟩) 1 1]).run Tryz.prog W = .ok (.slice a n c) w' ∧ Rd ta tb W0 w' base ab bb lm ca cb av (.slice a n c) al (bl ++ [x]) la lb ka none := by
  obtain ⟨a, n, c, w', h1, h2⟩ := h.swap.appa T ty hT hn
  exact ⟨a, n, c, w', h1, h2.swap⟩
def S19 (ab bb lm : Nat) (ca cb : Value) (la lb : Int) (w : World) : Prop := w.cell? ⟨ab, 0, none⟩ = some ca ∧ w.cell? ⟨bb, 0, none⟩ = some cb ∧ RowAt w lm [.int .i64 la, .int .i64 lb]
theorem Rd.s (h : Rd ta tb W0 W base ab bb lm ca cb av bv al bl la lb ka kb) : S19 ab bb lm ca cb la lb W := ⟨h.md.xa.cell, h.md.xb.cell, h.lr.1⟩
theorem Rd.fin {va vb : Value} (h : Rd ta tb W0 W base ab bb lm ca cb av bv al bl la lb ka kb) (ht : ta ≠ 95 ∧ tb ≠ 95) (n0 : Nat) (hn : n0 ≤ ab ∧ n0 ≤ bb) (hva : va = av) (hvb : vb = bv) :
    Md ta tb ((W.setCell ⟨ab, 0, none⟩ va).setCell ⟨bb, 0, none⟩ vb) base ab bb av bv av bv al bl ∧ Kp2 base ab bb W0 ((W.setCell ⟨ab, 0, none⟩ va).setCell ⟨bb, 0, none⟩ vb) ∧ Below n0 W0 ((W.setCell ⟨ab, 0, none⟩ va).setCell ⟨bb, 0, none⟩ vb) := by
  subst hva hvb
  obtain ⟨m1, k1, b1⟩ := h.md.store ht.1 va
  obtain ⟨m2, k2, b2⟩ := m1.swap.store ht.2 vb
  have hl := h.md.lo
  exact ⟨m2.swap, h.kp.trans (k1.trans k2.swap), ((h.be.mono (by omega)).trans (b1.mono hn.1)).trans (b2.mono hn.2)⟩
theorem Rd.start (h : Md ta tb W base ab bb ca cb av bv al bl) (hl : RowAt W lm [.int .i64 la, .int .i64 lb]) (ha : av.ownBlock ≠ some lm) (hb : bv.ownBlock ≠ some lm) : Rd ta tb W W base ab bb lm ca cb av bv al bl la lb none none :=
  ⟨h, ⟨KOth.refl _, fun _ _ _ _ => rfl⟩, Below.refl _ _, ⟨hl, ha, hb⟩, fun _ _ e => (by cases e), fun _ _ e => (by cases e)⟩
end Go.Proofs.YtkpgciimhjkajaaGreatDoor
