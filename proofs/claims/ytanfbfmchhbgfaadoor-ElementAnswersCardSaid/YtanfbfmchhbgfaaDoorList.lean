/- List of the reference of element makes valid readings of some elements, in ascending order. No conditions. -/
import Derived.Test.YtanfbfmchhbgfaaDoorNew
import Derived.Laws.AppendOwn
import Derived.Laws.OwnMore
import Derived.Deep.AppendLies
namespace Go.Proofs.YtanfbfmchhbgfaaDoor
open Go Go.RowKit

/-- Readings as cells, one after the other. -/
def rcells : List (Int × Int) → List Value
  | [] => []
  | r :: l => .int .i64 r.1 :: .int .i64 r.2 :: rcells l
theorem rcells_append : ∀ a b, rcells (a ++ b) = rcells a ++ rcells b
  | [], b => rfl
  | r :: l, b => by simp [rcells, rcells_append l b]
theorem rcells_length : ∀ l, (rcells l).length = l.length * 2
  | [] => rfl
  | r :: l => by simp [rcells, rcells_length l]; omega
theorem rcells_at : ∀ (l : List (Int × Int)) (i : Nat) (h : i < l.length), (rcells l)[2 * i]? = some (.int .i64 l[i].1) ∧ (rcells l)[2 * i + 1]? = some (.int .i64 l[i].2)
  | r :: l, 0, _ => ⟨rfl, rfl⟩
  | r :: l, i + 1, h => by
    have ih := rcells_at l i (by simpa using h)
    simp only [rcells, List.getElem_cons_succ]
    rw [show 2 * (i + 1) + 1 = 2 * i + 1 + 1 + 1 by omega, show 2 * (i + 1) = 2 * i + 1 + 1 by omega]
    simpa using ih
theorem rcells_one (l : List (Int × Int)) : ∀ u ∈ rcells l, u.oneCell' = true := by
  induction l with
  | nil => simp [rcells]
  | cons r l ih => intro u hu; simp [rcells] at hu; rcases hu with rfl | rfl | hu; rfl; rfl; exact ih u hu

/-- v is a slice of the call's own, from block base on, that holds the readings. -/
def Own (w : World) (base : Nat) (v : Value) (rs : List (Int × Int)) : Prop := w.ownsRow base 23 2 v rs.length (rcells rs)
theorem Own.nil (w : World) (base : Nat) : Own w base (.slice none 0 0) [] := World.ownsRow_nil w base _ 2
theorem Own.alloc {w : World} {base : Nat} {v : Value} {rs : List (Int × Int)} (h : Own w base v rs) (o : Obj) : Own (w.alloc o) base v rs := World.ownsRow.alloc h o
theorem Own.of_same {w w' : World} {base : Nat} {v : Value} {rs : List (Int × Int)} (h : Own w base v rs) (_hs : w.heap.size ≤ w'.heap.size) (hb : ∀ k, base ≤ k → k < w.heap.size → w'.heap[k]? = w.heap[k]?) : Own w' base v rs := by
  obtain ⟨h1, h2⟩ := h
  refine ⟨h1, ?_⟩
  rcases h2 with h2 | ⟨g, cap, cur, e, hg, hh, h3, h4, h5, h6⟩
  · exact Or.inl h2
  · have hlt : g < w.heap.size := by
      rcases Nat.lt_or_ge g w.heap.size with q | q
      · exact q
      · rw [Array.getElem?_eq_none q] at hh; cases hh
    exact Or.inr ⟨g, cap, cur, e, hg, by rw [hb g hg hlt]; exact hh, h3, h4, h5, h6⟩
theorem Own.below {w w' : World} {base : Nat} {v : Value} {rs : List (Int × Int)} (h : Own w base v rs) (hb : Below w.heap.size w w') : Own w' base v rs := h.of_same hb.size (fun k _ hk => hb.block k hk)
theorem Own.but {w w' : World} {base b : Nat} {v : Value} {rs : List (Int × Int)} (h : Own w base v rs) (hb : But w.heap.size b w w') (hbb : b < base) : Own w' base v rs := h.of_same hb.size (fun k h1 hk => hb.block k hk (by omega))

theorem rinfo : (Tryd.prog.info? 23).map (fun i => (i.zero, i.size, i.bytes)) = some (some (.agg #[.int .i64 0, .int .i64 0]), 2, 16) := by kernel_rfl

/-- append(out, r). -/
theorem append_one {w : World} {base : Nat} {v : Value} {rs : List (Int × Int)} (h : Own w base v rs) (hn : rs.length ≤ 1000000000) (hb : base ≤ w.heap.size) (c x : Int) (ty : TypeId) :
    ∃ (v' : Value) (w' : World), (Builtin.append_ #[45, 45] ty #[v, .slice (some ⟨w.heap.size, 0, none⟩) 1 1]).run Tryd.prog (w.alloc (.cells #[.int .i64 c, .int .i64 x] 23)) = .ok v' w' ∧
      Own w' base v' (rs ++ [(c, x)]) ∧ (∀ k, k < base → w'.heap[k]? = w.heap[k]?) ∧ Below base w w' := by
  obtain ⟨i0, hi, hz0, hz1, hz2⟩ := info_parts rinfo
  obtain ⟨v', w', h1, h2, h3, _⟩ := run_append_own (P := Tryd.prog) (w.alloc (.cells #[.int .i64 c, .int .i64 x] 23)) base 45 ty 23 i0 (.agg #[.int .i64 0, .int .i64 0]) 2 16 Tryd.underlying45 hi hz0 hz1 hz2 rfl (by decide)
    v rs.length (rcells rs) (h.alloc _) ⟨w.heap.size, 0, none⟩ 1 1 [.int .i64 c, .int .i64 x] rfl (World.news_of_block (cs := #[.int .i64 c, .int .i64 x]) (t := 23) (fr := (0, 0)) (heap_alloc_new w _)) (by simp [Value.oneCell']) (by unfold maxLen; omega) (by omega) (by simp; omega)
  have hB : Below base w w' := ((Below.refl base w).alloc hb _).grown h3 (by simp; omega) (fun k hk => ((h.alloc (.cells #[.int .i64 c, .int .i64 x] 23)) |> fun q => (World.ownsRow.lt q k hk).1))
  refine ⟨v', w', h1, ?_, fun k hk => hB.block k hk, hB⟩
  unfold Own
  rw [rcells_append, List.length_append]
  exact h2

/-- An append whose run is known. -/
theorem wpList_append_run {P : Program} {w : World} {ops : Array Oper} {rest : List Oper} {o : Oper} {a : Act} {Q : Exit → Act → World → Prop} (hgd : o.guard = none) (s x : Operand) (t : TypeId)
    (ho : o.op = .call { callee := .builtin .append, args := #[s, x], argTypes := #[t, t] }) (v xv v' : Value) (w' : World) (hs : a.eval s = v) (hx : a.eval x = xv)
    (hrun : (Builtin.append_ #[t, t] o.type #[v, xv]).run P w = .ok v' w') (h : wpList P ops Q rest (a.put o.dst v') w') : wpList P ops Q (o :: rest) a w := by
  refine wpList_plain hgd fun K hK => ?_
  unfold Oper.wp execOp
  simp only [ho, resolve, invoke, builtin, Sem.run_bind, Sem.run_pure, Result.andThen_ok, List.map_toArray, List.map_cons, List.map_nil, hs, hx, hrun]
  exact hK _ _ h

/-- Valid readings in ascending order, of elements up to k. -/
def GoodL (k : Int) (rs : List (Int × Int)) : Prop := (∀ r ∈ rs, chk r.1 r.2 = 0 ∧ r.1 ≤ k) ∧ rs.Pairwise (fun a b => a.1 < b.1)
theorem GoodL.snoc {k c v : Int} {rs : List (Int × Int)} (h : GoodL k rs) (hc : k < c) (hv : chk c v = 0) : GoodL c (rs ++ [(c, v)]) := by
  refine ⟨?_, ?_⟩
  · intro r hr
    rw [List.mem_append] at hr
    rcases hr with hr | hr
    · have := h.1 r hr; exact ⟨this.1, by omega⟩
    · simp at hr; subst hr; exact ⟨hv, Int.le_refl _⟩
  · rw [List.pairwise_append]
    refine ⟨h.2, by simp, fun a ha b hb => ?_⟩
    simp at hb; subst hb
    have := (h.1 a ha).2
    show a.1 < c
    omega
theorem GoodL.mono {k k' : Int} {rs : List (Int × Int)} (h : GoodL k rs) (hk : k ≤ k') : GoodL k' rs := ⟨fun r hr => ⟨(h.1 r hr).1, Int.le_trans (h.1 r hr).2 hk⟩, h.2⟩

/-- A new list of readings, all good. -/
def NewList (B b : Nat) (w : World) (e : Ending) (w' : World) : Prop := ∃ (v : Value) (rs : List (Int × Int)), e = .returned v ∧ Own w' w.heap.size v rs ∧ GoodL 11 rs ∧ rs.length ≤ 11 ∧ St w B b w'

theorem St.grown {w0 w w' : World} {B b base : Nat} (h : St w0 B b w) (hb : Below base w w') (hbb : b < base) (h0 : w0.heap.size ≤ base) : St w0 B b w' := by
  obtain ⟨⟨l, hl⟩, hbut⟩ := h
  exact ⟨⟨l, hl.below hb hbb⟩, hbut.trans (But.of_below (hb.mono h0))⟩

set_option maxRecDepth 100000 in
theorem list_ok (B b : Nat) (w : World) (h : ∃ l, SrcIs w B b l) : Calls Tryd.prog 19 #[.pointer (some ⟨b, 0, none⟩)] w (NewList B b w) := by
  have hbw : b < w.heap.size := by obtain ⟨l, hl⟩ := h; exact hl.lt
  have Hs0 : Hid (St w B b w) := ⟨h, But.refl _ _ _⟩
  clear h
  go_enter Tryd.func19, Tryd.ntmps19
  go_wp2_with fail
  go_loopw [3, 4] (fun v c wr => ∃ (k : Nat) (rs : List (Int × Int)), k ≤ 11 ∧ c = .int .i64 ((k : Int) + 1) ∧ Hid (Own wr w.heap.size v rs) ∧ Hid (GoodL k rs) ∧ rs.length ≤ k ∧ Hid (St w B b wr)) (fun _ c _ => (12 - intOf c).toNat)
  case atStart => exact ⟨0, [], by omega, rfl, Own.nil _ _, ⟨by simp, by simp⟩, by simp, Hs0⟩
  case round =>
    obtain ⟨k, rs, hk, rfl, hown, hgood, hlen, hst⟩ := hrel
    have hsz := hst.out.size
    by_cases hlt : k < 11
    · go_wp2_with fail
      refine (n_ok B b 3 wr hst.out.1 (by omega) (by omega)).mono ?_
      rintro r w1 ⟨x, hx0, hx1, rfl, hs1⟩
      have hown1 := Lib.hid (hown.out.but hs1.2 hbw)
      have hst1 := Lib.hid (hst.out.then _ hs1.1.choose_spec hs1.2)
      have hsz1 : w.heap.size ≤ w1.heap.size := hst1.out.size
      clear hs1
      by_cases hx : x = 0
      · subst hx
        go_wp2_with fail
        refine (some_ok B b ((k : Int) + 1) w1 hst1.out.1 (by omega)).mono ?_
        rintro r w2 ⟨y, hy, rfl, hs2⟩
        have hown2 := Lib.hid (hown1.out.but hs2.2 hbw)
        have hst2 := Lib.hid (hst1.out.then _ hs2.1.choose_spec hs2.2)
        have hsz2 : w.heap.size ≤ w2.heap.size := hst2.out.size
        have Hy := Lib.hid hy
        clear hs2 hy
        obtain ⟨v', w', hrun, hown', _, hB'⟩ := append_one hown2.out (by omega) hsz2 ((k : Int) + 1) y 45
        have hst' := Lib.hid (hst2.out.grown hB' hbw (Nat.le_refl _))
        have Hown' := Lib.hid hown'
        have Hrun := Lib.hid hrun
        clear hown' hB' hrun
        go_wp2_with (at_builtin; refine wpList_append_run rfl _ _ _ rfl _ _ _ _ rfl rfl Hrun.out ?_)
        go_roundw
        case rel => exact ⟨k + 1, rs ++ [((k : Int) + 1, y)], by omega, by go_num, Hown'.out, by have := hgood.out.snoc (c := (k : Int) + 1) (by omega) Hy.out; exact this, by simp; omega, hst'⟩
        case measure => simp [intOf]; omega
      · have hx2 : (x == 0) = false := by simpa using hx
        clear hx
        go_wp2_with fail
        go_roundw
        case rel => exact ⟨k + 1, rs, by omega, by go_num, hown1, hgood.out.mono (by omega), by omega, hst1⟩
        case measure => simp [intOf]; omega
    · obtain rfl : k = 11 := by omega
      go_wp2_with fail
      go_ret
      exact ⟨_, rs, rfl, hown.out, hgood.out, hlen, hst.out⟩
end Go.Proofs.YtanfbfmchhbgfaaDoor
