/- Appending a list of readings to a list of the call's own, in plain code and in a region that draws its order. No conditions but bounds that every list in memory meets. -/
import Derived.Test.YtanfbfmchhbgfaaDoorRefs
import Derived.Deep.AppendLies
namespace Go.Proofs.YtanfbfmchhbgfaaDoor
open Go Go.RowKit

/-- An append whose run is known, as a step of a region that draws. -/
theorem step_append_run {P : Program} {ops : Array Oper} {o : Oper} {a : Act} {w : World} {K : Act → World → Prop} {Q : Exit → Act → World → Prop} {E : Prop} (hgd : o.guard = none) (s x : Operand) (t : TypeId)
    (ho : o.op = .call { callee := .builtin .append, args := #[s, x], argTypes := #[t, t] }) (v xv v' : Value) (w' : World) (hs : a.eval s = v) (hx : a.eval x = xv)
    (hrun : (Builtin.append_ #[t, t] o.type #[v, xv]).run P w = .ok v' w') (h : K (a.put o.dst v') w') :
    if Region.wanted o (yielded ops a.tmps) = true then Oper.wp P o a w K Q else E := by
  have hw : Region.wanted o (yielded ops a.tmps) = true := by simp [Region.wanted, hgd]
  rw [if_pos hw]
  unfold Oper.wp execOp
  simp only [ho, resolve, invoke, builtin, Sem.run_bind, Sem.run_pure, Result.andThen_ok, List.map_toArray, List.map_cons, List.map_nil, hs, hx, hrun]
  exact h

/-- append(out, x...). -/
theorem append_rds {w : World} {base : Nat} {v : Value} {xs bs : List (Int × Int)} (h : Own w base v xs) {A : Addr} {len cap : Nat} (hx : RdsAt w (.slice (some A) len cap) bs) (hn : xs.length + bs.length ≤ 1000000000) (hb : base ≤ w.heap.size) (ty : TypeId) :
    ∃ (v' : Value) (w' : World), (Builtin.append_ #[45, 45] ty #[v, .slice (some A) len cap]).run Tryd.prog w = .ok v' w' ∧ Own w' base v' (xs ++ bs) ∧ w.grownBy w' v.ownBlock ∧ Below base w w' := by
  obtain ⟨i0, hi, hz0, hz1, hz2⟩ := info_parts rinfo
  obtain ⟨a', len', cap', e, hl, hmax, hel⟩ := hx
  obtain ⟨rfl, rfl, rfl⟩ : some A = a' ∧ len = len' ∧ cap = cap' := by simpa using e
  have hnews : ∀ j u, (rcells bs)[j]? = some u → w.cell? (A.add j) = some u := by
    intro j u hj
    have hjl := (List.getElem?_eq_some_iff.1 hj).1
    rw [rcells_length] at hjl
    obtain ⟨ab, ao, e, q0, q1⟩ := hel (j / 2) (by omega)
    obtain rfl := Option.some.inj e
    obtain ⟨r0, r1⟩ := rcells_at bs (j / 2) (by omega)
    rw [Go.WideShapes.add_plain]
    rcases Nat.mod_two_eq_zero_or_one j with m | m
    · rw [show 2 * (j / 2) = j by omega] at r0
      rw [show ao + j / 2 * 2 = ao + j by omega] at q0
      rw [q0, getD_mem (show j / 2 < bs.length by omega)]
      rw [r0] at hj; exact hj
    · rw [show 2 * (j / 2) + 1 = j by omega] at r1
      rw [show ao + j / 2 * 2 + 1 = ao + j by omega] at q1
      rw [q1, getD_mem (show j / 2 < bs.length by omega)]
      rw [r1] at hj; exact hj
  obtain ⟨v', w', h1, h2, h3, _⟩ := run_append_own (P := Tryd.prog) w base 45 ty 23 i0 (.agg #[.int .i64 0, .int .i64 0]) 2 16 Tryd.underlying45 hi hz0 hz1 hz2 rfl (by decide)
    v xs.length (rcells xs) h A len cap (rcells bs) (by rw [rcells_length, hl]) hnews (rcells_one bs) (by unfold maxLen; omega) (by omega) hb
  refine ⟨v', w', h1, ?_, h3, (Below.refl base w).grown h3 hb (fun k hk => (World.ownsRow.lt h k hk).1)⟩
  unfold Own
  rw [rcells_append, List.length_append, hl]
  exact h2

theorem RdsAt.take {w : World} {a : Option Addr} {len cap : Nat} {rs : List (Int × Int)} (h : RdsAt w (.slice a len cap) rs) {k : Nat} (hk : k ≤ len) : RdsAt w (.slice a k cap) (rs.take k) := by
  obtain ⟨a', len', cap', e, hl, hmax, hel⟩ := h
  obtain ⟨rfl, rfl, rfl⟩ : a = a' ∧ len = len' ∧ cap = cap' := by simpa using e
  refine ⟨a, k, cap, rfl, by rw [List.length_take]; omega, by omega, fun i hi => ?_⟩
  obtain ⟨ab, ao, e, q0, q1⟩ := hel i (by omega)
  have : (rs.take k).getD i (0, 0) = rs.getD i (0, 0) := by simp [List.getD_eq_getElem?_getD, List.getElem?_take_of_lt hi]
  exact ⟨ab, ao, e, by rw [this]; exact q0, by rw [this]; exact q1⟩
theorem RdsAt.drop {w : World} {ab ao : Nat} {len cap : Nat} {rs : List (Int × Int)} (h : RdsAt w (.slice (some ⟨ab, ao, none⟩) len cap) rs) {k : Nat} (hk : k ≤ len) (c : Nat) : RdsAt w (.slice (some ⟨ab, ao + k * 2, none⟩) (len - k) c) (rs.drop k) := by
  obtain ⟨a', len', cap', e, hl, hmax, hel⟩ := h
  obtain ⟨rfl, rfl, rfl⟩ : some (⟨ab, ao, none⟩ : Addr) = a' ∧ len = len' ∧ cap = cap' := by simpa using e
  refine ⟨_, len - k, c, rfl, by rw [List.length_drop]; omega, by omega, fun i hi => ⟨ab, ao + k * 2, rfl, ?_⟩⟩
  obtain ⟨ab', ao', e, q0, q1⟩ := hel (k + i) (by omega)
  obtain ⟨rfl, rfl⟩ : ab = ab' ∧ ao = ao' := by simpa using e
  have : (rs.drop k).getD i (0, 0) = rs.getD (k + i) (0, 0) := by simp [List.getD_eq_getElem?_getD]
  rw [this, show ao + k * 2 + i * 2 = ao + (k + i) * 2 by omega]
  exact ⟨q0, q1⟩
theorem RdsAt.drop_all {w : World} {A : Addr} {len cap : Nat} {rs : List (Int × Int)} (h : RdsAt w (.slice (some A) len cap) rs) (c : Nat) : RdsAt w (.slice (some A) 0 c) (rs.drop len) := by
  obtain ⟨a', len', cap', e, hl, hmax, hel⟩ := h
  obtain ⟨rfl, rfl, rfl⟩ : some A = a' ∧ len = len' ∧ cap = cap' := by simpa using e
  exact ⟨_, 0, c, rfl, by rw [List.length_drop]; omega, by omega, fun i hi => by omega⟩

theorem Own.form {w : World} {base : Nat} {v : Value} {rs : List (Int × Int)} (h : Own w base v rs) (h0 : 0 < rs.length) : ∃ g cap : Nat, v = .slice (some ⟨g, 0, none⟩) rs.length cap ∧ rs.length ≤ cap ∧ cap ≤ 9223372036854775807 ∧ base ≤ g ∧ g < w.heap.size := by
  have hlt := World.ownsRow.lt h
  obtain ⟨_, h2⟩ := h
  rcases h2 with ⟨_, h2⟩ | ⟨g, cap, cur, e, h5, _, h3, h4, _⟩
  · omega
  · exact ⟨g, cap, e, h3, by unfold maxLen at h4; omega, h5, (hlt g (by rw [e]; rfl)).2⟩

/-- The same as a step of a region that draws. -/
theorem step_rds {ops : Array Oper} {o : Oper} {a : Act} {w : World} {K : Act → World → Prop} {Q : Exit → Act → World → Prop} {E : Prop} (hgd : o.guard = none) (s x : Operand)
    (ho : o.op = .call { callee := .builtin .append, args := #[s, x], argTypes := #[45, 45] }) (base : Nat) (v : Value) (xs : List (Int × Int)) (hs : a.eval s = v) (hown : Own w base v xs)
    (A : Addr) (len cap : Nat) (bs : List (Int × Int)) (av : Option Addr) (hx : a.eval x = .slice av len cap) (hav : av = some A) (hr : RdsAt w (.slice (some A) len cap) bs) (hn : xs.length + bs.length ≤ 1000000000) (hb : base ≤ w.heap.size)
    (h : ∀ v' w', Own w' base v' (xs ++ bs) → w.grownBy w' v.ownBlock → Below base w w' → K (a.put o.dst v') w') :
    if Region.wanted o (yielded ops a.tmps) = true then Oper.wp Tryd.prog o a w K Q else E := by
  obtain ⟨v', w', h1, h2, h3, h4⟩ := append_rds hown hr hn hb o.type
  subst hav
  exact step_append_run hgd s x _ ho v _ v' w' hs hx h1 (h v' w' h2 h3 h4)
theorem own_empty (w : World) {base H : Nat} (hb : base ≤ w.heap.size) (hH : w.heap.size = H) : Own (w.alloc (.cells #[] 23)) base (.slice (some ⟨H, 0, none⟩) 0 0) [] := by
  subst hH; exact World.ownsRow_lit w #[] 0 hb (by unfold maxLen; omega) rfl
theorem rds_one (w : World) {H : Nat} (hH : w.heap.size = H) (x y : Int) : RdsAt (w.alloc (.cells #[.int .i64 x, .int .i64 y] 23)) (.slice (some ⟨H, 0, none⟩) 1 1) [(x, y)] := by
  subst hH
  refine ⟨_, 1, 1, rfl, rfl, by omega, fun i hi => ⟨w.heap.size, 0, rfl, ?_, ?_⟩⟩ <;> obtain rfl : i = 0 := by omega
  · simp
  · simp
theorem RdsAt.alloc {w : World} {v : Value} {rs : List (Int × Int)} (h : RdsAt w v rs) (o : Obj) : RdsAt (w.alloc o) v rs := h.below ((Below.refl _ _).alloc (Nat.le_refl _) o)
theorem RdsAt.drew {w : World} {v : Value} {rs : List (Int × Int)} (h : RdsAt w v rs) : RdsAt w.drew v rs := h.below (Below.refl _ _).drew
theorem Own.drew {w : World} {base : Nat} {v : Value} {rs : List (Int × Int)} (h : Own w base v rs) : Own w.drew base v rs := h.below (Below.refl _ _).drew
theorem RdsAt.far {w w' : World} {b o len cap : Nat} {rs : List (Int × Int)} (h : RdsAt w (.slice (some ⟨b, o, none⟩) len cap) rs) {row : Option Nat} (hg : w.grownBy w' row) (hne : some b ≠ row) : RdsAt w' (.slice (some ⟨b, o, none⟩) len cap) rs := by
  obtain ⟨a', len', cap', e, hl, hmax, hel⟩ := h
  refine ⟨a', len', cap', e, hl, hmax, fun i hi => ?_⟩
  obtain ⟨ab, ao, e2, q0, q1⟩ := hel i hi
  obtain ⟨rfl, rfl, rfl⟩ : some (⟨b, o, none⟩ : Addr) = a' ∧ len = len' ∧ cap = cap' := by simpa using e
  obtain ⟨rfl, rfl⟩ : b = ab ∧ o = ao := by simpa using e2
  exact ⟨b, o, rfl, hg.cell q0 hne, hg.cell q1 hne⟩

end Go.Proofs.YtanfbfmchhbgfaaDoor
