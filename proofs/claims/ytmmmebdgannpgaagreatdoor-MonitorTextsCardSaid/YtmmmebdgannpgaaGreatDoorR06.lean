/- Part 6 of the proof: laws on memory and what functions of the program return. No conditions but those that each theorem names. -/
import Derived.Test.YtmmmebdgannpgaaGreatDoorR05
import Derived.Deep.AppendLies
import Derived.Laws.IdiomStrings
import Derived.Laws.OwnMore
set_option linter.unusedVariables false
set_option linter.unusedSimpArgs false
/- Slices of the call's own, of any type: append of a literal, in plain code and in a region that draws. -/
namespace Go.Proofs.YtmmmebdgannpgaaGreatDoor
open Go Go.RowKit

theorem ownsRow_of_same {w w' : World} {base : Nat} {e : TypeId} {sz n : Nat} {v : Value} {cs : List Value} (h : w.ownsRow base e sz v n cs) (hb : ∀ k, base ≤ k → k < w.heap.size → w'.heap[k]? = w.heap[k]?) : w'.ownsRow base e sz v n cs := by
  obtain ⟨h1, h2⟩ := h
  refine ⟨h1, ?_⟩
  rcases h2 with h2 | ⟨g, cap, cur, e, hg, hh, h3, h4, h5, h6⟩
  · exact Or.inl h2
  · have hlt : g < w.heap.size := by
      rcases Nat.lt_or_ge g w.heap.size with q | q
      · exact q
      · rw [Array.getElem?_eq_none q] at hh; cases hh
    exact Or.inr ⟨g, cap, cur, e, hg, by rw [hb g hg hlt]; exact hh, h3, h4, h5, h6⟩
theorem ownsRow_below {w w' : World} {base : Nat} {e : TypeId} {sz n : Nat} {v : Value} {cs : List Value} (h : w.ownsRow base e sz v n cs) (hb : Below w.heap.size w w') : w'.ownsRow base e sz v n cs := ownsRow_of_same h (fun k _ hk => hb.block k hk)
theorem ownsRow_but {w w' : World} {base b : Nat} {e : TypeId} {sz n : Nat} {v : Value} {cs : List Value} (h : w.ownsRow base e sz v n cs) (hb : But w.heap.size b w w') (hbb : b < base) : w'.ownsRow base e sz v n cs := ownsRow_of_same h (fun k h1 hk => hb.block k hk (by omega))

/-- append(v, news..), the news in a new block. -/
theorem append_new (st e : TypeId) {z : Value} {sz by_ : Nat} (hu : Tryz.prog.underlying st = some (.slice e)) (hinfo : (Tryz.prog.info? e).map (fun i => (i.zero, i.size, i.bytes)) = some (some z, sz, by_)) (hz : z.cells.size = sz) (hsz : 0 < sz)
    {w : World} {base n : Nat} {v : Value} {cs : List Value} (h : w.ownsRow base e sz v n cs) (news : List Value) (k : Nat) (hk : news.length = k * sz) (hone : ∀ u ∈ news, u.oneCell' = true) (hn : n ≤ 1000000000) (hk1 : k ≤ 1000000000) (hsz1 : by_ ≤ 1000) (hb : base ≤ w.heap.size) (ty : TypeId) :
    ∃ (v' : Value) (w' : World), (Builtin.append_ #[st, st] ty #[v, .slice (some ⟨w.heap.size, 0, none⟩) k k]).run Tryz.prog (w.alloc (.cells news.toArray e)) = .ok v' w' ∧
      w'.ownsRow base e sz v' (n + k) (cs ++ news) ∧ Below base w w' := by
  obtain ⟨i0, hi, hz0, hz1, hz2⟩ := info_parts hinfo
  have hA := World.ownsRow.alloc h (.cells news.toArray e)
  have hm : (n + k) * by_ ≤ 2000000000 * 1000 := Nat.mul_le_mul (by omega) hsz1
  obtain ⟨v', w', h1, h2, h3, _⟩ := run_append_own (P := Tryz.prog) (w.alloc (.cells news.toArray e)) base st ty e i0 z sz by_ hu hi hz0 hz1 hz2 hz (by omega)
    v n cs hA ⟨w.heap.size, 0, none⟩ k k news hk (World.news_of_block (cs := news.toArray) (t := e) (fr := (0, 0)) (heap_alloc_new w _)) hone (by unfold maxLen; omega) (by omega) (by simp; omega)
  exact ⟨v', w', h1, h2, ((Below.refl base w).alloc hb _).grown h3 (by simp; omega) (fun k hk => (World.ownsRow.lt hA k hk).1)⟩

/-- An append whose run is known. -/
theorem wpList_append_run {P : Program} {w : World} {ops : Array Oper} {rest : List Oper} {o : Oper} {a : Act} {Q : Exit → Act → World → Prop} (hgd : o.guard = none) (s x : Operand) (t : TypeId)
    (ho : o.op = .call { callee := .builtin .append, args := #[s, x], argTypes := #[t, t] }) (v xv v' : Value) (w' : World) (hs : a.eval s = v) (hx : a.eval x = xv)
    (hrun : (Builtin.append_ #[t, t] o.type #[v, xv]).run P w = .ok v' w') (h : wpList P ops Q rest (a.put o.dst v') w') : wpList P ops Q (o :: rest) a w := by
  refine wpList_plain hgd fun K hK => ?_
  unfold Oper.wp execOp
  simp only [ho, resolve, invoke, builtin, Sem.run_bind, Sem.run_pure, Result.andThen_ok, List.map_toArray, List.map_cons, List.map_nil, hs, hx, hrun]
  exact hK _ _ h
/-- The same as a step of a region that draws. -/
theorem step_append_run {P : Program} {ops : Array Oper} {o : Oper} {a : Act} {w : World} {K : Act → World → Prop} {Q : Exit → Act → World → Prop} {E : Prop} (hgd : o.guard = none) (s x : Operand) (t : TypeId)
    (ho : o.op = .call { callee := .builtin .append, args := #[s, x], argTypes := #[t, t] }) (v xv v' : Value) (w' : World) (hs : a.eval s = v) (hx : a.eval x = xv)
    (hrun : (Builtin.append_ #[t, t] o.type #[v, xv]).run P w = .ok v' w') (h : K (a.put o.dst v') w') :
    if Region.wanted o (yielded ops a.tmps) = true then Oper.wp P o a w K Q else E := by
  have hw : Region.wanted o (yielded ops a.tmps) = true := by simp [Region.wanted, hgd]
  rw [if_pos hw]
  unfold Oper.wp execOp
  simp only [ho, resolve, invoke, builtin, Sem.run_bind, Sem.run_pure, Result.andThen_ok, List.map_toArray, List.map_cons, List.map_nil, hs, hx, hrun]
  exact h

/-- append(v, news..), wherever the news lie. -/
theorem append_at (st e : TypeId) {z : Value} {sz by_ : Nat} (hu : Tryz.prog.underlying st = some (.slice e)) (hinfo : (Tryz.prog.info? e).map (fun i => (i.zero, i.size, i.bytes)) = some (some z, sz, by_)) (hz : z.cells.size = sz) (hsz : 0 < sz)
    {w : World} {base n : Nat} {v : Value} {cs : List Value} (h : w.ownsRow base e sz v n cs) (A : Addr) (k c : Nat) (news : List Value) (hk : news.length = k * sz) (hnews : ∀ j u, news[j]? = some u → w.cell? (A.add j) = some u) (hone : ∀ u ∈ news, u.oneCell' = true) (hn : n ≤ 1000000000) (hk1 : k ≤ 1000000000) (hsz1 : by_ ≤ 1000) (hb : base ≤ w.heap.size) (ty : TypeId) :
    ∃ (v' : Value) (w' : World), (Builtin.append_ #[st, st] ty #[v, .slice (some A) k c]).run Tryz.prog w = .ok v' w' ∧
      w'.ownsRow base e sz v' (n + k) (cs ++ news) ∧ Below base w w' ∧ w.grownBy w' v.ownBlock := by
  obtain ⟨i0, hi, hz0, hz1, hz2⟩ := info_parts hinfo
  have hm : (n + k) * by_ ≤ 2000000000 * 1000 := Nat.mul_le_mul (by omega) hsz1
  obtain ⟨v', w', h1, h2, h3, _⟩ := run_append_own (P := Tryz.prog) w base st ty e i0 z sz by_ hu hi hz0 hz1 hz2 hz (by omega)
    v n cs h A k c news hk hnews hone (by unfold maxLen; omega) (by omega) hb
  exact ⟨v', w', h1, h2, (Below.refl base w).grown h3 hb (fun k hk => (World.ownsRow.lt h k hk).1), h3⟩

theorem sinfo : (Tryz.prog.info? 9).map (fun i => (i.zero, i.size, i.bytes)) = some (some (.string ⟨#[]⟩), 1, 16) := by kernel_rfl

/-- The cells of bytes. -/
def bcs (l : List UInt8) : List Value := l.map fun b => .int .u8 b.toNat
theorem bcs_one (l : List UInt8) : ∀ u ∈ bcs l, u.oneCell' = true := by
  intro u hu
  obtain ⟨b, _, rfl⟩ := List.mem_map.1 hu
  rfl
/-- Bytes that lie at an address. -/
def BytesAt (w : World) (A : Addr) (l : List UInt8) : Prop := ∀ j u, (bcs l)[j]? = some u → w.cell? (A.add j) = some u
theorem step_bytes {ops : Array Oper} {o : Oper} {a : Act} {w : World} {K : Act → World → Prop} {Q : Exit → Act → World → Prop} {E : Prop} (hgd : o.guard = none) (s x : Operand)
    (ho : o.op = .call { callee := .builtin .append, args := #[s, x], argTypes := #[22, 22] }) (base : Nat) (v : Value) (l : List UInt8) (hs : a.eval s = v) (hown : w.ownsRow base 5 1 v l.length (bcs l))
    (A : Addr) (m : List UInt8) (k c : Nat) (hx : a.eval x = .slice (some A) k c) (hk : m.length = k) (hr : BytesAt w A m) (hn : l.length ≤ 1000000000) (hm : m.length ≤ 1000000000) (hb : base ≤ w.heap.size)
    (h : ∀ v' w', w'.ownsRow base 5 1 v' (l ++ m).length (bcs (l ++ m)) → Below base w w' → K (a.put o.dst v') w') :
    if Region.wanted o (yielded ops a.tmps) = true then Oper.wp Tryz.prog o a w K Q else E := by
  subst hk
  obtain ⟨v', w', h1, h2, h3, _⟩ := append_at 22 5 Tryz.underlying22 binfo rfl (by decide) hown A m.length c (bcs m) (by simp [bcs]) hr (bcs_one m) hn hm (by decide) hb o.type
  have e1 : bcs (l ++ m) = bcs l ++ bcs m := by simp [bcs]
  refine step_append_run hgd s x _ ho v _ v' w' hs hx h1 (h v' w' ?_ h3)
  rw [e1, List.length_append]; exact h2
theorem bytes_two (w : World) {H : Nat} (hH : w.heap.size = H) {p q : Int} {c d : UInt8} (hp : p = c.toNat) (hq : q = d.toNat) : BytesAt (w.alloc (.cells #[.int .u8 p, .int .u8 q] 5)) ⟨H, 0, none⟩ [c, d] := by
  subst hH hp hq
  exact World.news_of_block (cs := #[.int .u8 c.toNat, .int .u8 d.toNat]) (t := 5) (fr := (0, 0)) (heap_alloc_new w _)
theorem bytes_one (w : World) {H : Nat} (hH : w.heap.size = H) {p : Int} {c : UInt8} (hp : p = c.toNat) : BytesAt (w.alloc (.cells #[.int .u8 p] 5)) ⟨H, 0, none⟩ [c] := by
  subst hH hp
  exact World.news_of_block (cs := #[.int .u8 c.toNat]) (t := 5) (fr := (0, 0)) (heap_alloc_new w _)
/-- The bytes back as a string. -/
theorem own_back {w : World} {base : Nat} {v : Value} {l : List UInt8} (h : w.ownsRow base 5 1 v l.length (bcs l)) (h0 : 0 < l.length) :
    ∃ (g cap : Nat), v = .slice (some ⟨g, 0, none⟩) l.length cap ∧ (convert 22 9 (.slice (some ⟨g, 0, none⟩) l.length cap)).run Tryz.prog w = .ok (.string ⟨l.toArray⟩) w := by
  have h' := h
  obtain ⟨_, h2⟩ := h
  rcases h2 with ⟨_, h2⟩ | ⟨g, cap, cur, e, h5, _, h3, h4, _⟩
  · omega
  · refine ⟨g, cap, e, run_convert_bytes_back (P := Tryz.prog) w 22 9 5 ⟨g, 0, none⟩ cap l Tryz.underlying22 Tryz.underlying5 Tryz.underlying9 (fun j hj => ?_)⟩
    have := World.ownsRow.cells h' (g := g) (by rw [e]; rfl) j (.int .u8 l[j].toNat) (by simp [bcs, hj])
    exact this
theorem append_bytes {w : World} {base : Nat} {v : Value} {l : List UInt8} (h : w.ownsRow base 5 1 v l.length (bcs l)) (m : List UInt8) (hn : l.length ≤ 1000000000) (hm : m.length ≤ 1000000000) (hb : base ≤ w.heap.size) (ty : TypeId) :
    ∃ (v' : Value) (w' : World), (Builtin.append_ #[22, 22] ty #[v, .slice (some ⟨w.heap.size, 0, none⟩) m.length m.length]).run Tryz.prog (w.alloc (.cells (bcs m).toArray 5)) = .ok v' w' ∧
      w'.ownsRow base 5 1 v' (l ++ m).length (bcs (l ++ m)) ∧ Below base w w' := by
  have h1 := append_new 22 5 Tryz.underlying22 binfo rfl (by decide) h (bcs m) m.length (by simp [bcs]) (bcs_one m) hn hm (by decide) hb ty
  have e1 : bcs (l ++ m) = bcs l ++ bcs m := by simp [bcs]
  rw [e1, List.length_append]
  exact h1
end Go.Proofs.YtmmmebdgannpgaaGreatDoor
/- Texts of reports, of the monitor. Printed by gen_txtf.py. -/
namespace Go.Proofs.YtmmmebdgannpgaaGreatDoor
open Go Go.RowKit

/-- A slice of readings that lies below a block. -/
def PairsIn (n₀ : Nat) (W : World) (v : Value) (l : List (Int × Int)) : Prop :=
  (∃ a c, v = .slice a 0 c ∧ l = []) ∨ ∃ b off cap, v = .slice (some ⟨b, off, none⟩) l.length cap ∧ b < n₀ ∧ ∀ j, j < l.length → W.cell? ⟨b, off + j * 2, none⟩ = some (.int .i64 (l.getD j (0, 0)).1) ∧ W.cell? ⟨b, off + j * 2 + 1, none⟩ = some (.int .i64 (l.getD j (0, 0)).2)
/-- A reading's word. -/
def rdT (x : Int × Int) : List UInt8 := letT x.1 ++ [61] ++ Lib.itoa x.2
/-- A report's words. -/
noncomputable def repL (kd : Int) (nm : List UInt8) (tm : Int) (l : List (Int × Int)) : List (List UInt8) := [kindT kd, nm, momT tm] ++ l.map rdT
/-- A report's text. -/
noncomputable def repT (kd : Int) (nm : List UInt8) (tm : Int) (l : List (Int × Int)) : List UInt8 := kindT kd ++ ([nm, momT tm] ++ l.map rdT).foldr (fun s r => 32 :: s ++ r) []
theorem joinTail_eq (ss : List (List UInt8)) : Lib.joinTail [32] ss = ss.foldr (fun s r => 32 :: s ++ r) [] := by
  unfold Lib.joinTail
  induction ss with
  | nil => rfl
  | cons x r ih => rw [List.map_cons, List.flatten_cons, ih, List.foldr_cons]; rfl
theorem join_rep (kd : Int) (nm : List UInt8) (tm : Int) (l : List (Int × Int)) : Lib.join (repL kd nm tm l) [32] = repT kd nm tm l := by
  unfold repL repT
  rw [List.cons_append, Lib.join_cons, joinTail_eq]
theorem rdT_len (x : Int × Int) (h : I64 x.2) : (rdT x).length ≤ 23 := by
  unfold rdT
  have h1 := letT_len x.1
  have h2 := (itoa_len _ h).2
  simp
  omega
theorem fold_len (m : Nat) : ∀ (ss : List (List UInt8)), (∀ s ∈ ss, s.length ≤ m) → (ss.foldr (fun s r => 32 :: s ++ r) []).length ≤ (m + 1) * ss.length
  | [], _ => by simp
  | x :: r, h => by
    have h1 := fold_len m r (fun s hs => h s (List.mem_cons_of_mem _ hs))
    have h2 := h x (List.mem_cons_self)
    rw [List.foldr_cons, List.length_append, List.length_cons, List.length_cons, Nat.mul_add]
    omega
theorem Bnds.below {w w' : World} (h : Bnds w) (hb : Below w.heap.size w w') : Bnds w' := fun i hi => cell_then hb (h i hi)
theorem join_map (ls : List (List UInt8)) : Lib.join ((ls.map fun s => (⟨s.toArray⟩ : ByteArray)).map (·.data.toList)) (ByteArray.mk #[32]).data.toList = Lib.join ls [32] := by
  rw [List.map_map]
  congr 1
  have : ((fun x : ByteArray => x.data.toList) ∘ fun s : List UInt8 => (⟨s.toArray⟩ : ByteArray)) = id := by funext s; simp
  rw [this, List.map_id]
def scs (ls : List (List UInt8)) : List Value := ls.map strV
def OwnS (w : World) (base : Nat) (v : Value) (ls : List (List UInt8)) : Prop := w.ownsRow base 9 1 v ls.length (scs ls)
theorem OwnS.below {w w' : World} {base : Nat} {v : Value} {ls : List (List UInt8)} (h : OwnS w base v ls) (hb : Below w.heap.size w w') : OwnS w' base v ls := ownsRow_below h hb
theorem append_str {w : World} {base : Nat} {v : Value} {ls : List (List UInt8)} (h : OwnS w base v ls) (x : List UInt8) (hn : ls.length ≤ 1000000000) (hb : base ≤ w.heap.size) (ty : TypeId) :
    ∃ (v' : Value) (w' : World), (Builtin.append_ #[52, 52] ty #[v, .slice (some ⟨w.heap.size, 0, none⟩) 1 1]).run Tryz.prog (w.alloc (.cells #[strV x] 9)) = .ok v' w' ∧
      OwnS w' base v' (ls ++ [x]) ∧ Below base w w' := by
  have h1 := append_new 52 9 Tryz.underlying52 sinfo rfl (by decide) h [strV x] 1 rfl (by intro u hu; simp at hu; subst hu; rfl) hn (by omega) (by decide) hb ty
  unfold OwnS
  rw [List.length_append]
  have e : scs (ls ++ [x]) = scs ls ++ [strV x] := by simp [scs]
  rw [e]; exact h1
theorem OwnS.lit (w : World) (ls : List (List UInt8)) (hl : ls.length ≤ 1000) {A : Array Value} (hA : A = (scs ls).toArray) {base : Nat} (hb : base ≤ w.heap.size) {H n : Nat} (hH : w.heap.size = H) (hn : n = ls.length) : OwnS (w.alloc (.cells A 9)) base (.slice (some ⟨H, 0, none⟩) n n) ls := by
  subst hA hH hn
  refine ⟨by simp [scs], .inr ⟨w.heap.size, ls.length, _, rfl, hb, heap_alloc_new w _, Nat.le_refl _, by unfold maxLen; omega, by simp [scs], ?_⟩⟩
  simp only [Nat.mul_one]
  have : (scs ls).length = ls.length := by simp [scs]
  rw [← this, List.take_length]
theorem own_strs {w : World} {base : Nat} {v : Value} {ls : List (List UInt8)} (h : OwnS w base v ls) (h0 : 0 < ls.length) :
    ∃ g9 cap : Nat, v = .slice (some ⟨g9, 0, none⟩) ls.length cap ∧ g9 < w.heap.size ∧ (∀ (j : Nat) (x : ByteArray), (ls.map fun s => (⟨s.toArray⟩ : ByteArray))[j]? = some x → w.cell? ⟨g9, 0 + j, none⟩ = some (.string x)) ∧ ls.length ≤ cap := by
  have h' := h
  obtain ⟨h1, h2⟩ := h
  rcases h2 with ⟨_, e⟩ | ⟨g, cap, cur, e, hg, hh, hc, _⟩
  · omega
  · refine ⟨g, cap, e, (Array.getElem?_eq_some_iff.1 hh).1, fun j x hx => ?_, hc⟩
    subst e
    have hj : j < ls.length := by simpa using (List.getElem?_eq_some_iff.1 hx).1
    have := World.ownsRow.cellAt h' j (by omega)
    rw [Nat.zero_add, this]
    simp [scs, hj, strV] at hx ⊢
    rw [← hx]
theorem mid_load {ops : Array Oper} {rest : List Oper} {op : Oper} {a : Act} {w : World} {Q : Exit → Act → World → Prop} {t : TypeId} (hgd : op.guard = none) (x : Operand) (ho : op.op = .load t x)
    (b o : Nat) (hx : a.eval x = .pointer (some ⟨b, o, none⟩)) (es : List Value) (hr : w.rangeAt b o es) (ht : RowT t es.length)
    (k : wpList Tryz.prog ops Q rest (a.put op.dst (.agg es.toArray)) w) : wpList Tryz.prog ops Q (op :: rest) a w := by
  obtain ⟨h0, d, h1, h2⟩ := ht
  exact wpList_load_mid hgd _ x ho b o hx es d hr h1 h2 h0 k
theorem rowT_rd : RowT 78 2 := ⟨by kernel_rfl, _, Tryz.underlying78, rfl⟩
theorem range_two {w : World} {b o : Nat} {p q : Int} (h0 : w.cell? ⟨b, o, none⟩ = some (.int .i64 p)) (h1 : w.cell? ⟨b, o + 1, none⟩ = some (.int .i64 q)) : w.rangeAt b o [.int .i64 p, .int .i64 q] := fun j u hj => by
  match j, hj with
  | 0, hj => simp at hj; subst hj; exact h0
  | 1, hj => simp at hj; subst hj; exact h1
set_option maxHeartbeats 8000000 in
set_option maxRecDepth 100000 in
theorem report_any (kd : Int) (nm : List UInt8) (tm fa pa pb pc : Int) (ra : Option Addr) (rn rc : Nat) (l : List (Int × Int)) (hnm : nm.length ≤ 1000) (hl : l.length ≤ 1000) (hv : ∀ x ∈ l, I64 x.1 ∧ I64 x.2) (w : World) (hT : Tab w) (hBn : Bnds w) (hP : PairsIn w.heap.size w (.slice ra rn rc) l) :
    Calls Tryz.prog 14 #[.agg #[.int .i64 kd, strV nm, .int .i64 tm, .int .i64 fa, .int .i64 pa, .int .i64 pb, .int .i64 pc, .slice ra rn rc]] w fun e w' => e = .returned (strV (repT kd nm tm l)) ∧ Below w.heap.size w w' := by
  have HS : Hid (CivAt w w.heap.size [.int .i64 kd, strV nm, .int .i64 tm, .int .i64 fa, .int .i64 pa, .int .i64 pb, .int .i64 pc, .slice ra rn rc] (w.alloc (.cells #[.int .i64 kd, strV nm, .int .i64 tm, .int .i64 fa, .int .i64 pa, .int .i64 pb, .int .i64 pc, .slice ra rn rc] 29))) := ⟨RowAt.new w [.int .i64 kd, strV nm, .int .i64 tm, .int .i64 fa, .int .i64 pa, .int .i64 pb, .int .i64 pc, .slice ra rn rc] (by simp) _ rfl, (Below.refl _ _).alloc (Nat.le_refl _) _⟩
  have HT := Lib.hid hT
  have HBn := Lib.hid hBn
  have HP := Lib.hid hP
  have HV := Lib.hid hv
  have HJ := Lib.hid (join_rep kd nm tm l)
  have hrn : l.length = rn := by
    rcases hP with ⟨a, c, e, rfl⟩ | ⟨b, off, cap, e, _⟩
    · simp at e; exact e.2.1.symm
    · simp at e; exact e.2.1.symm
  have HCell : Hid (∀ j, j < rn → ∃ b off : Nat, ra = some ⟨b, off, none⟩ ∧ b < w.heap.size ∧ w.cell? ⟨b, off + j * 2, none⟩ = some (.int .i64 (l.getD j (0, 0)).1) ∧ w.cell? ⟨b, off + j * 2 + 1, none⟩ = some (.int .i64 (l.getD j (0, 0)).2)) := fun j hj => by
    rcases hP with ⟨a, c, e, rfl⟩ | ⟨b, off, cap, e, hb, hc⟩
    · simp at e; omega
    · simp at e
      have := hc j (by omega)
      exact ⟨b, off, e.1, hb, this.1, this.2⟩
  have HTk : Hid (∀ j, j < rn → [kindT kd, nm, momT tm] ++ (l.take (j + 1)).map rdT = [kindT kd, nm, momT tm] ++ (l.take j).map rdT ++ [rdT (l.getD j (0, 0))] ∧ I64 (l.getD j (0, 0)).1 ∧ I64 (l.getD j (0, 0)).2) := fun j hj => by
    have e : l.getD j (0, 0) = l[j]'(by omega) := by simp [List.getD_eq_getElem?_getD, show j < l.length by omega]
    refine ⟨?_, ?_⟩
    · rw [List.take_succ_eq_append_getElem (by omega), e, List.map_append, ← List.append_assoc]
      rfl
    · rw [e]; exact hv _ (List.getElem_mem _)
  have HEn : Hid ([kindT kd, nm, momT tm] ++ (l.take rn).map rdT = repL kd nm tm l) := by unfold Hid repL; rw [List.take_of_length_le (by omega)]
  rw [hrn] at hl
  have HRn := Lib.hid hrn
  clear hrn
  clear hT hBn hP hv
  unfold strV at HS ⊢
  go_enter Tryz.func14, Tryz.ntmps14
  go_wp2_with fail
  generalize w.alloc _ = w2 at HS ⊢
  have HC0 := Lib.hid (HS.out.new (Below.refl w2.heap.size w2).drew)
  refine wp_region_seqL (by kernel_rfl) (fun w' => CivAt w w.heap.size [.int .i64 kd, .string ⟨nm.toArray⟩, .int .i64 tm, .int .i64 fa, .int .i64 pa, .int .i64 pb, .int .i64 pc, .slice ra rn rc] w') 8 [(0, 0), (1, 1), (3, 0), (4, 1), (5, 0), (6, 1), (2, 2), (7, 2), (8, 2), (9, 0)] (by kernel_rfl) (HC0.out) ?_
  refine sl_q (d := some 6) rfl rfl rfl (.pointer (some ⟨w.heap.size, 0, none⟩)) (fun w => by go_simp) ?_
  simp only [Act.put, List.setIfInBounds_toArray, List.set_cons_zero, List.set_cons_succ]
  refine sl_s (d := some 7) rfl rfl rfl (.int .i64 kd) (fun w hw => by have h := hw.1.at 0 rfl; simp [execOp, Act.eval, go_sem, h]) ?_
  simp only [Act.put, List.setIfInBounds_toArray, List.set_cons_zero, List.set_cons_succ]
  refine sl_q (d := some 9) rfl rfl rfl (.pointer (some ⟨w.heap.size, 1, none⟩)) (fun w => by go_simp) ?_
  simp only [Act.put, List.setIfInBounds_toArray, List.set_cons_zero, List.set_cons_succ]
  refine sl_s (d := some 10) rfl rfl rfl (.string ⟨nm.toArray⟩) (fun w hw => by have h := hw.1.at 1 rfl; simp [execOp, Act.eval, go_sem, h]) ?_
  simp only [Act.put, List.setIfInBounds_toArray, List.set_cons_zero, List.set_cons_succ]
  refine sl_q (d := some 11) rfl rfl rfl (.pointer (some ⟨w.heap.size, 2, none⟩)) (fun w => by go_simp) ?_
  simp only [Act.put, List.setIfInBounds_toArray, List.set_cons_zero, List.set_cons_succ]
  refine sl_s (d := some 12) rfl rfl rfl (.int .i64 tm) (fun w hw => by have h := hw.1.at 2 rfl; simp [execOp, Act.eval, go_sem, h]) ?_
  simp only [Act.put, List.setIfInBounds_toArray, List.set_cons_zero, List.set_cons_succ]
  refine sl_call (d := some 8) rfl rfl rfl ⟨_, Tryz.func34, by kernel_rfl, by kernel_rfl⟩ _ _ _ rfl rfl [.int .i64 kd] rfl (kind_any kd w2.drew) ?_
  rintro e u1 ⟨rfl, hb⟩
  have HC1 := Lib.hid (HC0.out.new hb)
  refine ⟨_, rfl, fun _ => HC1.out, ?_⟩
  clear hb HC0
  simp only [Act.put, List.setIfInBounds_toArray, List.set_cons_zero, List.set_cons_succ]
  refine sl_call (d := some 13) rfl rfl rfl ⟨_, Tryz.func35, by kernel_rfl, by kernel_rfl⟩ _ _ _ rfl rfl [.int .i64 tm] rfl (time_any tm u1) ?_
  rintro e u2 ⟨rfl, hma, hmb, hb⟩
  have HC2 := Lib.hid (HC1.out.new hb)
  refine ⟨_, rfl, fun _ => HC2.out, ?_⟩
  clear hb HC1
  simp only [Act.put, List.setIfInBounds_toArray, List.set_cons_zero, List.set_cons_succ]
  obtain ⟨u3, hu3⟩ : ∃ x, x = u2.alloc (.cells #[.string ⟨(kindT kd).toArray⟩, .string ⟨nm.toArray⟩, .string ⟨(momT tm).toArray⟩] 9) := ⟨_, rfl⟩
  obtain ⟨g, hg⟩ : ∃ x, x = u2.heap.size := ⟨_, rfl⟩
  have hb : Below u2.heap.size u2 u3 := by rw [hu3]; exact (Below.refl _ _).alloc (Nat.le_refl _) _
  have HC3 := Lib.hid (HC2.out.new hb)
  refine sl_run (d := some 14) rfl rfl rfl (.slice (some ⟨g, 0, none⟩) 3 3) u3 (by rw [hu3, hg]; simp [execOp, Act.eval, go_sem, strV]) ((fun h => by cases h)) ?_
  simp only [Act.put, List.setIfInBounds_toArray, List.set_cons_zero, List.set_cons_succ]
  clear hb HC2
  refine sl_q (d := some 3) rfl rfl rfl (.slice (some ⟨g, 0, none⟩) 3 3) (fun w => rfl) ?_
  simp only [Act.put, List.setIfInBounds_toArray, List.set_cons_zero, List.set_cons_succ]
  refine sl_end ?_
  have HLen : Hid ((Lib.join (repL kd nm tm l) [32]).length ≤ 2000000 ∧ (repL kd nm tm l).length ≤ 1003) := by
    refine ⟨?_, by have := HRn.out; simp [repL]; omega⟩
    rw [HJ.out]
    unfold repT
    have h1 := fold_len 1000 ([nm, momT tm] ++ l.map rdT) (fun s hs => by
      simp at hs
      rcases hs with rfl | rfl | ⟨a, b, hx, rfl⟩
      · exact hnm
      · omega
      · have := rdT_len (a, b) (HV.out _ hx).2; omega)
    have h2 := (kindT_len kd).2
    have h3 : ([nm, momT tm] ++ l.map rdT).length ≤ 1002 := by have := HRn.out; simp; omega
    have h4 : (1000 + 1) * ([nm, momT tm] ++ l.map rdT).length ≤ (1000 + 1) * 1002 := Nat.mul_le_mul_left _ h3
    rw [List.length_append]
    omega
  have HO : Hid (OwnS u3 w.heap.size (.slice (some ⟨g, 0, none⟩) 3 3) [kindT kd, nm, momT tm]) := by unfold Hid; rw [hu3]; exact OwnS.lit u2 [kindT kd, nm, momT tm] (by simp) rfl (by have := HC3.out.1.lt; rw [hu3] at this; simp at this; omega) hg.symm rfl
  have HB3 := Lib.hid HC3.out.2
  have c7 : u3.cell? ⟨w.heap.size, 7, none⟩ = some (.slice ra rn rc) := HC3.out.1.at 7 rfl
  clear hma hmb hnm hu3 hg HC3 HRn HV HS
  go_wp2_with fail
  clear c7
  go_loopw [3, 5, 18] (fun sv _ kv wr => ∃ k : Nat, k ≤ rn ∧ kv = .int .i64 k ∧ Hid (OwnS wr w.heap.size sv ([kindT kd, nm, momT tm] ++ (l.take k).map rdT)) ∧ Hid (Below w.heap.size w wr)) (fun _ _ kv _ => rn - (intOf kv).toNat)
  case atStart => exact ⟨0, by omega, rfl, HO, HB3⟩
  case round =>
    clear HO HB3
    obtain ⟨k, hk, rfl, HO, HB⟩ := hrel
    by_cases hlt : k < rn
    · have hki : (k : Int) < (rn : Int) := by omega
      obtain ⟨bd, od, rfl, hbd, hd1, hd2⟩ := HCell.out k hlt
      obtain ⟨HTk1, hI1, hI2⟩ := HTk.out k hlt
      have e1 : wr.cell? ⟨bd, od + k * 2, none⟩ = some (.int .i64 (l.getD k (0, 0)).1) := by rw [HB.out.cell (p := ⟨bd, od + k * 2, none⟩) hbd]; exact hd1
      have e2 : wr.cell? ⟨bd, od + k * 2 + 1, none⟩ = some (.int .i64 (l.getD k (0, 0)).2) := by rw [HB.out.cell (p := ⟨bd, od + k * 2 + 1, none⟩) hbd]; exact hd2
      have HTk1 := Lib.hid HTk1
      have HI1 := Lib.hid hI1
      have HI2 := Lib.hid hI2
      have hlsl : ([kindT kd, nm, momT tm] ++ (l.take k).map rdT).length ≤ 1003 := by simp; omega
      generalize [kindT kd, nm, momT tm] ++ (l.take k).map rdT = ls at *
      generalize hls' : [kindT kd, nm, momT tm] ++ (l.take (k + 1)).map rdT = ls' at *
      have HLs' := Lib.hid hls'
      clear hls'
      generalize l.getD k (0, 0) = x at *
      obtain ⟨p, q⟩ := x
      have HR := Lib.hid (range_two e1 e2)
      clear hI1 hI2 hd1 hd2 e1 e2 hbd
      go_wp2_with (first
        | ((first | with_reducible refine gate_ld ?_ | with_reducible refine gate_ldw ?_)
           refine mid_load rfl _ rfl bd (od + k * 2) rfl [.int .i64 p, .int .i64 q] HR.out rowT_rd ?_)
        | fail)
      have HW := Lib.hid ((Below.refl wr.heap.size wr).alloc (Nat.le_refl _) (.cells #[.int .i64 p, .int .i64 q] 78))
      have HB8 := Lib.hid (below_then HB.out HW.out)
      have HO8 := Lib.hid (HO.out.below HW.out)
      have HF8 : Hid (RowAt (wr.alloc (.cells #[.int .i64 p, .int .i64 q] 78)) wr.heap.size [.int .i64 p, .int .i64 q]) := RowAt.new wr [.int .i64 p, .int .i64 q] (by simp) _ rfl
      clear HW HB HO HR
      generalize wr.heap.size = fx at *
      generalize wr.alloc _ = w8 at HB8 HO8 HF8 ⊢
      have HC0 : Hid (CivAt w8 fx [.int .i64 p, .int .i64 q] w8.drew) := ⟨HF8.out.drew, (Below.refl _ _).drew⟩
      have hrl : (Lib.itoa q).length ≤ 21 := (itoa_len _ HI2.out).2
      have hll := letT_len p
      have HRd : Hid (letT p ++ [61] ++ Lib.itoa q = rdT (p, q)) := rfl
      refine wp_region_seqL (by kernel_rfl) (fun w' => CivAt w8 fx [.int .i64 p, .int .i64 q] w') 10 [(0, 0), (1, 0), (2, 1), (5, 0), (6, 1), (3, 2), (4, 0), (7, 2), (8, 0), (9, 2), (10, 2), (11, 0)] (by kernel_rfl) (HC0.out) ?_
      refine sl_q (d := some 22) rfl rfl rfl (u3) (fun w => rfl) ?_
      simp only [Act.put, List.setIfInBounds_toArray, List.set_cons_zero, List.set_cons_succ]
      refine sl_q (d := some 23) rfl rfl rfl (.pointer (some ⟨fx, 0, none⟩)) (fun w => by go_simp) ?_
      simp only [Act.put, List.setIfInBounds_toArray, List.set_cons_zero, List.set_cons_succ]
      refine sl_s (d := some 24) rfl rfl rfl (.int .i64 p) (fun w hw => by have h := hw.1.at 0 rfl; simp [execOp, Act.eval, go_sem, h]) ?_
      simp only [Act.put, List.setIfInBounds_toArray, List.set_cons_zero, List.set_cons_succ]
      refine sl_q (d := some 27) rfl rfl rfl (.pointer (some ⟨fx, 1, none⟩)) (fun w => by go_simp) ?_
      simp only [Act.put, List.setIfInBounds_toArray, List.set_cons_zero, List.set_cons_succ]
      refine sl_s (d := some 28) rfl rfl rfl (.int .i64 q) (fun w hw => by have h := hw.1.at 1 rfl; simp [execOp, Act.eval, go_sem, h]) ?_
      simp only [Act.put, List.setIfInBounds_toArray, List.set_cons_zero, List.set_cons_succ]
      refine sl_call (d := some 25) rfl rfl rfl ⟨_, Tryz.func36, by kernel_rfl, by kernel_rfl⟩ _ _ _ rfl rfl [.int .i64 p] rfl (letter_any p w8.drew (HBn.out.below (HB8.out.trans (HC0.out.2.mono HB8.out.size)))) ?_
      rintro e v1 ⟨rfl, hb⟩
      have HC1 := Lib.hid (HC0.out.new hb)
      refine ⟨_, rfl, fun _ => HC1.out, ?_⟩
      clear hb HC0
      simp only [Act.put, List.setIfInBounds_toArray, List.set_cons_zero, List.set_cons_succ]
      refine sl_q (d := some 26) rfl rfl rfl (.string ⟨(letT p ++ [61]).toArray⟩) (fun w => add_run _ _ rfl (letT p) ([61]) rfl rfl (by simp; omega)) ?_
      simp only [Act.put, List.setIfInBounds_toArray, List.set_cons_zero, List.set_cons_succ]
      refine sl_call (d := some 29) rfl rfl rfl ⟨_, Tryz.func32, by kernel_rfl, by kernel_rfl⟩ _ _ _ rfl rfl [.int .i64 q] rfl (itoa_any q HI2.out v1 (HT.out.below (HB8.out.trans (HC1.out.2.mono HB8.out.size)))) ?_
      rintro e v2 ⟨rfl, hb⟩
      have HC2 := Lib.hid (HC1.out.new hb)
      refine ⟨_, rfl, fun _ => HC2.out, ?_⟩
      clear hb HC1
      simp only [Act.put, List.setIfInBounds_toArray, List.set_cons_zero, List.set_cons_succ]
      refine sl_q (d := some 30) rfl rfl rfl (.string ⟨(letT p ++ [61] ++ Lib.itoa q).toArray⟩) (fun w => add_run _ _ rfl (letT p ++ [61]) (Lib.itoa q) rfl rfl (by simp; omega)) ?_
      simp only [Act.put, List.setIfInBounds_toArray, List.set_cons_zero, List.set_cons_succ]
      have hb82 := HC2.out.2
      obtain ⟨v3, hv3⟩ : ∃ x, x = v2.alloc (.cells #[.string ⟨(letT p ++ [61] ++ Lib.itoa q).toArray⟩] 9) := ⟨_, rfl⟩
      obtain ⟨g, hg⟩ : ∃ x, x = v2.heap.size := ⟨_, rfl⟩
      have hb : Below v2.heap.size v2 v3 := by rw [hv3]; exact (Below.refl _ _).alloc (Nat.le_refl _) _
      have HC3 := Lib.hid (HC2.out.new hb)
      refine sl_run (d := some 31) rfl rfl rfl (.slice (some ⟨g, 0, none⟩) 1 1) v3 (by rw [hv3, hg]; simp [execOp, Act.eval, go_sem, strV]) (fun _ => HC3.out) ?_
      simp only [Act.put, List.setIfInBounds_toArray, List.set_cons_zero, List.set_cons_succ]
      clear hb HC2
      have hO2 : OwnS v2 w.heap.size u3 ls := HO8.out.below hb82
      obtain ⟨v9, w9, hrun, hO9, hB9⟩ := append_str hO2 (letT p ++ [61] ++ Lib.itoa q) (by omega) (Nat.le_trans HB8.out.size hb82.size) 52
      rw [← hg] at hrun
      rw [show v2.alloc (.cells #[strV (letT p ++ [61] ++ Lib.itoa q)] 9) = v3 by rw [hv3]; rfl] at hrun
      have hB9 : Below w.heap.size w8 w9 := (hb82.mono HB8.out.size).trans hB9
      refine sl_run (d := some 32) rfl rfl rfl _ w9 (run_append _ _ _ rfl _ _ rfl rfl hrun) (fun h => by cases h) ?_
      simp only [Act.put, List.setIfInBounds_toArray, List.set_cons_zero, List.set_cons_succ]
      clear hrun hO2 hg hv3 hb82
      refine sl_q (d := some 3) rfl rfl rfl (v9) (fun w => rfl) ?_
      simp only [Act.put, List.setIfInBounds_toArray, List.set_cons_zero, List.set_cons_succ]
      refine sl_end ?_
      rw [HRd.out, ← HTk1.out, ← HLs'.out] at hO9
      have HO9 := Lib.hid hO9
      have HB9 := Lib.hid (HB8.out.trans hB9)
      clear hO9 hB9 hrl hll HB8 HO8 HF8
      go_wp2_with fail
      go_roundw
      case rel => first | exact ⟨k + 1, by omega, by go_num, HO9, HB9⟩ | ((repeat apply Exists.intro); exact ⟨⟨k + 1, by omega, by go_num, HO9, HB9⟩, rfl⟩)
      case measure => simp [intOf]; omega
    · obtain rfl : k = rn := by omega
      rw [HEn.out] at HO
      obtain ⟨g9, cap, rfl, hg9, hc9, hcap⟩ : ∃ g9 cap : Nat, u3 = .slice (some ⟨g9, 0, none⟩) (repL kd nm tm l).length cap ∧ g9 < wr.heap.size ∧ (∀ (j : Nat) (x : ByteArray), ((repL kd nm tm l).map fun s => (⟨s.toArray⟩ : ByteArray))[j]? = some x → wr.cell? ⟨g9, 0 + j, none⟩ = some (.string x)) ∧ (repL kd nm tm l).length ≤ cap := own_strs HO.out (by simp [repL])
      have HSJ := Lib.hid (Tryz.strings_Join g9 0 cap ((repL kd nm tm l).map fun s => (⟨s.toArray⟩ : ByteArray)) ⟨#[32]⟩ wr hc9 hg9 (by have := HLen.out.2; simp; omega) (by simpa using hcap) (by rw [join_map]; have := HLen.out.1; omega))
      rw [join_map, List.length_map] at HSJ
      have HBw := Lib.hid HB.out
      generalize (repL kd nm tm l).length = rl at *
      generalize hjn : Lib.join (repL kd nm tm l) [32] = jn at *
      have HJn := Lib.hid hjn
      clear hjn hc9 hg9 hcap HO HLen HEn
      go_wp2_with fail
      refine HSJ.out.mono ?_
      rintro e w9 ⟨rfl, hb⟩
      have HB9 := Lib.hid (below_then HBw.out hb)
      clear hb
      go_wp2_with fail
      go_ret
      exact ⟨by rw [← HJ.out]; rfl, HB9.out⟩
end Go.Proofs.YtmmmebdgannpgaaGreatDoor
/- Texts of reports, of the reference. Printed by gen_txtg.py. -/
namespace Go.Proofs.YtmmmebdgannpgaaGreatDoor
open Go Go.RowKit

def foldW (ss : List (List UInt8)) : List UInt8 := ss.foldr (fun s r => 32 :: s ++ r) []
theorem foldW_snoc (ss : List (List UInt8)) (x : List UInt8) : foldW (ss ++ [x]) = foldW ss ++ (32 :: x) := by
  unfold foldW
  induction ss with
  | nil => simp
  | cons s r ih => rw [List.cons_append, List.foldr_cons, ih, List.foldr_cons, List.append_assoc]
noncomputable def accT (kd : Int) (nm : List UInt8) (tm : Int) (l : List (Int × Int)) : List UInt8 := kindT kd ++ [32] ++ nm ++ [32] ++ momT tm ++ foldW (l.map rdT)
theorem accT_rep (kd : Int) (nm : List UInt8) (tm : Int) (l : List (Int × Int)) : accT kd nm tm l = repT kd nm tm l := by
  unfold accT repT foldW
  simp
set_option maxHeartbeats 8000000 in
set_option maxRecDepth 100000 in
theorem rreport_any (kd : Int) (nm : List UInt8) (tm fa pa pb pc : Int) (ra : Option Addr) (rn rc : Nat) (l : List (Int × Int)) (hnm : nm.length ≤ 1000) (hl : l.length ≤ 1000) (hv : ∀ x ∈ l, I64 x.1 ∧ I64 x.2) (w : World) (hP : PairsIn w.heap.size w (.slice ra rn rc) l) :
    Calls Tryz.prog 15 #[.agg #[.int .i64 kd, .string ⟨nm.toArray⟩, .int .i64 tm, .int .i64 fa, .int .i64 pa, .int .i64 pb, .int .i64 pc, .slice ra rn rc]] w fun e w' => e = .returned (strV (repT kd nm tm l)) ∧ Below w.heap.size w w' := by
  have HS : Hid (CivAt w w.heap.size [.int .i64 kd, .string ⟨nm.toArray⟩, .int .i64 tm, .int .i64 fa, .int .i64 pa, .int .i64 pb, .int .i64 pc, .slice ra rn rc] (w.alloc (.cells #[.int .i64 kd, .string ⟨nm.toArray⟩, .int .i64 tm, .int .i64 fa, .int .i64 pa, .int .i64 pb, .int .i64 pc, .slice ra rn rc] 29))) := ⟨RowAt.new w [.int .i64 kd, .string ⟨nm.toArray⟩, .int .i64 tm, .int .i64 fa, .int .i64 pa, .int .i64 pb, .int .i64 pc, .slice ra rn rc] (by simp) _ rfl, (Below.refl _ _).alloc (Nat.le_refl _) _⟩
  have HJ := Lib.hid (accT_rep kd nm tm l)
  have hrn : l.length = rn := by
    rcases hP with ⟨a, c, e, rfl⟩ | ⟨b, off, cap, e, _⟩
    · simp at e; exact e.2.1.symm
    · simp at e; exact e.2.1.symm
  have HCell : Hid (∀ j, j < rn → ∃ b off : Nat, ra = some ⟨b, off, none⟩ ∧ b < w.heap.size ∧ w.cell? ⟨b, off + j * 2, none⟩ = some (.int .i64 (l.getD j (0, 0)).1) ∧ w.cell? ⟨b, off + j * 2 + 1, none⟩ = some (.int .i64 (l.getD j (0, 0)).2)) := fun j hj => by
    rcases hP with ⟨a, c, e, rfl⟩ | ⟨b, off, cap, e, hb, hc⟩
    · simp at e; omega
    · simp at e
      have := hc j (by omega)
      exact ⟨b, off, e.1, hb, this.1, this.2⟩
  have HTk : Hid (∀ j, j < rn → accT kd nm tm (l.take (j + 1)) = accT kd nm tm (l.take j) ++ ([32] ++ letT (l.getD j (0, 0)).1 ++ [61] ++ Lib.itoa (l.getD j (0, 0)).2) ∧ I64 (l.getD j (0, 0)).1 ∧ I64 (l.getD j (0, 0)).2) := fun j hj => by
    have e : l.getD j (0, 0) = l[j]'(by omega) := by simp [List.getD_eq_getElem?_getD, show j < l.length by omega]
    refine ⟨?_, ?_⟩
    · unfold accT
      rw [List.take_succ_eq_append_getElem (by omega), e, List.map_append, List.map_cons, List.map_nil, foldW_snoc]
      simp [rdT]
    · rw [e]; exact hv _ (List.getElem_mem _)
  have HLt : Hid (1 ≤ (momT tm).length → (momT tm).length ≤ 16 → ∀ j, (accT kd nm tm (l.take j)).length ≤ 30000) := fun h1 h2 j => by
    have h3 := fold_len 23 ((l.take j).map rdT) (fun s hs => by
      simp only [List.mem_map] at hs
      obtain ⟨x, hx, rfl⟩ := hs
      exact rdT_len x (hv _ (List.mem_of_mem_take hx)).2)
    have h4 := (kindT_len kd).2
    have h5 : ((l.take j).map rdT).length ≤ 1000 := by simp; omega
    unfold accT foldW
    simp only [List.length_append, List.length_cons, List.length_nil]
    omega
  have HEn : Hid (accT kd nm tm (l.take rn) = accT kd nm tm l) := by unfold Hid; rw [List.take_of_length_le (by omega)]
  rw [hrn] at hl
  have hkl := (kindT_len kd).2
  have HA0 : Hid (accT kd nm tm (l.take 0) = kindT kd ++ [32] ++ nm ++ [32] ++ momT tm) := by unfold Hid accT foldW; simp
  clear hrn hv hP
  unfold strV
  go_enter Tryz.func15, Tryz.ntmps15
  go_wp2_with fail
  generalize w.alloc _ = w2 at HS ⊢
  have HC0 := Lib.hid (HS.out.new (Below.refl w2.heap.size w2).drew)
  refine wp_region_seq (by kernel_rfl) (fun w' => CivAt w w.heap.size [.int .i64 kd, .string ⟨nm.toArray⟩, .int .i64 tm, .int .i64 fa, .int .i64 pa, .int .i64 pb, .int .i64 pc, .slice ra rn rc] w') [(0, true), (1, true), (4, true), (5, true), (8, true), (9, true), (2, false), (3, true), (6, true), (7, true), (10, false), (11, true), (12, true)] (by kernel_rfl) (HC0.out) ?_
  refine seq_q (d := some 8) rfl rfl rfl (.pointer (some ⟨w.heap.size, 0, none⟩)) (fun w _ => by go_simp) ?_
  simp only [Act.put, List.setIfInBounds_toArray, List.set_cons_zero, List.set_cons_succ]
  refine seq_q (d := some 9) rfl rfl rfl (.int .i64 kd) (fun w hw => by have h := hw.1.at 0 rfl; simp [execOp, Act.eval, go_sem, h]) ?_
  simp only [Act.put, List.setIfInBounds_toArray, List.set_cons_zero, List.set_cons_succ]
  refine seq_q (d := some 12) rfl rfl rfl (.pointer (some ⟨w.heap.size, 1, none⟩)) (fun w _ => by go_simp) ?_
  simp only [Act.put, List.setIfInBounds_toArray, List.set_cons_zero, List.set_cons_succ]
  refine seq_q (d := some 13) rfl rfl rfl (.string ⟨nm.toArray⟩) (fun w hw => by have h := hw.1.at 1 rfl; simp [execOp, Act.eval, go_sem, h]) ?_
  simp only [Act.put, List.setIfInBounds_toArray, List.set_cons_zero, List.set_cons_succ]
  refine seq_q (d := some 16) rfl rfl rfl (.pointer (some ⟨w.heap.size, 2, none⟩)) (fun w _ => by go_simp) ?_
  simp only [Act.put, List.setIfInBounds_toArray, List.set_cons_zero, List.set_cons_succ]
  refine seq_q (d := some 17) rfl rfl rfl (.int .i64 tm) (fun w hw => by have h := hw.1.at 2 rfl; simp [execOp, Act.eval, go_sem, h]) ?_
  simp only [Act.put, List.setIfInBounds_toArray, List.set_cons_zero, List.set_cons_succ]
  refine seq_call (d := some 10) rfl rfl rfl ⟨_, Tryz.func38, by kernel_rfl, by kernel_rfl⟩ _ _ _ rfl rfl [.int .i64 kd] rfl (rkind_any kd w2.drew) ?_
  rintro e u1 ⟨rfl, hb⟩
  have HC1 := Lib.hid (HC0.out.new hb)
  refine ⟨_, rfl, HC1.out, ?_⟩
  clear hb HC0
  simp only [Act.put, List.setIfInBounds_toArray, List.set_cons_zero, List.set_cons_succ]
  refine seq_q (d := some 11) rfl rfl rfl (.string ⟨(kindT kd ++ [32]).toArray⟩) (fun w _ => add_run _ _ rfl (kindT kd) ([32]) rfl rfl (by simp; omega)) ?_
  simp only [Act.put, List.setIfInBounds_toArray, List.set_cons_zero, List.set_cons_succ]
  refine seq_q (d := some 14) rfl rfl rfl (.string ⟨(kindT kd ++ [32] ++ nm).toArray⟩) (fun w _ => add_run _ _ rfl (kindT kd ++ [32]) (nm) rfl rfl (by simp; omega)) ?_
  simp only [Act.put, List.setIfInBounds_toArray, List.set_cons_zero, List.set_cons_succ]
  refine seq_q (d := some 15) rfl rfl rfl (.string ⟨(kindT kd ++ [32] ++ nm ++ [32]).toArray⟩) (fun w _ => add_run _ _ rfl (kindT kd ++ [32] ++ nm) ([32]) rfl rfl (by simp; omega)) ?_
  simp only [Act.put, List.setIfInBounds_toArray, List.set_cons_zero, List.set_cons_succ]
  refine seq_call (d := some 18) rfl rfl rfl ⟨_, Tryz.func39, by kernel_rfl, by kernel_rfl⟩ _ _ _ rfl rfl [.int .i64 tm] rfl (moment_any tm u1) ?_
  rintro e u2 ⟨rfl, hma, hmb, hb⟩
  have HC2 := Lib.hid (HC1.out.new hb)
  refine ⟨_, rfl, HC2.out, ?_⟩
  clear hb HC1
  simp only [Act.put, List.setIfInBounds_toArray, List.set_cons_zero, List.set_cons_succ]
  refine seq_q (d := some 19) rfl rfl rfl (.string ⟨(kindT kd ++ [32] ++ nm ++ [32] ++ momT tm).toArray⟩) (fun w _ => add_run _ _ rfl (kindT kd ++ [32] ++ nm ++ [32]) (momT tm) rfl rfl (by simp; omega)) ?_
  simp only [Act.put, List.setIfInBounds_toArray, List.set_cons_zero, List.set_cons_succ]
  refine seq_q (d := some 3) rfl rfl rfl (.string ⟨(kindT kd ++ [32] ++ nm ++ [32] ++ momT tm).toArray⟩) (fun w _ => rfl) ?_
  simp only [Act.put, List.setIfInBounds_toArray, List.set_cons_zero, List.set_cons_succ]
  refine seq_end ?_
  rw [← HA0.out]
  have HLj := Lib.hid (HLt.out hma hmb)
  have HK := Lib.hid HC2.out
  clear hma hmb HLt HA0 hkl hnm HC2 HS
  go_wp2_with fail
  have HY : Hid (strV (accT kd nm tm (l.take 0)) = .string ⟨(accT kd nm tm (l.take 0)).toArray⟩) := rfl
  generalize (⟨(accT kd nm tm (l.take 0)).toArray⟩ : ByteArray) = y0 at HY ⊢
  generalize (⟨(kindT kd ++ [32] ++ nm ++ [32]).toArray⟩ : ByteArray) = y1
  generalize (⟨(kindT kd ++ [32] ++ nm).toArray⟩ : ByteArray) = y2
  generalize (⟨(kindT kd ++ [32]).toArray⟩ : ByteArray) = y3
  go_loopw [3, 4] (fun sv kv wr => ∃ k : Nat, k ≤ rn ∧ kv = .int .i64 k ∧ sv = strV (accT kd nm tm (l.take k)) ∧ Hid (CivAt w w.heap.size [.int .i64 kd, .string ⟨nm.toArray⟩, .int .i64 tm, .int .i64 fa, .int .i64 pa, .int .i64 pb, .int .i64 pc, .slice ra rn rc] wr)) (fun _ kv _ => rn - (intOf kv).toNat)
  case atStart => exact ⟨0, by omega, rfl, HY.out.symm, HK⟩
  case round =>
    clear HK
    obtain ⟨k, hk, rfl, rfl, HC⟩ := hrel
    have c7 : wr.cell? ⟨w.heap.size, 7, none⟩ = some (.slice ra rn rc) := HC.out.1.at 7 rfl
    by_cases hlt : k < rn
    · have hki : (k : Int) < (rn : Int) := by omega
      obtain ⟨bd, od, rfl, hbd, hd1, hd2⟩ := HCell.out k hlt
      obtain ⟨HTk1, hI1, hI2⟩ := HTk.out k hlt
      have hacl := HLj.out k
      have HTk1 := Lib.hid HTk1
      have HI2 := Lib.hid hI2
      generalize accT kd nm tm (l.take k) = ac at *
      generalize hac' : accT kd nm tm (l.take (k + 1)) = ac' at *
      have HAc := Lib.hid hac'
      clear hac'
      generalize l.getD k (0, 0) = x at *
      obtain ⟨p, q⟩ := x
      dsimp only at hd1 hd2 HTk1 HI2
      have HCell2 : Hid (∀ wx, Below w.heap.size w wx → wx.cell? ⟨bd, od + k * 2, none⟩ = some (.int .i64 p) ∧ wx.cell? ⟨bd, od + k * 2 + 1, none⟩ = some (.int .i64 q)) := fun wx hx => ⟨by rw [hx.cell (p := ⟨bd, od + k * 2, none⟩) hbd]; exact hd1, by rw [hx.cell (p := ⟨bd, od + k * 2 + 1, none⟩) hbd]; exact hd2⟩
      obtain ⟨e1, e2⟩ := HCell2.out wr HC.out.2
      have hd := rdesc_any p wr
      unfold DescOk infoOf infoV at hd
      have DD := Lib.hid (fun w => rdecimal_any q HI2.out w)
      unfold istr at DD
      have hil := (itoa_len q HI2.out).2
      have hll := letT_len p
      have a1 := sadd [32] (letT p) (by simp; omega)
      have a2 := sadd ([32] ++ letT p) [61] (by simp; omega)
      have a3 := sadd ([32] ++ letT p ++ [61]) (Lib.itoa q) (by simp; omega)
      have a4 := sadd ac ([32] ++ letT p ++ [61] ++ Lib.itoa q) (by simp; omega)
      clear hI1 hI2 hd1 hd2 hbd
      generalize Lib.itoa q = iq at *
      have HL : Hid ((descE p = 0 ∧ letter p = ⟨(letT p).toArray⟩) ∨ (descE p = 4 ∧ letT p = [63])) := by
        by_cases hp : 1 ≤ p ∧ p ≤ 11
        · exact .inl ⟨if_pos hp, by unfold letter letT; rw [if_pos hp, if_pos hp]⟩
        · exact .inr ⟨if_neg hp, if_neg hp⟩
      generalize letter p = lt at *
      generalize least p = i1 at *
      generalize most p = i2 at *
      generalize digits p = i3 at *
      generalize descE p = ee at *
      generalize letT p = lp at *
      rcases HL.out with ⟨rfl, rfl⟩ | ⟨rfl, rfl⟩
      case' inl =>
        generalize hz1 : [32] ++ lp = z1 at *
      case' inr =>
        generalize hz1 : ([32] ++ [63] : List UInt8) = z1 at *
      all_goals
        generalize hz2 : z1 ++ [61] = z2 at *
        generalize hz3 : z2 ++ iq = z3 at *
        clear hz1 hz2 hz3 HL
        have HDs := Lib.hid hd
        clear hd
        unfold strV
        go_wp2_with fail
        refine HDs.out.mono ?_
        rintro e w5 ⟨rfl, hb⟩
        have HC5 := Lib.hid (HC.out.new hb)
        clear hb HDs c7 e1 e2
        have c75 : w5.cell? ⟨w.heap.size, 7, none⟩ = some (.slice (some ⟨bd, od, none⟩) rn rc) := HC5.out.1.at 7 rfl
        obtain ⟨f1, f2⟩ := HCell2.out w5 HC5.out.2
        clear HC
        have hq1 : w.heap.size < w5.heap.size := HC5.out.1.lt
        have hq2 : bd < w5.heap.size := World.block_lt_of_cell? _ _ f2
        go_wp2_with fail
        refine (DD.out _).mono ?_
        rintro e w6 ⟨rfl, hb⟩
        have HC6 := Lib.hid ((HC5.out.new ((Below.refl _ _).alloc (Nat.le_refl _) _)).new hb)
        clear hb HC5 c75 f1 f2
        go_wp2_with fail
        go_roundw
        case rel => exact ⟨k + 1, by omega, by go_num, by rw [HAc.out, HTk1.out], HC6⟩
        case measure => simp [intOf]; omega
    · obtain rfl : k = rn := by omega
      rw [HEn.out]
      have HJ2 := Lib.hid HJ.out
      generalize accT kd nm tm l = r at *
      have HB := Lib.hid HC.out.2
      unfold strV
      go_wp2_with fail
      go_ret
      exact ⟨by rw [← HJ2.out]; rfl, HB.out⟩
end Go.Proofs.YtmmmebdgannpgaaGreatDoor
/- The lines of a field, of the reference; and Same. -/
namespace Go.Proofs.YtmmmebdgannpgaaGreatDoor
open Go Go.RowKit

/-- The lines of a field. -/
def lns (zs : List Int) : List (List UInt8) := (List.range ((zs.length + 9) / 10)).map (lineOf zs)
theorem lns_len (zs : List Int) : (lns zs).length = (zs.length + 9) / 10 := by simp [lns]
theorem lns_get (zs : List Int) (j : Nat) (hj : j < (zs.length + 9) / 10) : (lns zs)[j]? = some (lineOf zs j) := by
  simp [lns, List.getElem?_range, hj]
theorem piece_old (l : List Int) (z : Int) (j : Nat) (h : 10 * j + 10 ≤ l.length) : lineOf (l ++ [z]) j = lineOf l j := by
  unfold lineOf pieceW
  rw [List.drop_append_of_le_length (by omega), List.take_append_of_le_length (by rw [List.length_drop]; omega)]
theorem piece_new (l : List Int) (z : Int) (j : Nat) (h1 : 10 * j ≤ l.length) (h2 : l.length < 10 * j + 10) : pieceW (l ++ [z]) j = pieceW l j ++ [Lib.itoa (z / 256)] := by
  unfold pieceW
  rw [List.drop_append_of_le_length h1, List.take_of_length_le (by rw [List.length_append, List.length_drop]; simp; omega), List.take_of_length_le (l := l.drop (10 * j)) (by rw [List.length_drop]; omega), List.map_append]
  rfl
theorem lns_new (l : List Int) (z : Int) (h : l.length % 10 = 0) : lns (l ++ [z]) = lns l ++ [Lib.itoa (z / 256)] := by
  apply List.ext_getElem?
  intro j
  have hl := lns_len l
  have hl' : (lns (l ++ [z])).length = (l.length + 9) / 10 + 1 := by rw [lns_len, List.length_append]; simp; omega
  rcases Nat.lt_trichotomy j ((l.length + 9) / 10) with hj | hj | hj
  · rw [lns_get _ j (by rw [List.length_append]; simp; omega), List.getElem?_append_left (by omega), lns_get l j hj, piece_old l z j (by omega)]
  · rw [lns_get _ j (by rw [List.length_append]; simp; omega), List.getElem?_append_right (by omega), show j - (lns l).length = 0 by omega]
    have e : pieceW l j = [] := by
      unfold pieceW
      rw [List.drop_eq_nil_of_le (by omega)]; rfl
    unfold lineOf
    rw [piece_new l z j (by omega) (by omega), e]
    rfl
  · rw [List.getElem?_eq_none (by omega), List.getElem?_eq_none (by rw [List.length_append]; simp; omega)]
theorem lineOf_ne (l : List Int) (j : Nat) (h : 10 * j < l.length) : lineOf l j ≠ [] := by
  refine wordsOf_ne _ _ (Or.inr ?_) (fun s hs => ?_)
  · unfold pieceW
    intro e
    have := congrArg List.length e
    simp at this
    omega
  · unfold pieceW at hs
    simp only [List.mem_map] at hs
    obtain ⟨x, _, rfl⟩ := hs
    exact itoa_ne _
theorem lns_more (l : List Int) (z : Int) (q : Nat) (h : l.length % 10 ≠ 0) (hq : (l.length + 9) / 10 = q + 1) : lns (l ++ [z]) = (lns l).set q (lineOf l q ++ (32 :: Lib.itoa (z / 256))) := by
  apply List.ext_getElem?
  intro j
  have hl := lns_len l
  have hl' : (lns (l ++ [z])).length = (l.length + 9) / 10 := by rw [lns_len, List.length_append]; simp; omega
  rcases Nat.lt_trichotomy j q with hj | hj | hj
  · rw [lns_get _ j (by rw [List.length_append]; simp; omega), List.getElem?_set_ne (by omega), lns_get l j (by omega), piece_old l z j (by omega)]
  · subst hj
    rw [lns_get _ j (by rw [List.length_append]; simp; omega), List.getElem?_set_self (by omega)]
    unfold lineOf
    rw [piece_new l z j (by omega) (by omega), wordsOf_snoc, if_neg (show ¬ wordsOf [] (pieceW l j) = [] from lineOf_ne l j (by omega))]
  · rw [List.getElem?_eq_none (by omega), List.getElem?_eq_none (by rw [List.length_set]; omega)]
theorem lineOf_len (l : List Int) (hl : ∀ z ∈ l, I64 z) (j : Nat) : (lineOf l j).length ≤ 220 := by
  unfold lineOf
  refine Nat.le_trans (wordsOf_len _ _) ?_
  unfold pieceW
  have key : ∀ (m : List Int), (∀ z ∈ m, I64 z) → ((m.map fun z => Lib.itoa (z / 256)).map (fun s => s.length + 1)).sum ≤ 22 * m.length := by
    intro m
    induction m with
    | nil => intro _; simp
    | cons x r ih =>
      intro hm
      have h1 := ih (fun z hz => hm z (List.mem_cons_of_mem _ hz))
      have h2 := hm x (List.mem_cons_self)
      have h3 := (itoa_len (x / 256) (by unfold I64 at *; omega)).2
      simp only [List.map_cons, List.sum_cons, List.length_cons]
      omega
  have h1 := key ((l.drop (10 * j)).take 10) (fun z hz => hl z (List.mem_of_mem_drop (List.mem_of_mem_take hz)))
  have h2 : ((l.drop (10 * j)).take 10).length ≤ 10 := by rw [List.length_take]; omega
  simp only [List.length_nil]
  omega
theorem floor_any (n : Int) (hn : I64 n) (w : World) :
    Calls Tryz.prog 63 #[.int .i64 n, .int .i64 256] w fun e w' => e = .returned (.int .i64 (n / 256)) ∧ w = w' := by
  unfold I64 at hn
  have hr : n.tmod 256 = n - 256 * n.tdiv 256 := by have := Int.mul_tdiv_add_tmod n 256; omega
  by_cases h : n.tmod 256 < 0
  · have hq : n / 256 = n.tdiv 256 - 1 := by
      have h1 : n < 0 := by
        rcases Int.lt_or_le n 0 with q | q
        · exact q
        · have := Int.tmod_nonneg 256 q; omega
      have := Int.lt_tmod_of_pos n (show (0 : Int) < 256 by omega)
      omega
    rw [hq]
    have b1 : -9223372036854775808 < n.tdiv 256 := by omega
    have b2 : n.tdiv 256 ≤ 9223372036854775807 := by omega
    clear hq hr
    go_enter Tryz.func63, Tryz.ntmps63
    go_wp2
    go_ret
    exact ⟨rfl, rfl⟩
  · have hq : n / 256 = n.tdiv 256 := by
      have := Int.tmod_lt_of_pos n (show (0 : Int) < 256 by omega)
      omega
    rw [hq]
    clear hq hr
    go_enter Tryz.func63, Tryz.ntmps63
    go_wp2
    go_ret
    exact ⟨rfl, rfl⟩
theorem OwnS.stored {w : World} {base g cap : Nat} {ls : List (List UInt8)} (h : OwnS w base (.slice (some ⟨g, 0, none⟩) ls.length cap) ls) (j : Nat) (x : List UInt8) (hb : base ≤ g) : OwnS (w.setCell ⟨g, j, none⟩ (strV x)) base (.slice (some ⟨g, 0, none⟩) (ls.set j x).length cap) (ls.set j x) ∧ Below base w (w.setCell ⟨g, j, none⟩ (strV x)) := by
  have h1 := World.ownsRow.stored h j (strV x)
  have e : scs (ls.set j x) = (scs ls).set j (strV x) := by simp [scs, List.map_set]
  refine ⟨?_, (Below.refl base w).setCell (p := ⟨g, j, none⟩) hb _⟩
  unfold OwnS
  rw [e, List.length_set]
  exact h1.1
theorem OwnS.at {w : World} {base g cap n : Nat} {ls : List (List UInt8)} (h : OwnS w base (.slice (some ⟨g, 0, none⟩) n cap) ls) (j : Nat) {x : List UInt8} (hx : ls[j]? = some x) : w.cell? ⟨g, j, none⟩ = some (strV x) ∧ w.frozen? ⟨g, j, none⟩ = false ∧ base ≤ g := by
  have hn : n = ls.length := by
    rcases h.2 with ⟨e, _⟩ | ⟨g', cap', cur, e, _⟩
    · cases e
    · simp at e; exact e.2.1
  subst hn
  have hj := (List.getElem?_eq_some_iff.1 hx).1
  refine ⟨?_, World.ownsRow.frozenAt h j, ?_⟩
  · rw [World.ownsRow.cellAt h j (by omega)]
    simp [scs, hx]
  · rcases h.2 with ⟨e, _⟩ | ⟨g', cap', cur, e, hb, _⟩
    · cases e
    · simp at e; omega
def RMapIs (zs : List Int) (w : World) (e : Ending) (w' : World) : Prop := ∃ v, e = .returned v ∧ OwnS w' w.heap.size v (lns zs) ∧ Below w.heap.size w w'
set_option maxHeartbeats 8000000 in
set_option maxRecDepth 100000 in
theorem rmap_any (va : Option Addr) (n vc : Nat) (zs : List Int) (w : World) (hI : IntsIn w.heap.size w (.slice va n vc) zs) (hz : ∀ z ∈ zs, I64 z) (hlen : zs.length ≤ 300) :
    Calls Tryz.prog 24 #[.slice va n vc] w (RMapIs zs w) := by
  have hn : zs.length = n := by
    rcases hI with ⟨a, c, e, rfl⟩ | ⟨b, off, cap, e, _⟩
    · simp at e; exact e.2.1.symm
    · simp at e; exact e.2.1.symm
  have HCell : Hid (∀ j, j < n → ∃ b off : Nat, va = some ⟨b, off, none⟩ ∧ b < w.heap.size ∧ w.cell? ⟨b, off + j, none⟩ = some (.int .i64 (zs.getD j 0))) := fun j hj => by
    rcases hI with ⟨a, c, e, rfl⟩ | ⟨b, off, cap, e, _, _, hb, hc⟩
    · simp at e; omega
    · simp at e
      exact ⟨b, off, e.1, hb, hc j (by omega)⟩
  have HTk : Hid (∀ j, j < n → zs.take (j + 1) = zs.take j ++ [zs.getD j 0] ∧ (zs.take j).length = j ∧ I64 (zs.getD j 0)) := fun j hj => by
    have e : zs.getD j 0 = zs[j]'(by omega) := by simp [List.getD_eq_getElem?_getD, show j < zs.length by omega]
    refine ⟨?_, by rw [List.length_take]; omega, ?_⟩
    · rw [List.take_succ_eq_append_getElem (by omega), e]
    · rw [e]; exact hz _ (List.getElem_mem _)
  have HLn : Hid (∀ j k, (lineOf (zs.take j) k).length ≤ 220) := fun j k => lineOf_len _ (fun z h => hz z (List.mem_of_mem_take h)) k
  have HEn : Hid (zs.take n = zs) := by unfold Hid; rw [List.take_of_length_le (by omega)]
  rw [hn] at hlen
  have HO : Hid (OwnS w w.heap.size (.slice none 0 0) (lns (zs.take 0))) := by
    unfold Hid
    rw [List.take_zero, show lns [] = [] from rfl]
    exact World.ownsRow_nil _ _ _ _
  have HB : Hid (Below w.heap.size w w) := Below.refl _ _
  clear hI hz hn
  obtain ⟨wo, rfl⟩ : ∃ wo : World, wo = w := ⟨_, rfl⟩
  go_enter Tryz.func24, Tryz.ntmps24
  go_wp2_with fail
  go_loopw [3, 4] (fun sv kv wr => ∃ k : Nat, k ≤ n ∧ kv = .int .i64 k ∧ Hid (OwnS wr wo.heap.size sv (lns (zs.take k))) ∧ Hid (Below wo.heap.size wo wr)) (fun _ kv _ => n - (intOf kv).toNat)
  case atStart => exact ⟨0, by omega, rfl, HO, HB⟩
  case round =>
    clear HO HB
    obtain ⟨k, hk, rfl, HO, HB⟩ := hrel
    by_cases hlt : k < n
    · have hki : (k : Int) < (n : Int) := by omega
      obtain ⟨bd, od, rfl, hbd, hd1⟩ := HCell.out k hlt
      obtain ⟨hT1, hT2, hI⟩ := HTk.out k hlt
      have hll := HLn.out k
      have c0 : wr.cell? ⟨bd, od + k, none⟩ = some (.int .i64 (zs.getD k 0)) := by rw [HB.out.cell (p := ⟨bd, od + k, none⟩) hbd]; exact hd1
      have HT1 := Lib.hid hT1
      have HT2 := Lib.hid hT2
      have HI := Lib.hid hI
      generalize zs.take k = l at *
      generalize hl' : zs.take (k + 1) = l' at *
      have HL' := Lib.hid hl'
      generalize zs.getD k 0 = z at *
      have HQ : Hid (I64 (z / 256)) := by have := HI.out; unfold Hid I64 at *; omega
      have hil := (itoa_len _ HQ.out).2
      have DD := Lib.hid (fun w => rdecimal_any (z / 256) HQ.out w)
      have FL := Lib.hid (fun w => floor_any z HI.out w)
      unfold istr at DD
      have HNw : Hid (k % 10 = 0 → lns l' = lns l ++ [Lib.itoa (z / 256)]) := fun h => by rw [HT1.out]; exact lns_new l z (by rw [HT2.out]; exact h)
      have HMo : Hid (∀ q, k % 10 ≠ 0 → (k + 9) / 10 = q + 1 → lns l' = (lns l).set q (lineOf l q ++ (32 :: Lib.itoa (z / 256))) ∧ (lns l)[q]? = some (lineOf l q) ∧ (lns l).length = q + 1) := fun q h hq => by
        refine ⟨?_, lns_get l q (by rw [HT2.out]; omega), by rw [lns_len, HT2.out]; exact hq⟩
        rw [HT1.out]; exact lns_more l z q (by rw [HT2.out]; exact h) (by rw [HT2.out]; exact hq)
      generalize Lib.itoa (z / 256) = s at *
      generalize z / 256 = y at *
      clear hT1 hT2 hI hl' hd1 HQ HI HT1
      go_wp2_with fail
      refine (FL.out _).mono ?_
      rintro e w1 ⟨rfl, rfl⟩
      go_wp2_with fail
      refine (DD.out _).mono ?_
      rintro e w1 ⟨rfl, hb⟩
      have HO1 := Lib.hid (HO.out.below hb)
      have HB1 := Lib.hid (below_then HB.out hb)
      clear hb HO HB c0 FL DD hbd
      by_cases h10 : k % 10 = 0
      · have e10 : ((k : Int) % 10 == 0) = true := by simp; omega
        have HN := Lib.hid (HNw.out h10)
        have hsz : (lns l).length ≤ 100 := by rw [lns_len, HT2.out]; omega
        obtain ⟨v', w2, hrun, hO2, hB2⟩ := append_str HO1.out s (by omega) HB1.out.size 52
        have Hrun := Lib.hid hrun
        rw [← HN.out] at hO2
        have HO2 := Lib.hid hO2
        have HB2 := Lib.hid (HB1.out.trans hB2)
        unfold strV at Hrun
        clear hrun hO2 hB2 HNw HMo HO1 HN h10
        go_wp2_with (at_builtin; refine wpList_append_run rfl _ _ _ rfl _ _ _ _ rfl rfl Hrun.out ?_)
        go_roundw
        case rel => exact ⟨k + 1, by omega, by go_num, by rw [HL'.out]; exact HO2, HB2⟩
        case measure => simp [intOf]; omega
      · have e10 : ((k : Int) % 10 == 0) = false := by simp; omega
        obtain ⟨q, hq⟩ : ∃ q, (k + 9) / 10 = q + 1 := ⟨(k + 9) / 10 - 1, by omega⟩
        obtain ⟨hm1, hm2, hm3⟩ := HMo.out q h10 hq
        obtain ⟨g, cap, rfl, _, _, _⟩ := own_strs HO1.out (by omega)
        have ha := HO1.out.at q hm2
        obtain ⟨ca, fa, hbg⟩ := ha
        have hO1 := HO1.out
        have HSt := Lib.hid (hO1.stored q (lineOf l q ++ (32 :: s)) hbg)
        rw [← hm1, show (lns l').length = q + 1 by rw [hm1, List.length_set, hm3]] at HSt
        have HB2 := Lib.hid (HB1.out.trans HSt.out.2)
        have HO2 := Lib.hid HSt.out.1
        have hlq := hll q
        have a1 := sadd [32] s (by simp; omega)
        have a2 := sadd (lineOf l q) ([32] ++ s) (by simp; omega)
        rw [show [32] ++ s = 32 :: s from rfl] at a1 a2
        rw [hm3]
        generalize lineOf l q = lq at *
        have hqb : q ≤ 31 := by omega
        clear HSt hO1 HB1 HO1 hm1 hm2 hm3 HMo HNw hq h10 hll hlq hil HLn
        unfold strV at ca HO2 HB2
        go_wp2_with fail
        go_roundw
        case rel => exact ⟨k + 1, by omega, by go_num, by rw [HL'.out]; exact HO2, HB2⟩
        case measure => simp [intOf]; omega
    · obtain rfl : k = n := by omega
      rw [HEn.out] at HO
      go_wp2_with fail
      go_ret
      exact ⟨_, rfl, HO.out, HB.out⟩
end Go.Proofs.YtmmmebdgannpgaaGreatDoor
/- Same of two equal lists of texts. Printed by gen_txti.py. -/
namespace Go.Proofs.YtmmmebdgannpgaaGreatDoor
open Go Go.RowKit

theorem OwnS.cells {w : World} {base : Nat} {v : Value} {ls : List (List UInt8)} (h : OwnS w base v ls) : ∃ a c, v = .slice a ls.length c ∧ ∀ j, j < ls.length → ∃ g : Nat, a = some ⟨g, 0, none⟩ ∧ w.cell? ⟨g, j, none⟩ = some (strV (ls.getD j [])) := by
  by_cases h0 : 0 < ls.length
  · obtain ⟨g, cap, rfl, _, _, _⟩ := own_strs h h0
    refine ⟨_, _, rfl, fun j hj => ⟨g, rfl, ?_⟩⟩
    exact (h.at j (by rw [List.getD_eq_getElem?_getD, List.getElem?_eq_getElem hj]; rfl)).1
  · rcases h.2 with ⟨e, e2⟩ | ⟨g, cap, cur, e, _⟩
    · exact ⟨none, 0, by rw [e, e2], fun j hj => by omega⟩
    · exact ⟨_, _, e, fun j hj => by omega⟩
set_option maxHeartbeats 4000000 in
set_option maxRecDepth 100000 in
theorem same_any (v1 v2 : Value) (b1 b2 : Nat) (ls : List (List UInt8)) (hl : ls.length ≤ 1000) (w : World) (h1 : OwnS w b1 v1 ls) (h2 : OwnS w b2 v2 ls) : Calls Tryz.prog 22 #[v1, v2] w fun e w' => e = .returned (.bool true) ∧ Below w.heap.size w w' := by
  obtain ⟨a1, c1, rfl, k1⟩ := h1.cells
  obtain ⟨a2, c2, rfl, k2⟩ := h2.cells
  have HK1 := Lib.hid k1
  have HK2 := Lib.hid k2
  have HB : Hid (Below w.heap.size w w) := Below.refl _ _
  clear h1 h2 k1 k2
  obtain ⟨wo, rfl⟩ : ∃ wo : World, wo = w := ⟨_, rfl⟩
  generalize hN : ls.length = n at *
  clear hN
  go_enter Tryz.func22, Tryz.ntmps22
  go_wp2_with fail
  go_loopw [5] (fun kv wr => ∃ k : Nat, k ≤ n ∧ kv = .int .i64 k ∧ Hid (Below wo.heap.size wo wr) ∧ Hid (∀ j, j < n → wr.heap = wo.heap)) (fun kv _ => n - (intOf kv).toNat)
  case atStart => exact ⟨0, by omega, rfl, HB, fun _ _ => rfl⟩
  case round =>
    clear HB
    obtain ⟨k, hk, rfl, HB, HH⟩ := hrel
    by_cases hlt : k < n
    · have hki : (k : Int) < (n : Int) := by omega
      obtain ⟨g1, rfl, d1⟩ := HK1.out k hlt
      obtain ⟨g2, rfl, d2⟩ := HK2.out k hlt
      have hh := HH.out k hlt
      have e1 : wr.cell? ⟨g1, k, none⟩ = some (strV (ls.getD k [])) := by rw [← d1]; exact World.cell?_of_block (by rw [hh])
      have e2 : wr.cell? ⟨g2, k, none⟩ = some (strV (ls.getD k [])) := by rw [← d2]; exact World.cell?_of_block (by rw [hh])
      generalize ls.getD k [] = s at *
      have HS : Hid (wr.drew.cell? ⟨g1, k, none⟩ = some (strV s) ∧ wr.drew.cell? ⟨g2, k, none⟩ = some (strV s)) := ⟨e1, e2⟩
      clear d1 d2 hh e1 e2
      go_wp2_with fail
      refine wp_region_seq (by kernel_rfl) (fun w' => w'.cell? ⟨g1, k, none⟩ = some (strV s) ∧ w'.cell? ⟨g2, k, none⟩ = some (strV s)) [(0, true), (1, true), (2, true), (3, true), (4, true), (5, true), (6, true), (7, true), (8, true)] (by kernel_rfl) (HS.out) ?_
      refine seq_q (d := some 17) rfl rfl rfl (.slice (some ⟨g1, 0, none⟩) n c1) (fun w hw => rfl) ?_
      simp only [Act.put, List.setIfInBounds_toArray, List.set_cons_zero, List.set_cons_succ]
      refine seq_q (d := some 18) rfl rfl rfl (.int .i64 (k : Nat)) (fun w hw => rfl) ?_
      simp only [Act.put, List.setIfInBounds_toArray, List.set_cons_zero, List.set_cons_succ]
      refine seq_q (d := some 19) rfl rfl rfl (.pointer (some ⟨g1, k, none⟩)) (fun w hw => by simp [execOp, Act.eval, go_sem, hlt]) ?_
      simp only [Act.put, List.setIfInBounds_toArray, List.set_cons_zero, List.set_cons_succ]
      refine seq_q (d := some 20) rfl rfl rfl (strV s) (fun w hw => by simp [execOp, Act.eval, go_sem, hw.1]) ?_
      simp only [Act.put, List.setIfInBounds_toArray, List.set_cons_zero, List.set_cons_succ]
      refine seq_q (d := some 21) rfl rfl rfl (.slice (some ⟨g2, 0, none⟩) n c2) (fun w hw => rfl) ?_
      simp only [Act.put, List.setIfInBounds_toArray, List.set_cons_zero, List.set_cons_succ]
      refine seq_q (d := some 22) rfl rfl rfl (.int .i64 (k : Nat)) (fun w hw => rfl) ?_
      simp only [Act.put, List.setIfInBounds_toArray, List.set_cons_zero, List.set_cons_succ]
      refine seq_q (d := some 23) rfl rfl rfl (.pointer (some ⟨g2, k, none⟩)) (fun w hw => by simp [execOp, Act.eval, go_sem, hlt]) ?_
      simp only [Act.put, List.setIfInBounds_toArray, List.set_cons_zero, List.set_cons_succ]
      refine seq_q (d := some 24) rfl rfl rfl (strV s) (fun w hw => by simp [execOp, Act.eval, go_sem, hw.2]) ?_
      simp only [Act.put, List.setIfInBounds_toArray, List.set_cons_zero, List.set_cons_succ]
      refine seq_q (d := some 25) rfl rfl rfl (.bool false) (fun w hw => by simp [execOp, Act.eval, go_sem, strV]) ?_
      simp only [Act.put, List.setIfInBounds_toArray, List.set_cons_zero, List.set_cons_succ]
      refine seq_end ?_
      go_wp2_with fail
      go_roundw
      case rel => exact ⟨k + 1, by omega, by go_num, HB.out.drew, fun j hj => HH.out j hj⟩
      case measure => simp [intOf]; omega
    · obtain rfl : k = n := by omega
      go_wp2_with fail
      go_ret
      exact ⟨rfl, HB.out⟩
end Go.Proofs.YtmmmebdgannpgaaGreatDoor
/- The choices of synopticfield: Signed. -/
namespace Go.Proofs.YtmmmebdgannpgaaGreatDoor
open Go Go.RowKit

set_option maxHeartbeats 16000000 in
theorem signed_ok (B b : Nat) (m : Int) (w : World) (h : CodesIs w B b) (h1 : 0 ≤ m) (h2 : m ≤ 1000000000) :
    Calls Tryz.prog 31 #[.pointer (some ⟨b, 0, none⟩), .int .i64 m] w (IntIn (-m) m B b w) := by
  go_enter Tryz.func31, Tryz.ntmps31
  go_wp2_with fail
  refine (next_ok B b 256 w h (by omega) (by omega)).mono ?_
  rintro e w1 ⟨x, x0, x1, rfl, hs1⟩
  have HS1 := Lib.hid hs1
  clear hs1
  go_wp2_with fail
  refine (next_ok B b 256 w1 HS1.out.1 (by omega) (by omega)).mono ?_
  rintro e w2 ⟨y, y0, y1, rfl, hs2⟩
  have HS2 := Lib.hid (HS1.out.then hs2)
  clear hs2 HS1
  go_wp2_with fail
  refine (next_ok B b 256 w2 HS2.out.1 (by omega) (by omega)).mono ?_
  rintro e w3 ⟨z, z0, z1, rfl, hs3⟩
  have HS3 := Lib.hid (HS2.out.then hs3)
  clear hs3 HS2
  go_wp2_with fail
  have hq1 := Int.tmod_lt_of_pos (bits BinOp.or IntKind.i64 (bits BinOp.or IntKind.i64 (x * 65536) (y * 256)) z) (show 0 < m + 1 by omega)
  have hq2 := Int.lt_tmod_of_pos (bits BinOp.or IntKind.i64 (bits BinOp.or IntKind.i64 (x * 65536) (y * 256)) z) (show 0 < m + 1 by omega)
  generalize (bits BinOp.or IntKind.i64 (bits BinOp.or IntKind.i64 (x * 65536) (y * 256)) z).tmod (m + 1) = N at hq1 hq2 ⊢
  have hN : -m ≤ N ∧ N ≤ m := by omega
  obtain ⟨n1, n2⟩ := hN
  clear hq1 hq2
  refine (next_ok B b 2 w3 HS3.out.1 (by omega) (by omega)).mono ?_
  rintro e w4 ⟨s, s0, s1, rfl, hs4⟩
  have HS4 := Lib.hid (HS3.out.then hs4)
  clear hs4 HS3
  by_cases hs : s = 1
  · subst hs
    go_wp2_with fail
    go_ret
    exact ⟨_, by omega, by omega, rfl, HS4.out⟩
  · go_wp2_with fail
    go_ret
    exact ⟨N, n1, n2, rfl, HS4.out⟩
end Go.Proofs.YtmmmebdgannpgaaGreatDoor
/- The choices of synopticfield: Vector. -/
namespace Go.Proofs.YtmmmebdgannpgaaGreatDoor
open Go Go.RowKit

def ics (l : List Int) : List Value := l.map fun x => .int .i64 x
def OwnI (w : World) (base : Nat) (v : Value) (l : List Int) : Prop := w.ownsRow base 3 1 v l.length (ics l)
theorem OwnI.nil (w : World) (base : Nat) : OwnI w base (.slice none 0 0) [] := World.ownsRow_nil w base _ 1
theorem OwnI.below {w w' : World} {base : Nat} {v : Value} {l : List Int} (h : OwnI w base v l) (hb : Below w.heap.size w w') : OwnI w' base v l := ownsRow_below h hb
theorem OwnI.st {w w' : World} {base B b : Nat} {v : Value} {l : List Int} (h : OwnI w base v l) (hs : St w B b w') (hb : b < base) : OwnI w' base v l := ownsRow_but h hs.2 hb
theorem OwnI.mono {w : World} {base B : Nat} {v : Value} {l : List Int} (h : OwnI w base v l) (hB : B ≤ base) : OwnI w B v l := by
  obtain ⟨h1, h2⟩ := h
  refine ⟨h1, ?_⟩
  rcases h2 with h2 | ⟨g, cap, cur, e, hg, r⟩
  · exact Or.inl h2
  · exact Or.inr ⟨g, cap, cur, e, Nat.le_trans hB hg, r⟩
theorem OwnI.slice {w : World} {base : Nat} {v : Value} {l : List Int} (h : OwnI w base v l) : ∃ a c, v = .slice a l.length c := by
  rcases h.2 with ⟨e, h0⟩ | ⟨g, cap, cur, e, _⟩
  · exact ⟨none, 0, by rw [e, h0]⟩
  · exact ⟨_, _, e⟩
theorem iinfo : (Tryz.prog.info? 3).map (fun i => (i.zero, i.size, i.bytes)) = some (some (.int .i64 0), 1, 8) := by kernel_rfl
theorem append_i {w : World} {base : Nat} {v : Value} {l : List Int} (h : OwnI w base v l) (x : Int) (hn : l.length ≤ 1000000000) (hb : base ≤ w.heap.size) (ty : TypeId) :
    ∃ (v' : Value) (w' : World), (Builtin.append_ #[34, 34] ty #[v, .slice (some ⟨w.heap.size, 0, none⟩) 1 1]).run Tryz.prog (w.alloc (.cells #[.int .i64 x] 3)) = .ok v' w' ∧
      OwnI w' base v' (l ++ [x]) ∧ Below base w w' := by
  have h1 := append_new 34 3 Tryz.underlying34 iinfo rfl (by decide) h [.int .i64 x] 1 rfl (by intro u hu; simp at hu; subst hu; rfl) hn (by omega) (by decide) hb ty
  unfold OwnI
  rw [List.length_append]
  have e : ics (l ++ [x]) = ics l ++ [.int .i64 x] := by simp [ics]
  rw [e]; exact h1
/-- n ints within a limit, from o on in block g. -/
def LimAt (w : World) (g n : Nat) (lim : Int) : Prop := ∀ i, i < n → ∃ z : Int, -lim ≤ z ∧ z ≤ lim ∧ w.cell? ⟨g, i, none⟩ = some (.int .i64 z)
theorem LimAt.below {w w' : World} {g n : Nat} {lim : Int} (h : LimAt w g n lim) (hb : Below w.heap.size w w') : LimAt w' g n lim := fun i hi => by
  obtain ⟨z, z0, z1, hz⟩ := h i hi
  exact ⟨z, z0, z1, cell_then hb hz⟩
theorem LimAt.grown {w w' : World} {g n base : Nat} {lim : Int} (h : LimAt w g n lim) (hb : Below base w w') (hg : g < base) : LimAt w' g n lim := fun i hi => by
  obtain ⟨z, z0, z1, hz⟩ := h i hi
  exact ⟨z, z0, z1, by rw [hb.cell (p := ⟨g, i, none⟩) hg]; exact hz⟩
theorem LimAt.st {w w' : World} {g n B b : Nat} {lim : Int} (h : LimAt w g n lim) (hs : St w B b w') (hg : g ≠ b) : LimAt w' g n lim := fun i hi => by
  obtain ⟨z, z0, z1, hz⟩ := h i hi
  exact ⟨z, z0, z1, but_cell hs.2 hg hz⟩
def VecIs (lim : Int) (n B b : Nat) (w : World) (e : Ending) (w' : World) : Prop := ∃ (v : Value) (l : List Int), e = .returned v ∧ l.length = n ∧ (∀ x ∈ l, -lim ≤ x ∧ x ≤ lim) ∧ OwnI w' w.heap.size v l ∧ St w B b w'
structure VcS (w : World) (lim : Int) (B b base LB : Nat) (v : Value) (l : List Int) (wr : World) : Prop where
  own : OwnI wr base v l
  bnd : ∀ x ∈ l, -lim ≤ x ∧ x ≤ lim
  lit : LimAt wr LB 7 lim
  st : St w B b wr
  size : base ≤ wr.heap.size
theorem lits (w : World) (p q r s m lim : Int) (hp : -m ≤ p ∧ p ≤ m) (hq : -m ≤ q ∧ q ≤ m) (hr : -m ≤ r ∧ r ≤ m) (hs : -9 ≤ s ∧ s ≤ 9) (hm : 0 ≤ m ∧ m ≤ lim) (h9 : 9 ≤ lim) :
    LimAt (w.alloc (.cells #[.int .i64 p, .int .i64 q, .int .i64 r, .int .i64 s, .int .i64 0, .int .i64 m, .int .i64 (-m)] 3)) w.heap.size 7 lim := by
  intro i hi
  have hh : ∀ A, (w.alloc (.cells A 3)).heap[w.heap.size]? = some (.cells A 3 (0, 0)) := fun A => heap_alloc_new w _
  simp only [World.cell?, hh]
  have : i = 0 ∨ i = 1 ∨ i = 2 ∨ i = 3 ∨ i = 4 ∨ i = 5 ∨ i = 6 := by omega
  rcases this with rfl | rfl | rfl | rfl | rfl | rfl | rfl
  · exact ⟨p, by omega, by omega, rfl⟩
  · exact ⟨q, by omega, by omega, rfl⟩
  · exact ⟨r, by omega, by omega, rfl⟩
  · exact ⟨s, by omega, by omega, rfl⟩
  · exact ⟨0, by omega, by omega, rfl⟩
  · exact ⟨m, by omega, by omega, rfl⟩
  · exact ⟨-m, by omega, by omega, rfl⟩
set_option maxHeartbeats 16000000 in
set_option maxRecDepth 100000 in
theorem vector_ok (B b n : Nat) (m lim : Int) (w : World) (h : CodesIs w B b) (hn : n ≤ 5000) (h1 : 0 ≤ m ∧ m ≤ lim) (h2 : lim ≤ 1000000000) (h9 : 9 ≤ lim) :
    Calls Tryz.prog 11 #[.pointer (some ⟨b, 0, none⟩), .int .i64 n, .int .i64 m] w (VecIs lim n B b w) := by
  go_enter Tryz.func11, Tryz.ntmps11
  have hbw : Hid (b < w.heap.size) := h.lt
  have m0 : 0 ≤ m := h1.1
  have m1 : m ≤ 1000000000 := by omega
  have H1 := Lib.hid (And.intro h1 h9)
  clear h1 h2 h9
  go_wp2_with fail
  refine (signed_ok B b m w h m0 m1).mono ?_
  rintro e w1 ⟨p, p0, p1, rfl, hs1⟩
  have HS1 := Lib.hid hs1
  clear hs1 h
  go_wp2_with fail
  refine (signed_ok B b m w1 HS1.out.1 m0 m1).mono ?_
  rintro e w2 ⟨q, q0, q1, rfl, hs2⟩
  have HS2 := Lib.hid (HS1.out.then hs2)
  clear hs2 HS1
  go_wp2_with fail
  refine (signed_ok B b m w2 HS2.out.1 m0 m1).mono ?_
  rintro e w3 ⟨r, r0, r1, rfl, hs3⟩
  have HS3 := Lib.hid (HS2.out.then hs3)
  clear hs3 HS2
  go_wp2_with fail
  refine (signed_ok B b 9 w3 HS3.out.1 (by omega) (by omega)).mono ?_
  rintro e w4 ⟨s, s0, s1, rfl, hs4⟩
  have HS4 := Lib.hid (HS3.out.then hs4)
  clear hs4 HS3
  have HL : Hid (LimAt _ w4.heap.size 7 lim) := lits w4 p q r s m lim ⟨p0, p1⟩ ⟨q0, q1⟩ ⟨r0, r1⟩ ⟨s0, s1⟩ ⟨m0, H1.out.1.2⟩ H1.out.2
  have HLb : Hid (w4.heap.size ≠ b) := by have := HS4.out.lt; unfold Hid; omega
  obtain ⟨LB, hLB⟩ : ∃ LB, LB = w4.heap.size := ⟨_, rfl⟩
  obtain ⟨base, hbase⟩ : ∃ base, base = w4.heap.size + 1 := ⟨_, rfl⟩
  have HLB2 : Hid (LB < base ∧ w.heap.size ≤ base ∧ b < base) := by
    have h1 := HS4.out.size
    have h2 := hbw.out
    unfold Hid; omega
  have HSl : Hid (VcS w lim B b base LB (.slice none 0 0) [] (w4.alloc (.cells #[.int .i64 p, .int .i64 q, .int .i64 r, .int .i64 s, .int .i64 0, .int .i64 m, .int .i64 (-m)] 3))) :=
    ⟨OwnI.nil _ _, by simp, by rw [hLB]; exact HL.out, HS4.out.alloc _, by rw [hbase]; simp⟩
  rw [← hLB] at HLb
  have n0 : (n : Int) ≤ 5000 := by omega
  go_wp2_with fail
  try rw [← hLB]
  generalize w4.alloc (.cells #[.int .i64 p, .int .i64 q, .int .i64 r, .int .i64 s, .int .i64 0, .int .i64 m, .int .i64 (-m)] 3) = w5 at HSl ⊢
  clear HL HS4 hLB hbase p0 p1 q0 q1 r0 r1 s0 s1
  go_loopw [8, 9] (fun lv kv wr => ∃ (i : Nat) (ov : Value) (l : List Int), ov = lv ∧ kv = .int .i64 i ∧ i ≤ n ∧ l.length = i ∧ Hid (VcS w lim B b base LB ov l wr)) (fun _ kv _ => (10000 - intOf kv).toNat)
  case atStart => exact ⟨0, _, [], rfl, rfl, by omega, rfl, HSl⟩
  case round =>
    clear HSl
    obtain ⟨i, ov, l, rfl, rfl, hi, hl, hs⟩ := hrel
    by_cases hil : i < n
    · have i0 : (i : Int) < (n : Int) := by omega
      go_wp2_with fail
      refine (next_ok B b 7 wr hs.out.st.1 (by omega) (by omega)).mono ?_
      rintro e w6 ⟨x, x0, x1, rfl, hs6⟩
      obtain ⟨j, rfl⟩ := Int.eq_ofNat_of_zero_le x0
      have HV : Hid (VcS w lim B b base LB ov l w6) := ⟨hs.out.own.st hs6 HLB2.out.2.2, hs.out.bnd, hs.out.lit.st hs6 HLb.out, hs.out.st.then hs6, Nat.le_trans hs.out.size hs6.size⟩
      clear hs hs6
      obtain ⟨z, z0, z1, hz⟩ := HV.out.lit j (by omega)
      have HAp : Hid (∃ (v' : Value) (w' : World), (Builtin.append_ #[34, 34] 34 #[ov, .slice (some ⟨w6.heap.size, 0, none⟩) 1 1]).run Tryz.prog (w6.alloc (.cells #[.int .i64 z] 3)) = .ok v' w' ∧ VcS w lim B b base LB v' (l ++ [z]) w') := by
        obtain ⟨v', w', a1, a2, a3⟩ := append_i HV.out.own z (by omega) HV.out.size 34
        refine ⟨v', w', a1, a2, fun x hx => ?_, HV.out.lit.grown a3 HLB2.out.1, HV.out.st.grown a3 HLB2.out.2.2 HLB2.out.2.1, Nat.le_trans HV.out.size a3.size⟩
        rcases List.mem_append.1 hx with hx | hx
        · exact HV.out.bnd x hx
        · simp at hx; subst hx; exact ⟨z0, z1⟩
      clear HV z0 z1
      go_wp2_with (at_builtin; obtain ⟨v', w', hrun, hs'⟩ := HAp.out; have Hrun := Lib.hid hrun; have Hs' := Lib.hid hs'; clear hrun hs'; refine wpList_append_run rfl _ _ _ rfl _ _ _ _ rfl rfl Hrun.out ?_)
      go_roundw
      case rel => exact ⟨i + 1, v', l ++ [z], rfl, by go_num, by omega, by rw [List.length_append, hl]; rfl, Hs'⟩
      case measure => simp [intOf]; omega
    · obtain rfl : i = n := by omega
      obtain ⟨oa, oc, rfl⟩ := hs.out.own.slice
      go_wp2_with fail
      go_ret
      exact ⟨_, l, rfl, hl, hs.out.bnd, hs.out.own.mono HLB2.out.2.1, hs.out.st⟩
end Go.Proofs.YtmmmebdgannpgaaGreatDoor
/- As SeqL, where now and then one of several operations may come next: each way is walked. And a cut behind a region. No program. -/
namespace Go.Proofs.YtmmmebdgannpgaaGreatDoor
open Go Go.RowKit

/-- An order with forks. -/
inductive Tr
  | nil
  | q (i f : Nat) (r : Tr)
  | e (i : Nat) (r : Tr)
  | fork (x y : Tr)
def Tr.more : Tr → Bool
  | .nil => false
  | .q _ _ r => r.more
  | .e _ _ => true
  | .fork _ _ => true
def Tr.depth : Tr → Nat
  | .nil => 0
  | .q _ _ r => r.depth + 1
  | .e _ r => r.depth + 1
  | .fork x _ => x.depth
def Tr.heads : Tr → List Nat
  | .e i _ => [i]
  | .fork x y => x.heads ++ y.heads
  | _ => []
section
variable {P : Program} {ops : Array Oper} {Q : Exit → Act → World → Prop} {S : World → Prop} {L : Nat}
def wpT (P : Program) (ops : Array Oper) (Q : Exit → Act → World → Prop) (S : World → Prop) : Tr → Act → World → Prop
  | .nil, a, w => Q .normal a w
  | .q i f r, a, w => ∃ o, ops[i]? = some o ∧ ∃ v, YieldsIf P ops (fun w => f = 1 → S w) o v a ∧ wpT P ops Q S r (a.put o.dst v) w
  | .e i r, a, w => ∃ o, ops[i]? = some o ∧ if Region.wanted o (yielded ops a.tmps) = true then Oper.wp P o a w (fun a' w' => (r.more = true → S w') ∧ wpT P ops Q S r a' w') Q else wpT P ops Q S r (a.put o.dst undef) w
  | .fork x y, a, w => wpT P ops Q S x a w ∧ wpT P ops Q S y a w
def chkT (ops : Array Oper) (L : Nat) : Bool → Tr → Array Bool → Bool
  | fl, .nil, listed => !fl && (Region.ready .any ops listed).isEmpty
  | fl, .q i f r, listed => !fl && i != L && (f == 0 || (anc ops ops.size L).contains i) && Region.free .any ops listed i && (Region.ready .any ops listed).contains i && chkT ops L false r (listed.setIfInBounds i true)
  | fl, .e i r, listed => (fl || Region.ready .any ops listed == [i]) && (Region.ready .any ops listed).contains i && (i == L || r.more) && chkT ops L false r (listed.setIfInBounds i true)
  | fl, .fork x y, listed => (fl || Region.ready .any ops listed == x.heads ++ y.heads) && (x.depth == y.depth) && chkT ops L true x listed && chkT ops L true y listed
theorem chkT_depth : ∀ (t : Tr) (listed : Array Bool), chkT ops L true t listed = true → 0 < t.depth
  | .nil, _, h => by simp [chkT] at h
  | .q _ _ _, _, h => by simp [chkT] at h
  | .e _ _, _, _ => Nat.succ_pos _
  | .fork x y, listed, h => by
    simp only [chkT, Bool.and_eq_true] at h
    exact chkT_depth x listed h.1.2
theorem chkT_heads : ∀ (t : Tr) (listed : Array Bool), chkT ops L true t listed = true → t.heads ≠ []
  | .nil, _, h => by simp [chkT] at h
  | .q _ _ _, _, h => by simp [chkT] at h
  | .e _ _, _, _ => by simp [Tr.heads]
  | .fork x y, listed, h => by
    simp only [chkT, Bool.and_eq_true] at h
    have := chkT_heads x listed h.1.2
    intro e
    exact this (List.append_eq_nil_iff.1 e).1
theorem wpT_sound (hn : Region.noSelect ops = true) (hL : L < ops.size) (hQ : ∀ c a d v w, Q (.panic c) (Act.put a d v) w → Q (.panic c) a w) : ∀ (t : Tr) (listed : Array Bool) (a : Act) (w : World), ClosedL ops listed → listed.size = ops.size → (listed.getD L false = false → S w) → wpT P ops Q S t a w →
    (chkT ops L false t listed = true → wpAnyL P ops Q S L t.depth listed a w) ∧
    (chkT ops L true t listed = true → ∀ i ∈ t.heads, wpOp P ops Q i (fun a' w' => ((listed.setIfInBounds i true).getD L false = false → S w') ∧ wpAnyL P ops Q S L (t.depth - 1) (listed.setIfInBounds i true) a' w') a w)
  | .nil, listed, a, w, _, _, _, h => ⟨fun hb => ⟨by simpa [chkT] using hb, h⟩, fun hb => by simp [chkT] at hb⟩
  | .q i f r, listed, a, w, hc, hsz, hS, ⟨o, ho, v, hy, h⟩ => by
    refine ⟨fun hb => ?_, fun hb => by simp [chkT] at hb⟩
    simp only [chkT, Bool.and_eq_true, bne_iff_ne, Bool.or_eq_true, beq_iff_eq] at hb
    obtain ⟨⟨⟨⟨⟨_, h1⟩, h5⟩, h2⟩, h3⟩, h4⟩ := hb
    have hr : i ∈ Region.ready .any ops listed := by simpa using h3
    have hno : (listed.setIfInBounds i true).getD L false = false → listed.getD L false = false := fun h => by rw [getD_set_ne false h1] at h; exact h
    have hun : f = 1 → ∀ listed : Array Bool, ClosedL ops listed → listed.size = ops.size → i ∈ Region.ready .any ops listed → listed.getD L false = false ∧ L ∉ Region.ready .any ops listed := fun hf1 listed hc hsz hi => by
      have ha : i ∈ anc ops ops.size L := by
        rcases h5 with h5 | h5
        · omega
        · simpa using h5
      have h0 := (mem_ready.1 hi).1
      have hf : listed.getD i false = false := by
        have hlt : i < listed.size := by
          rcases Nat.lt_or_ge i listed.size with h | h
          · exact h
          · simp [Array.getElem?_eq_none h] at h0
        simp [hlt] at h0 ⊢; exact h0
      have hoL : ops[L]? = some ops[L] := Array.getElem?_eq_getElem hL
      refine ⟨?_, fun hLr => ?_⟩
      · cases hq : listed.getD L false with
        | false => rfl
        | true =>
          have := anc_listed hc ops.size L _ hoL (hc L _ hoL hq) hsz i ha
          rw [hf] at this; cases this
      · obtain ⟨_, oL, hoL', hall⟩ := mem_ready.1 hLr
        have := anc_listed hc ops.size L _ hoL' hall hsz i ha
        rw [hf] at this; cases this
    have hSw : f = 1 → S w := fun hf1 => hS (hun hf1 listed hc hsz hr).1
    have ih := wpT_sound hn hL hQ r (listed.setIfInBounds i true) (a.put o.dst v) w (hc.set hr) (by simp [hsz]) (fun h => hS (hno h)) h
    exact wpAnyL_first (T := fun w => f = 1 → S w) h1 ho (Region.noSelect_spec hn) (fun c a w => hQ c a _ _ w) (fun j listed w' hc hsz hj hi hji hS' hf1 => hS' (by
        have h6 := hun hf1 listed hc hsz hi
        have hjL : j ≠ L := fun e => h6.2 (e ▸ hj)
        rw [getD_set_ne false hjL]; exact h6.1)) r.depth listed a w (Region.free_spec ho h2) hc hsz hr hy hSw (fun h => hS (hno h)) (ih.1 h4)
  | .e i r, listed, a, w, hc, hsz, hS, ⟨o, ho, h⟩ => by
    have key : (Region.ready .any ops listed).contains i = true → (i == L || r.more) = true → chkT ops L false r (listed.setIfInBounds i true) = true → wpOp P ops Q i (fun a' w' => ((listed.setIfInBounds i true).getD L false = false → S w') ∧ wpAnyL P ops Q S L r.depth (listed.setIfInBounds i true) a' w') a w := fun hr0 h1 h3 => by
      have hr : i ∈ Region.ready .any ops listed := by simpa using hr0
      have h1 : i = L ∨ r.more = true := by simpa using h1
      have hLt : i = L → (listed.setIfInBounds i true).getD L false = false → False := fun e hf => by
        subst e
        have : i < listed.size := by omega
        simp [this] at hf
      unfold wpOp
      rw [ho]
      simp only
      split
      · rename_i hw
        rw [if_pos hw] at h
        refine Or.inl (Oper.wp_mono (fun a' w' h' => ?_) h)
        have hs : (listed.setIfInBounds i true).getD L false = false → S w' := fun hf => by
          rcases h1 with h1 | h1
          · exact (hLt h1 hf).elim
          · exact h'.1 h1
        exact ⟨hs, (wpT_sound hn hL hQ r _ a' w' (hc.set hr) (by simp [hsz]) hs h'.2).1 h3⟩
      · rename_i hw
        rw [if_neg hw] at h
        have hs : (listed.setIfInBounds i true).getD L false = false → S w := fun hf => hS (by
          by_cases e : i = L
          · exact (hLt e hf).elim
          · rw [getD_set_ne false e] at hf; exact hf)
        exact ⟨hs, (wpT_sound hn hL hQ r _ _ w (hc.set hr) (by simp [hsz]) hs h).1 h3⟩
    refine ⟨fun hb => ?_, fun hb j hj => ?_⟩
    · simp only [chkT, Bool.and_eq_true, Bool.false_or, beq_iff_eq] at hb
      obtain ⟨⟨⟨h1, h2⟩, h3⟩, h4⟩ := hb
      refine ⟨fun h0 => by (rw [h1] at h0; cases h0), fun j hj => ?_⟩
      obtain rfl : j = i := by rw [h1] at hj; simpa using hj
      exact key h2 h3 h4
    · simp only [chkT, Bool.and_eq_true] at hb
      obtain ⟨⟨⟨_, h2⟩, h3⟩, h4⟩ := hb
      obtain rfl : j = i := by simpa [Tr.heads] using hj
      exact key h2 h3 h4
  | .fork x y, listed, a, w, hc, hsz, hS, ⟨hx, hy⟩ => by
    have ix := (wpT_sound hn hL hQ x listed a w hc hsz hS hx).2
    have iy := (wpT_sound hn hL hQ y listed a w hc hsz hS hy).2
    have key : (x.depth == y.depth) = true → chkT ops L true x listed = true → chkT ops L true y listed = true → ∀ i ∈ x.heads ++ y.heads, wpOp P ops Q i (fun a' w' => ((listed.setIfInBounds i true).getD L false = false → S w') ∧ wpAnyL P ops Q S L (x.depth - 1) (listed.setIfInBounds i true) a' w') a w := fun hd h1 h2 i hi => by
      have hd : x.depth = y.depth := by simpa using hd
      rcases List.mem_append.1 hi with hi | hi
      · exact ix h1 i hi
      · rw [hd]; exact iy h2 i hi
    refine ⟨fun hb => ?_, fun hb => ?_⟩
    · simp only [chkT, Bool.and_eq_true, Bool.false_or] at hb
      obtain ⟨⟨⟨h1, h2⟩, h3⟩, h4⟩ := hb
      have h1 : Region.ready .any ops listed = x.heads ++ y.heads := by simpa using h1
      have hdep := chkT_depth x listed h3
      obtain ⟨n, hn'⟩ : ∃ n, x.depth = n + 1 := ⟨x.depth - 1, by omega⟩
      have k := key h2 h3 h4
      show wpAnyL P ops Q S L x.depth listed a w
      rw [hn'] at k ⊢
      have hne : x.heads ++ y.heads ≠ [] := by
        intro e
        exact chkT_heads x listed h3 (List.append_eq_nil_iff.1 e).1
      refine ⟨fun h0 => by (rw [h1] at h0; exact absurd h0 hne), fun j hj => ?_⟩
      rw [h1] at hj
      exact k j hj
    · simp only [chkT, Bool.and_eq_true] at hb
      obtain ⟨⟨⟨_, h2⟩, h3⟩, h4⟩ := hb
      exact key h2 h3 h4
theorem wp_region_tree {id : Nat} {a : Act} {w : World} (hm : P.follows .mixedOrders = true) (S : World → Prop) (L : Nat) (t : Tr) (hb : (Region.noSelect ops && (t.depth == ops.size) && decide (L < ops.size) && chkT ops L false t (Array.replicate ops.size false)) = true)
    (hS : S w.drew) (h : wpT P ops (NoPanic Q) S t a w.drew) : (Code.region id ops true).wp P Q a w := by
  simp only [Bool.and_eq_true, beq_iff_eq, decide_eq_true_eq] at hb
  obtain ⟨⟨⟨h1, h2⟩, h3⟩, h4⟩ := hb
  refine wp_region_noPanic (wp_region_any hm ?_)
  have hc : ClosedL ops (Array.replicate ops.size false) := fun k o ho hk => by
    have hk' := (Array.getElem?_eq_some_iff.1 ho).1
    simp [hk'] at hk
  have h5 := wpAny_of_L _ _ _ _ ((wpT_sound h1 h3 (fun _ _ _ _ _ h => h) t _ a _ hc (by simp) (fun _ => hS) h).1 h4)
  rw [h2] at h5
  exact h5
variable {r : Tr} {i : Nat} {o : Oper} {d : Option Tmp} {a : Act} {w : World}
theorem tr_end (h : Q .normal a w) : wpT P ops (NoPanic Q) S .nil a w := h
theorem tr_fork {x y : Tr} (h1 : wpT P ops Q S x a w) (h2 : wpT P ops Q S y a w) : wpT P ops Q S (.fork x y) a w := ⟨h1, h2⟩
theorem tr_q (ho : ops[i]? = some o) (hd : o.dst = d) (hw : Region.wanted o (yielded ops a.tmps) = true) (v : Value) (hy : ∀ w, (execOp a.eval o).run P w = .ok (.value v) w) (h : wpT P ops Q S r (a.put d v) w) : wpT P ops Q S (.q i 0 r) a w := by
  subst hd
  exact ⟨o, ho, v, Or.inl ⟨hw, fun w _ => hy w⟩, h⟩
theorem tr_s (ho : ops[i]? = some o) (hd : o.dst = d) (hw : Region.wanted o (yielded ops a.tmps) = true) (v : Value) (hy : ∀ w, S w → (execOp a.eval o).run P w = .ok (.value v) w) (h : wpT P ops Q S r (a.put d v) w) : wpT P ops Q S (.q i 1 r) a w := by
  subst hd
  exact ⟨o, ho, v, Or.inl ⟨hw, fun w hs => hy w (hs rfl)⟩, h⟩
theorem tr_off (ho : ops[i]? = some o) (hd : o.dst = d) (hw : Region.wanted o (yielded ops a.tmps) = false) (h : wpT P ops Q S r (a.put d undef) w) : wpT P ops Q S (.q i 0 r) a w := by
  subst hd
  exact ⟨o, ho, undef, Or.inr ⟨hw, rfl⟩, h⟩
theorem tr_load (ho : ops[i]? = some o) (hd : o.dst = d) (hw : Region.wanted o (yielded ops a.tmps) = true) (ty : TypeId) (x : Operand) (hop : o.op = .load ty x) (ad : Addr) (hx : a.eval x = .pointer (some ad)) (v : Value) (hy : ∀ w, S w → (loadVar ty ad).run P w = .ok v w) (h : wpT P ops Q S r (a.put d v) w) : wpT P ops Q S (.q i 1 r) a w := by
  subst hd
  exact ⟨o, ho, v, yields_load hw ty x hop ad hx (fun w hs => hy w (hs rfl)), h⟩
theorem tr_wp (ho : ops[i]? = some o) (hw : Region.wanted o (yielded ops a.tmps) = true) (h : ∀ K : Act → World → Prop, (∀ a' w', (r.more = true → S w') → wpT P ops Q S r a' w' → K a' w') → Oper.wp P o a w K Q) : wpT P ops Q S (.e i r) a w :=
  ⟨o, ho, by rw [if_pos hw]; exact h _ (fun _ _ hs hr => ⟨hs, hr⟩)⟩
theorem tr_run (ho : ops[i]? = some o) (hd : o.dst = d) (hw : Region.wanted o (yielded ops a.tmps) = true) (v : Value) (w' : World) (hrun : (execOp a.eval o).run P w = .ok (.value v) w') (hS : r.more = true → S w') (h : wpT P ops Q S r (a.put d v) w') : wpT P ops Q S (.e i r) a w := by
  subst hd
  refine tr_wp ho hw fun K hK => ?_
  unfold Oper.wp
  rw [hrun]
  exact hK _ _ hS h
theorem tr_skip (ho : ops[i]? = some o) (hd : o.dst = d) (hw : Region.wanted o (yielded ops a.tmps) = true) (w' : World) (hrun : (execOp a.eval o).run P w = .ok .skip w') (hS : r.more = true → S w') (h : wpT P ops Q S r (a.put d undef) w') : wpT P ops Q S (.e i r) a w := by
  subst hd
  refine tr_wp ho hw fun K hK => ?_
  unfold Oper.wp
  rw [hrun]
  exact hK _ _ hS h
theorem tr_call (ho : ops[i]? = some o) (hd : o.dst = d) (hw : Region.wanted o (yielded ops a.tmps) = true) {f : FuncId} (hf : Has P f) (fo : Operand) (args : Array Operand) (ts : Array TypeId) (hop : o.op = .call { callee := .value fo, args := args, argTypes := ts }) (hfo : a.eval fo = .func (.func f) #[] #[]) (vs : List Value) (hv : args.toList.map a.eval = vs)
    {R : Ending → World → Prop} (hc : Calls P f vs.toArray w R) (h : ∀ e w', R e w' → ∃ v, e = .returned v ∧ (r.more = true → S w') ∧ wpT P ops Q S r (a.put d v) w') : wpT P ops Q S (.e i r) a w := by
  subst hd
  refine tr_wp ho hw fun K hK => ?_
  unfold Oper.wp
  rw [run_call hf fo args ts hop hfo vs hv, Oper.upon_enter]
  refine hc.mono fun e w' hr => ?_
  obtain ⟨v, rfl, h1, h2⟩ := h e w' hr
  exact hK _ _ h1 h2
/-- A cut behind a region: what is known of it, whichever way it went. -/
theorem region_cut {id : Nat} {b : Bool} (R : Act → World → Prop) (h : (Code.region id ops b).wp P (fun e a w => e = .normal ∧ R a w) a w) (k : ∀ a w, R a w → Q .normal a w) : (Code.region id ops b).wp P Q a w :=
  Code.wp_mono (fun e a w ⟨he, hr⟩ => by subst he; exact k a w hr) h
end
end Go.Proofs.YtmmmebdgannpgaaGreatDoor
/- As SeqL; behind an effect the condition on the world may be made stronger. -/
namespace Go.Proofs.YtmmmebdgannpgaaGreatDoor
open Go Go.RowKit

section
variable {P : Program} {ops : Array Oper} {Q : Exit → Act → World → Prop} {S : World → Prop} {L : Nat}
theorem wpAnyL_more {S' : World → Prop} (hSS : ∀ w, S' w → S w) : ∀ {fuel : Nat} {listed : Array Bool} {a : Act} {w : World}, wpAnyL P ops Q S' L fuel listed a w → wpAnyL P ops Q S L fuel listed a w
  | 0, _, _, _, h => h
  | _ + 1, _, _, _, h => ⟨h.1, fun i hi => wpOp_mono (fun _ _ h' => ⟨fun hf => hSS _ (h'.1 hf), wpAnyL_more hSS h'.2⟩) (h.2 i hi)⟩
def wpSeqM (P : Program) (ops : Array Oper) (Q : Exit → Act → World → Prop) : (World → Prop) → List (Nat × Nat) → Act → World → Prop
  | _, [], a, w => Q .normal a w
  | S, (i, q) :: r, a, w => ∃ o, ops[i]? = some o ∧ match q with
    | 0 => ∃ v, YieldsIf P ops (fun _ => True) o v a ∧ wpSeqM P ops Q S r (a.put o.dst v) w
    | 1 => ∃ v, YieldsIf P ops S o v a ∧ wpSeqM P ops Q S r (a.put o.dst v) w
    | _ => if Region.wanted o (yielded ops a.tmps) = true then Oper.wp P o a w (fun a' w' => ∃ S' : World → Prop, (∀ x, S' x → S x) ∧ (r.any (fun x => x.2 == 2) = true → S' w') ∧ wpSeqM P ops Q S' r a' w') Q else wpSeqM P ops Q S r (a.put o.dst undef) w
theorem wpSeqM_sound (hn : Region.noSelect ops = true) (hL : L < ops.size) (hQ : ∀ c a d v w, Q (.panic c) (Act.put a d v) w → Q (.panic c) a w) : ∀ (S : World → Prop) (l : List (Nat × Nat)) (listed : Array Bool) (a : Act) (w : World), schedL ops L l listed = true → ClosedL ops listed → listed.size = ops.size → (listed.getD L false = false → S w) → wpSeqM P ops Q S l a w → wpAnyL P ops Q S L l.length listed a w
  | S, [], listed, a, w, hb, _, _, _, h => ⟨by simpa [schedL] using hb, h⟩
  | S, (i, 0) :: r, listed, a, w, hb, hc, hsz, hS, ⟨o, ho, v, hy, h⟩ => by
    simp only [schedL, Bool.and_eq_true, bne_iff_ne] at hb
    obtain ⟨⟨⟨h1, h2⟩, h3⟩, h4⟩ := hb
    have hr : i ∈ Region.ready .any ops listed := by simpa using h3
    have hno : (listed.setIfInBounds i true).getD L false = false → listed.getD L false = false := fun h => by rw [getD_set_ne false h1] at h; exact h
    exact wpAnyL_first (T := fun _ => True) h1 ho (Region.noSelect_spec hn) (fun c a w => hQ c a _ _ w) (fun _ _ _ _ _ _ _ _ _ => trivial) r.length listed a w (Region.free_spec ho h2) hc hsz hr hy trivial (fun h => hS (hno h))
      (wpSeqM_sound hn hL hQ S r _ _ _ h4 (hc.set hr) (by simp [hsz]) (fun h => hS (hno h)) h)
  | S, (i, 1) :: r, listed, a, w, hb, hc, hsz, hS, ⟨o, ho, v, hy, h⟩ => by
    simp only [schedL, Bool.and_eq_true, bne_iff_ne] at hb
    obtain ⟨⟨⟨⟨h1, h5⟩, h2⟩, h3⟩, h4⟩ := hb
    have hr : i ∈ Region.ready .any ops listed := by simpa using h3
    have ha : i ∈ anc ops ops.size L := by simpa using h5
    have hno : (listed.setIfInBounds i true).getD L false = false → listed.getD L false = false := fun h => by rw [getD_set_ne false h1] at h; exact h
    have hun : ∀ listed : Array Bool, ClosedL ops listed → listed.size = ops.size → i ∈ Region.ready .any ops listed → listed.getD L false = false ∧ L ∉ Region.ready .any ops listed := fun listed hc hsz hi => by
      have h0 := (mem_ready.1 hi).1
      have hf : listed.getD i false = false := by
        have hlt : i < listed.size := by
          rcases Nat.lt_or_ge i listed.size with h | h
          · exact h
          · simp [Array.getElem?_eq_none h] at h0
        simp [hlt] at h0 ⊢; exact h0
      have hoL : ops[L]? = some ops[L] := Array.getElem?_eq_getElem hL
      refine ⟨?_, fun hLr => ?_⟩
      · cases hq : listed.getD L false with
        | false => rfl
        | true =>
          have := anc_listed hc ops.size L _ hoL (hc L _ hoL hq) hsz i ha
          rw [hf] at this; cases this
      · obtain ⟨_, oL, hoL', hall⟩ := mem_ready.1 hLr
        have := anc_listed hc ops.size L _ hoL' hall hsz i ha
        rw [hf] at this; cases this
    have hSw := hS (hun listed hc hsz hr).1
    exact wpAnyL_first (T := S) h1 ho (Region.noSelect_spec hn) (fun c a w => hQ c a _ _ w) (fun j listed w' hc hsz hj hi hji hS' => hS' (by
        have h6 := hun listed hc hsz hi
        have hjL : j ≠ L := fun e => h6.2 (e ▸ hj)
        rw [getD_set_ne false hjL]; exact h6.1)) r.length listed a w (Region.free_spec ho h2) hc hsz hr hy hSw (fun _ => hSw)
      (wpSeqM_sound hn hL hQ S r _ _ _ h4 (hc.set hr) (by simp [hsz]) (fun _ => hSw) h)
  | S, (i, q + 2) :: r, listed, a, w, hb, hc, hsz, hS, ⟨o, ho, h⟩ => by
    simp only [schedL, Bool.and_eq_true, Bool.or_eq_true, beq_iff_eq] at hb
    obtain ⟨⟨h1, h2⟩, h3⟩ := hb
    have hr : i ∈ Region.ready .any ops listed := by rw [h2]; simp
    refine ⟨fun h0 => by (rw [h0] at hr; cases hr), fun j hj => ?_⟩
    obtain rfl : j = i := by rw [h2] at hj; simpa using hj
    have hLt : j = L → (listed.setIfInBounds j true).getD L false = false → False := fun e hf => by
      subst e
      have : j < listed.size := by omega
      simp [this] at hf
    unfold wpOp
    rw [ho]
    simp only
    split
    · rename_i hw
      rw [if_pos hw] at h
      refine Or.inl (Oper.wp_mono (fun a' w' h' => ?_) h)
      obtain ⟨S', hSS, h'1, h'2⟩ := h'
      have hs : (listed.setIfInBounds j true).getD L false = false → S' w' := fun hf => by
        rcases h1 with h1 | h1
        · exact (hLt h1 hf).elim
        · exact h'1 h1
      exact ⟨fun hf => hSS _ (hs hf), wpAnyL_more hSS (wpSeqM_sound hn hL hQ S' r _ _ _ h3 (hc.set hr) (by simp [hsz]) hs h'2)⟩
    · rename_i hw
      rw [if_neg hw] at h
      have hs : (listed.setIfInBounds j true).getD L false = false → S w := fun hf => hS (by
        by_cases e : j = L
        · exact (hLt e hf).elim
        · rw [getD_set_ne false e] at hf; exact hf)
      exact ⟨hs, wpSeqM_sound hn hL hQ S r _ _ _ h3 (hc.set hr) (by simp [hsz]) hs h⟩
theorem wp_region_seqM {id : Nat} {a : Act} {w : World} (hm : P.follows .mixedOrders = true) (S : World → Prop) (L : Nat) (l : List (Nat × Nat)) (hb : (Region.noSelect ops && (l.length == ops.size) && decide (L < ops.size) && schedL ops L l (Array.replicate ops.size false)) = true)
    (hS : S w.drew) (h : wpSeqM P ops (NoPanic Q) S l a w.drew) : (Code.region id ops true).wp P Q a w := by
  simp only [Bool.and_eq_true, beq_iff_eq, decide_eq_true_eq] at hb
  obtain ⟨⟨⟨h1, h2⟩, h3⟩, h4⟩ := hb
  refine wp_region_noPanic (wp_region_any hm ?_)
  have hc : ClosedL ops (Array.replicate ops.size false) := fun k o ho hk => by
    have hk' := (Array.getElem?_eq_some_iff.1 ho).1
    simp [hk'] at hk
  have h5 := wpAny_of_L _ _ _ _ (wpSeqM_sound h1 h3 (fun _ _ _ _ _ h => h) S l _ a _ h4 hc (by simp) (fun _ => hS) h)
  rw [h2] at h5
  exact h5
variable {r : List (Nat × Nat)} {i : Nat} {o : Oper} {d : Option Tmp} {a : Act} {w : World}
variable {r : List (Nat × Nat)} {i : Nat} {o : Oper} {d : Option Tmp} {a : Act} {w : World}
theorem sm_end (h : Q .normal a w) : wpSeqM P ops (NoPanic Q) S [] a w := h
theorem sm_q (ho : ops[i]? = some o) (hd : o.dst = d) (hw : Region.wanted o (yielded ops a.tmps) = true) (v : Value) (hy : ∀ w, (execOp a.eval o).run P w = .ok (.value v) w) (h : wpSeqM P ops Q S r (a.put d v) w) : wpSeqM P ops Q S ((i, 0) :: r) a w := by
  subst hd
  exact ⟨o, ho, v, Or.inl ⟨hw, fun w _ => hy w⟩, h⟩
theorem sm_s (ho : ops[i]? = some o) (hd : o.dst = d) (hw : Region.wanted o (yielded ops a.tmps) = true) (v : Value) (hy : ∀ w, S w → (execOp a.eval o).run P w = .ok (.value v) w) (h : wpSeqM P ops Q S r (a.put d v) w) : wpSeqM P ops Q S ((i, 1) :: r) a w := by
  subst hd
  exact ⟨o, ho, v, Or.inl ⟨hw, hy⟩, h⟩
theorem sm_wp (ho : ops[i]? = some o) (hw : Region.wanted o (yielded ops a.tmps) = true) (S' : World → Prop) (hSS : ∀ x, S' x → S x) (h : ∀ K : Act → World → Prop, (∀ a' w', (r.any (fun x => x.2 == 2) = true → S' w') → wpSeqM P ops Q S' r a' w' → K a' w') → Oper.wp P o a w K Q) : wpSeqM P ops Q S ((i, 2) :: r) a w :=
  ⟨o, ho, by rw [if_pos hw]; exact h _ (fun _ _ hs hr => ⟨S', hSS, hs, hr⟩)⟩
theorem sm_run (ho : ops[i]? = some o) (hd : o.dst = d) (hw : Region.wanted o (yielded ops a.tmps) = true) (v : Value) (w' : World) (hrun : (execOp a.eval o).run P w = .ok (.value v) w') (hS : r.any (fun x => x.2 == 2) = true → S w') (h : wpSeqM P ops Q S r (a.put d v) w') : wpSeqM P ops Q S ((i, 2) :: r) a w := by
  subst hd
  refine sm_wp ho hw S (fun _ h => h) fun K hK => ?_
  unfold Oper.wp
  rw [hrun]
  exact hK _ _ hS h
theorem sm_skip (ho : ops[i]? = some o) (hd : o.dst = d) (hw : Region.wanted o (yielded ops a.tmps) = true) (w' : World) (hrun : (execOp a.eval o).run P w = .ok .skip w') (hS : r.any (fun x => x.2 == 2) = true → S w') (h : wpSeqM P ops Q S r (a.put d undef) w') : wpSeqM P ops Q S ((i, 2) :: r) a w := by
  subst hd
  refine sm_wp ho hw S (fun _ h => h) fun K hK => ?_
  unfold Oper.wp
  rw [hrun]
  exact hK _ _ hS h
/-- A call; S' is what holds from then on. -/
theorem sm_call (ho : ops[i]? = some o) (hd : o.dst = d) (hw : Region.wanted o (yielded ops a.tmps) = true) {f : FuncId} (hf : Has P f) (fo : Operand) (args : Array Operand) (ts : Array TypeId) (hop : o.op = .call { callee := .value fo, args := args, argTypes := ts }) (hfo : a.eval fo = .func (.func f) #[] #[]) (vs : List Value) (hv : args.toList.map a.eval = vs)
    {R : Ending → World → Prop} (S' : World → Prop) (hSS : ∀ x, S' x → S x) (hc : Calls P f vs.toArray w R) (h : ∀ e w', R e w' → ∃ v, e = .returned v ∧ (r.any (fun x => x.2 == 2) = true → S' w') ∧ wpSeqM P ops Q S' r (a.put d v) w') : wpSeqM P ops Q S ((i, 2) :: r) a w := by
  subst hd
  refine sm_wp ho hw S' hSS fun K hK => ?_
  unfold Oper.wp
  rw [run_call hf fo args ts hop hfo vs hv, Oper.upon_enter]
  refine hc.mono fun e w' hr => ?_
  obtain ⟨v, rfl, h1, h2⟩ := h e w' hr
  exact hK _ _ h1 h2
theorem sm_run2 (ho : ops[i]? = some o) (hd : o.dst = d) (hw : Region.wanted o (yielded ops a.tmps) = true) (S' : World → Prop) (hSS : ∀ x, S' x → S x) (v : Value) (w' : World) (hrun : (execOp a.eval o).run P w = .ok (.value v) w') (hS : r.any (fun x => x.2 == 2) = true → S' w') (h : wpSeqM P ops Q S' r (a.put d v) w') : wpSeqM P ops Q S ((i, 2) :: r) a w := by
  subst hd
  refine sm_wp ho hw S' hSS fun K hK => ?_
  unfold Oper.wp
  rw [hrun]
  exact hK _ _ hS h
end
end Go.Proofs.YtmmmebdgannpgaaGreatDoor
