/- Part 9 of the proof: laws on memory and what functions of the program return. No conditions but those that each theorem names. -/
import Derived.Test.YtpknalpdcfjffaaGreatR08
import Derived.Laws.CopyRow
import Derived.Deep.DeepCutAuto
set_option linter.unusedVariables false
set_option linter.unusedSimpArgs false
/- Laws for store.Encode. Printed by gen_enc.py. -/
namespace Go.Proofs.YtpknalpdcfjffaaGreat
open Go Go.RowKit

/-- A kind as a byte. -/
def k8 (k : Int) : UInt8 := UInt8.ofNat (k % 256).toNat
theorem wrap_k8 (k : Int) : IntKind.u8.wrap k = ((k8 k).toNat : Int) := by
  have h : IntKind.u8.wrap k = k % 256 := by simp [IntKind.wrap, IntKind.bits, IntKind.signed]
  rw [h]; unfold k8
  rw [UInt8.toNat_ofNat']
  omega
/-- What Encode returns of the bytes behind the kind. -/
def encRes (kind : Int) : Option (List UInt8) → List UInt8 × Int
  | none => ([], 4)
  | some b => if 1048576 < b.length + 9 then ([], 2) else (be 4 (b.length + 1) ++ (k8 kind :: b) ++ be 4 (chk (be 4 (b.length + 1) ++ (k8 kind :: b))), 0)
theorem ownB_made {w : World} {base g : Nat} (hb : base ≤ g) (hh : w.heap[g]? = some (.cells #[.int .u8 0, .int .u8 0, .int .u8 0, .int .u8 0] 5 (0, 0))) : OwnB w base (.slice (some ⟨g, 0, none⟩) 4 4) [0, 0, 0, 0] :=
  ⟨rfl, Or.inr ⟨g, 4, _, rfl, hb, hh, by decide, by decide, rfl, rfl⟩⟩
theorem append_b' {w : World} {base : Nat} {v : Value} {l : List UInt8} (h : OwnB w base v l) (c : UInt8) (q : Nat) (hq : w.cell? ⟨q, 0, none⟩ = some (.int .u8 (c.toNat : Nat))) (hn : l.length ≤ 1000000000) (hb : base ≤ w.heap.size) (ty : TypeId) :
    ∃ (v' : Value) (w' : World), (Builtin.append_ #[22, 22] ty #[v, .slice (some ⟨q, 0, none⟩) 1 1]).run Tryz.prog w = .ok v' w' ∧ OwnB w' base v' (l ++ [c]) ∧ Below base w w' ∧ NB w w' := by
  have hnews : ∀ j u, [Value.int .u8 (c.toNat : Nat)][j]? = some u → w.cell? ((⟨q, 0, none⟩ : Addr).add j) = some u := by
    intro j u hj
    match j, hj with
    | 0, hj => rw [Addr.add_mid]; simp at hj; subst hj; exact hq
    | j + 1, hj => simp at hj
  obtain ⟨v', w', h1, h2, h3, h4⟩ := append_at 22 5 Tryz.underlying22 binfo rfl (by decide) h ⟨q, 0, none⟩ 1 1 [.int .u8 (c.toNat : Nat)] rfl hnews (by intro u hu; simp at hu; subst hu; rfl) hn (by omega) (by decide) hb ty
  refine ⟨v', w', h1, ?_, h3, NB.grown h h4⟩
  unfold OwnB
  rw [List.length_append]
  have e : bcs (l ++ [c]) = bcs l ++ [.int .u8 (c.toNat : Nat)] := by simp [bcs]
  rw [e]; exact h2
theorem bytes1 : (Tryz.prog.info? 5).map (·.size) = some 1 := by kernel_rfl
/-- The first bytes of an own slice, copied over. -/
theorem copy_front {w : World} {base : Nat} {v : Value} {l m : List UInt8} {sp : Addr} {sc : Nat} (h : OwnB w base v l) (hm : m.length ≤ l.length) (h0 : 0 < m.length) (hs : ∀ j u, (bcs m)[j]? = some u → w.cell? (sp.add j) = some u) (ty : TypeId) :
    ∃ w', (Builtin.copy_ #[22, 22] ty #[v, .slice (some sp) m.length sc]).run Tryz.prog w = .ok (.int .i64 m.length) w' ∧ OwnB w' base v (m ++ l.drop m.length) ∧ Below base w w' ∧ NB w w' := by
  have h' := h
  obtain ⟨h1, h2⟩ := h
  rcases h2 with ⟨e, hl⟩ | ⟨g, cap, cur, e, hg, hh, hc, hmx, hsz, htk⟩
  · omega
  · subst e
    have hbm : (bcs m).length = m.length := by simp [bcs]
    have hrun := run_copy_row (P := Tryz.prog) w 22 22 ty 5 g 0 l.length cap sp m.length sc cur 5 (bcs m) Tryz.underlying22 bytes1 hh (by rw [hbm]; exact (Nat.min_eq_left hm).symm) hs (by rw [hbm]; omega) (bcs_one m)
    have hlen : (m ++ l.drop m.length).length = l.length := by rw [List.length_append, List.length_drop]; omega
    rw [hbm] at hrun
    refine ⟨_, hrun, ⟨by simp [bcs], Or.inr ⟨g, cap, _, by rw [hlen], hg, setRow_heap _ _ _ _ _ _ hh, by rw [hlen]; exact hc, hmx, ?_, ?_⟩⟩, below_setRow (Below.refl _ _) hg _, fun k c t f hk ht => setRow_other _ _ _ _ (fun hkg => ?_)⟩
    · rw [List.size_toArray]
      simp only [List.length_append, List.length_take, List.length_drop, Array.length_toList, hbm]
      omega
    · rw [hlen, Nat.mul_one]
      show (cur.toList.take 0 ++ (bcs m ++ cur.toList.drop (0 + m.length))).take l.length = _
      rw [List.take_zero, List.nil_append, Nat.zero_add]
      have e2 : bcs (m ++ l.drop m.length) = bcs m ++ (bcs l).drop m.length := by simp [bcs]
      rw [e2, ← htk, Nat.mul_one, List.take_append, List.take_of_length_le (by omega), hbm, List.drop_take]
    · subst hkg
      rw [hh] at hk
      injection hk with hk
      injection hk with _ hk2 _
      exact ht hk2.symm
end Go.Proofs.YtpknalpdcfjffaaGreat
/- store.Encode. Printed by gen_enc.py. -/
namespace Go.Proofs.YtpknalpdcfjffaaGreat
open Go Go.RowKit

def EncIs (x : Ent) (w : World) (e : Ending) (w' : World) : Prop := ∃ v, e = .returned (.tuple #[v, .int .i64 (encRes x.kind (entB x)).2]) ∧ OwnB w' w.heap.size v (encRes x.kind (entB x)).1 ∧ Below w.heap.size w w'
def Z4 : Obj := .cells #[.int .u8 0, .int .u8 0, .int .u8 0, .int .u8 0] 5
def C1 (c : UInt8) : Obj := .cells #[.int .u8 (c.toNat : Nat)] 5
theorem run_make4 (w : World) : (Instr.makeSlice 22 (.int .i64 4) (.int .i64 4)).run Tryz.prog w = .ok (.slice (some ⟨w.heap.size, 0, none⟩) 4 4) (w.alloc Z4) := by kernel_rfl
theorem two_a (W : World) (base : Nat) (c : UInt8) (hb : base ≤ W.heap.size) : OwnB ((W.alloc Z4).alloc (C1 c)) base (.slice (some ⟨W.heap.size, 0, none⟩) 4 4) [0, 0, 0, 0] ∧ ((W.alloc Z4).alloc (C1 c)).cell? ⟨(W.alloc Z4).heap.size, 0, none⟩ = some (.int .u8 (c.toNat : Nat)) ∧ Below W.heap.size W ((W.alloc Z4).alloc (C1 c)) := by
  refine ⟨ownB_made hb ?_, ?_, ((Below.refl _ _).alloc (Nat.le_refl _) _).alloc (by simp) _⟩
  · rw [Below.heap_alloc _ _ _ (by simp)]
    exact heap_alloc_new W _
  · have hh := heap_alloc_new (W.alloc Z4) (C1 c)
    simp only [World.cell?, hh]; rfl
theorem two_b (W : World) (base : Nat) (c : UInt8) (hb : base ≤ W.heap.size) : OwnB ((W.alloc (C1 c)).alloc Z4) base (.slice (some ⟨(W.alloc (C1 c)).heap.size, 0, none⟩) 4 4) [0, 0, 0, 0] ∧ ((W.alloc (C1 c)).alloc Z4).cell? ⟨W.heap.size, 0, none⟩ = some (.int .u8 (c.toNat : Nat)) ∧ Below W.heap.size W ((W.alloc (C1 c)).alloc Z4) := by
  refine ⟨ownB_made (by simp; omega) (heap_alloc_new _ _), ?_, ((Below.refl _ _).alloc (Nat.le_refl _) _).alloc (by simp) _⟩
  have hh : ((W.alloc (C1 c)).alloc Z4).heap[W.heap.size]? = some (C1 c) := by
    rw [Below.heap_alloc _ _ _ (by simp)]
    exact heap_alloc_new W _
  simp only [World.cell?, hh]; rfl
theorem run_copy {P : Program} {o : Oper} {a : Act} {w : World} (s x : Operand) (ts : Array TypeId) (ho : o.op = .call { callee := .builtin .copy, args := #[s, x], argTypes := ts }) (v xv : Value) (hs : a.eval s = v) (hx : a.eval x = xv) {v' : Value} {w' : World}
    (hrun : (Builtin.copy_ ts o.type #[v, xv]).run P w = .ok v' w') : (execOp a.eval o).run P w = .ok (.value v') w' := by
  unfold execOp
  simp only [ho, resolve, invoke, builtin, Sem.run_bind, Sem.run_pure, Result.andThen_ok, List.map_toArray, List.map_cons, List.map_nil, hs, hx, hrun]
theorem OwnB.wide {w : World} {base B : Nat} {v : Value} {l : List UInt8} (h : OwnB w base v l) (hB : B ≤ base) : OwnB w B v l := by
  obtain ⟨h1, h2⟩ := h
  refine ⟨h1, ?_⟩
  rcases h2 with h2 | ⟨g, cap, cur, e, hg, r⟩
  · exact Or.inl h2
  · exact Or.inr ⟨g, cap, cur, e, Nat.le_trans hB hg, r⟩
theorem OwnB.nil (w : World) (base : Nat) : OwnB w base (.slice none 0 0) [] := World.ownsRow_nil w base _ 1
theorem OwnB.below {w w' : World} {base : Nat} {v : Value} {l : List UInt8} (h : OwnB w base v l) (hb : Below w.heap.size w w') : OwnB w' base v l := ownsRow_below h hb
/-- Behind the first statement: a writer with five bytes. -/
structure EncS (x : Ent) (cs : List Value) (w : World) (b : Nat) (w1 : World) : Prop where
  lt : w.heap.size < b
  st : WrSt w.heap.size b w.heap.size w [0, 0, 0, 0, k8 x.kind] w1
  pa : PAt w1 w.heap.size cs
  below : Below w.heap.size w w1
/-- The writer behind the walk: its bytes. -/
structure EncT (w : World) (b : Nat) (bv : Value) (l : List UInt8) (w1 : World) : Prop where
  pa : PAt w1 b [bv]
  own : OwnB w1 w.heap.size bv l
  below : Below w.heap.size w w1
set_option maxHeartbeats 16000000 in
set_option maxRecDepth 100000 in
theorem encode_any (x : Ent) (cs : List Value) (av : Nat → Prop) (w : World) (h6 : entE.rep av w cs x) (hbs : ∀ b, entB x = some b → b.length ≤ 9000000) : Calls Tryz.prog 16 #[.agg cs.toArray] w (EncIs x w) := by
  have hlen := entE_ok.len h6
  have hc : cs[0]? = some (.int .i64 x.kind) := by
    obtain ⟨vR, vB, v0, v1, v2, v3, v4, v5, v6, v7, rfl, _⟩ := h6
    rfl
  have H6 := Lib.hid h6
  have HBs := Lib.hid hbs
  have HPx : Hid (PAt (w.alloc (.cells cs.toArray 55)) w.heap.size cs) := PAt.new w cs (by rw [hlen]; decide) _ (by decide) rfl
  have HBx : Hid (Below w.heap.size w (w.alloc (.cells cs.toArray 55))) := (Below.refl _ _).alloc (Nat.le_refl _) _
  have HSx : Hid ((w.alloc (.cells cs.toArray 55)).heap.size = w.heap.size + 1) := by unfold Hid; simp
  have HC := Lib.hid hc
  clear h6 hbs hlen hc
  go_enter Tryz.func16, Tryz.ntmps16
  go_wp2_with fail
  obtain ⟨X, hX⟩ : ∃ X, X = w.heap.size := ⟨_, rfl⟩
  rw [← hX] at HPx HBx HSx ⊢
  generalize w.alloc (.cells cs.toArray 55) = wA at HPx HBx HSx ⊢
  refine region_cut (fun a w' => ∃ (u5 u6 u7 u8 u9 u10 u11 u12 : Value) (b : Nat), a = ⟨#[.agg cs.toArray, .pointer (some ⟨X, 0, none⟩), .slice none 0 0, .int .i64 0, .pointer (some ⟨b, 0, none⟩), u5, u6, u7, u8, u9, u10, u11, u12, undef, undef, undef, undef, undef, undef, undef, undef, undef, undef, undef, undef, undef, undef, undef, undef, undef, undef, undef, undef, undef, undef, undef, undef, undef, undef, undef, undef, undef, undef, undef, undef, undef, undef, undef], []⟩ ∧ Hid (EncS x cs w b w')) ?_ ?_
  · have hk8 := wrap_k8 x.kind
    refine wp_region_tree (by kernel_rfl) (fun w' => w'.cell? ⟨X, 0, none⟩ = some (.int .i64 x.kind)) 7 (.q 1 0 (.q 2 1 (.q 3 0 (.fork (.e 0 (.e 4 (.e 5 (.q 6 0 (.e 7 (.q 8 0 (.nil))))))) (.e 4 (.e 0 (.e 5 (.q 6 0 (.e 7 (.q 8 0 (.nil))))))))))) (by kernel_rfl) (HPx.out.drew.1.at 0 HC.out) ?_
    refine tr_q (d := some 6) rfl rfl rfl (.pointer (some ⟨X, 0, none⟩)) (fun w => by go_simp) ?_
    simp only [Act.put, List.setIfInBounds_toArray, List.set_cons_zero, List.set_cons_succ]
    refine tr_s (d := some 7) rfl rfl rfl (.int .i64 x.kind) (fun w hw => by simp [execOp, Act.eval, hw, go_sem]) ?_
    simp only [Act.put, List.setIfInBounds_toArray, List.set_cons_zero, List.set_cons_succ]
    refine tr_q (d := some 8) rfl rfl rfl (.int .u8 ((k8 x.kind).toNat : Nat)) (fun w => by simp [execOp, Act.eval, go_sem, hk8]) ?_
    simp only [Act.put, List.setIfInBounds_toArray, List.set_cons_zero, List.set_cons_succ]
    refine tr_fork ?_ ?_
    · refine tr_run (d := some 5) rfl rfl rfl (.slice (some ⟨(wA.drew).heap.size, 0, none⟩) 4 4) ((wA.drew).alloc Z4) (by simp [execOp, Act.eval, run_make4]) (fun _ => (HPx.out.drew.below ((Below.refl _ _).alloc (Nat.le_refl _) _)).1.at 0 HC.out) ?_
      simp only [Act.put, List.setIfInBounds_toArray, List.set_cons_zero, List.set_cons_succ]
      refine tr_run (d := some 9) rfl rfl rfl (.slice (some ⟨((wA.drew).alloc Z4).heap.size, 0, none⟩) 1 1) (((wA.drew).alloc Z4).alloc (C1 (k8 x.kind))) (by simp [execOp, Act.eval, Instr.buildSlice, C1, go_sem]) (fun _ => (HPx.out.drew.below (((Below.refl _ _).alloc (Nat.le_refl _) _).alloc (by simp) _)).1.at 0 HC.out) ?_
      simp only [Act.put, List.setIfInBounds_toArray, List.set_cons_zero, List.set_cons_succ]
      obtain ⟨hz, hq, hbw⟩ := two_a wA.drew X (k8 x.kind) (by have := HSx.out; show X ≤ wA.heap.size; omega)
      obtain ⟨v3, W3, hrun, hO3, hB3, hN3⟩ := append_b' hz (k8 x.kind) _ hq (by decide) (by have := HSx.out; have := hbw.size; exact Nat.le_trans (show X ≤ wA.heap.size by omega) this) 22
      obtain ⟨va, vn, vc, rfl⟩ := hO3.form
      have HPx3 := Lib.hid ((HPx.out.drew.below hbw).nb hN3)
      have HB3 := Lib.hid (((Below.refl _ _).drew.trans (hbw.mono (show X ≤ wA.heap.size by have := HSx.out; omega))).trans hB3)
      refine tr_run (d := some 10) rfl rfl rfl _ W3 (run_append _ _ _ rfl _ _ rfl rfl hrun) (fun _ => HPx3.out.1.at 0 HC.out) ?_
      simp only [Act.put, List.setIfInBounds_toArray, List.set_cons_zero, List.set_cons_succ]
      have HO3 := Lib.hid hO3
      clear hz hq hbw hrun hO3 hB3 hN3
      refine tr_q (d := some 11) rfl rfl rfl (.agg #[.slice va vn vc]) (fun w => by simp [execOp, Act.eval, Instr.build, go_sem]) ?_
      simp only [Act.put, List.setIfInBounds_toArray, List.set_cons_zero, List.set_cons_succ]
      refine tr_run (d := some 12) rfl rfl rfl (.pointer (some ⟨W3.heap.size, 0, none⟩)) (W3.alloc (.cells #[.slice va vn vc] 84)) (by simp [execOp, Act.eval, Instr.box, go_sem]) (fun h => by cases h) ?_
      simp only [Act.put, List.setIfInBounds_toArray, List.set_cons_zero, List.set_cons_succ]
      refine tr_q (d := some 4) rfl rfl rfl (.pointer (some ⟨W3.heap.size, 0, none⟩)) (fun w => rfl) ?_
      simp only [Act.put, List.setIfInBounds_toArray, List.set_cons_zero, List.set_cons_succ]
      refine tr_end ?_
      have hal : Below W3.heap.size W3 (W3.alloc (.cells #[.slice va vn vc] 84)) := (Below.refl _ _).alloc (Nat.le_refl _) _
      refine ⟨rfl, _, _, _, _, _, _, _, _, W3.heap.size, rfl, ?_⟩
      have h3 := HB3.out.size
      have h4 := HSx.out
      subst hX
      have h5 : w.heap.size < W3.heap.size := by omega
      have hbz := HBx.out.trans (HB3.out.trans (hal.mono (Nat.le_of_lt h5)))
      exact ⟨h5, ⟨Nat.le_of_lt h5, Nat.le_refl _, hbz.size, fun k _ _ hk _ => hbz.block k hk, by simp, .slice va vn vc, PAt.new W3 [.slice va vn vc] (by simp) _ (by decide) rfl, HO3.out.below hal⟩, HPx3.out.below hal, HBx.out.trans (HB3.out.trans (hal.mono (Nat.le_of_lt h5)))⟩
    · refine tr_run (d := some 9) rfl rfl rfl (.slice (some ⟨(wA.drew).heap.size, 0, none⟩) 1 1) ((wA.drew).alloc (C1 (k8 x.kind))) (by simp [execOp, Act.eval, Instr.buildSlice, C1, go_sem]) (fun _ => (HPx.out.drew.below ((Below.refl _ _).alloc (Nat.le_refl _) _)).1.at 0 HC.out) ?_
      simp only [Act.put, List.setIfInBounds_toArray, List.set_cons_zero, List.set_cons_succ]
      refine tr_run (d := some 5) rfl rfl rfl (.slice (some ⟨((wA.drew).alloc (C1 (k8 x.kind))).heap.size, 0, none⟩) 4 4) (((wA.drew).alloc (C1 (k8 x.kind))).alloc Z4) (by simp [execOp, Act.eval, run_make4]) (fun _ => (HPx.out.drew.below (((Below.refl _ _).alloc (Nat.le_refl _) _).alloc (by simp) _)).1.at 0 HC.out) ?_
      simp only [Act.put, List.setIfInBounds_toArray, List.set_cons_zero, List.set_cons_succ]
      obtain ⟨hz, hq, hbw⟩ := two_b wA.drew X (k8 x.kind) (by have := HSx.out; show X ≤ wA.heap.size; omega)
      obtain ⟨v3, W3, hrun, hO3, hB3, hN3⟩ := append_b' hz (k8 x.kind) _ hq (by decide) (by have := HSx.out; have := hbw.size; exact Nat.le_trans (show X ≤ wA.heap.size by omega) this) 22
      obtain ⟨va, vn, vc, rfl⟩ := hO3.form
      have HPx3 := Lib.hid ((HPx.out.drew.below hbw).nb hN3)
      have HB3 := Lib.hid (((Below.refl _ _).drew.trans (hbw.mono (show X ≤ wA.heap.size by have := HSx.out; omega))).trans hB3)
      refine tr_run (d := some 10) rfl rfl rfl _ W3 (run_append _ _ _ rfl _ _ rfl rfl hrun) (fun _ => HPx3.out.1.at 0 HC.out) ?_
      simp only [Act.put, List.setIfInBounds_toArray, List.set_cons_zero, List.set_cons_succ]
      have HO3 := Lib.hid hO3
      clear hz hq hbw hrun hO3 hB3 hN3
      refine tr_q (d := some 11) rfl rfl rfl (.agg #[.slice va vn vc]) (fun w => by simp [execOp, Act.eval, Instr.build, go_sem]) ?_
      simp only [Act.put, List.setIfInBounds_toArray, List.set_cons_zero, List.set_cons_succ]
      refine tr_run (d := some 12) rfl rfl rfl (.pointer (some ⟨W3.heap.size, 0, none⟩)) (W3.alloc (.cells #[.slice va vn vc] 84)) (by simp [execOp, Act.eval, Instr.box, go_sem]) (fun h => by cases h) ?_
      simp only [Act.put, List.setIfInBounds_toArray, List.set_cons_zero, List.set_cons_succ]
      refine tr_q (d := some 4) rfl rfl rfl (.pointer (some ⟨W3.heap.size, 0, none⟩)) (fun w => rfl) ?_
      simp only [Act.put, List.setIfInBounds_toArray, List.set_cons_zero, List.set_cons_succ]
      refine tr_end ?_
      have hal : Below W3.heap.size W3 (W3.alloc (.cells #[.slice va vn vc] 84)) := (Below.refl _ _).alloc (Nat.le_refl _) _
      refine ⟨rfl, _, _, _, _, _, _, _, _, W3.heap.size, rfl, ?_⟩
      have h3 := HB3.out.size
      have h4 := HSx.out
      subst hX
      have h5 : w.heap.size < W3.heap.size := by omega
      have hbz := HBx.out.trans (HB3.out.trans (hal.mono (Nat.le_of_lt h5)))
      exact ⟨h5, ⟨Nat.le_of_lt h5, Nat.le_refl _, hbz.size, fun k _ _ hk _ => hbz.block k hk, by simp, .slice va vn vc, PAt.new W3 [.slice va vn vc] (by simp) _ (by decide) rfl, HO3.out.below hal⟩, HPx3.out.below hal, HBx.out.trans (HB3.out.trans (hal.mono (Nat.le_of_lt h5)))⟩
  rintro a w1 ⟨u5, u6, u7, u8, u9, u10, u11, u12, b, rfl, HE⟩
  subst hX
  have HWk := Lib.hid (walk_any (k := wk) ⟨w.heap.size, b, 82, WrSt w.heap.size b w.heap.size w⟩ (wr_ok w.heap.size b w.heap.size w) [0, 0, 0, 0, k8 x.kind] x w1 w.heap.size cs (fun k => av k ∧ k < w.heap.size) HE.out.st (Nat.le_refl _) (by have := HE.out.lt; show w.heap.size ≠ b; omega) HE.out.pa
    (entE_ok.keep (entE_ok.weak H6.out fun k h1 h2 => ⟨h1, h2⟩) fun k c t f _ _ hk => HE.out.below.block k hk.2) (fun k hk => ⟨by have := HE.out.lt; show k ≠ b; omega, by omega⟩)
    (fun q hq => by
      rw [wk_ent] at hq
      cases hb : entB x with
      | none => rw [hb] at hq; cases hq
      | some b' =>
        rw [hb] at hq
        obtain rfl := Option.some.inj hq
        have := HBs.out b' hb
        show ([0, 0, 0, 0, k8 x.kind] ++ b').length ≤ 10000000
        simp; omega))
  go_wp2_with fail
  refine HWk.out.mono ?_
  rintro e w2 hwk
  rw [wk_ent] at hwk
  cases hb : entB x with
  | none =>
    rw [hb] at hwk
    obtain ⟨rfl, hws⟩ := hwk
    have HF : Hid (EncIs x w (.returned (.tuple #[.slice none 0 0, .int .i64 4])) w2) := ⟨_, by rw [hb]; rfl, by rw [hb]; exact OwnB.nil _ _, HE.out.below.trans hws.fr.below⟩
    clear hws HE HWk hb
    go_wp2_with fail
    go_ret2
    exact HF.out
  | some body =>
    rw [hb] at hwk
    obtain ⟨rfl, es, hws, hrep⟩ := hwk
    clear hrep
    have HBl := Lib.hid (HBs.out body hb)
    obtain ⟨hq0, hq1, hq2, hq3, hsl, bv, hbv, hO⟩ := hws.st
    clear hq0 hq1 hq2 hq3
    have HRes : Hid (encRes x.kind (entB x) = if 1048576 < body.length + 9 then ([], 2) else (be 4 (body.length + 1) ++ (k8 x.kind :: body) ++ be 4 (chk (be 4 (body.length + 1) ++ (k8 x.kind :: body))), 0)) := by rw [hb]; rfl
    have HT : Hid (EncT w b bv ([0, 0, 0, 0, k8 x.kind] ++ body) w2) := ⟨hbv, hO, HE.out.below.trans hws.fr.below⟩
    have HLb := Lib.hid HE.out.lt
    obtain ⟨ba, bc, hbe⟩ := hO.slice
    have hl5 : ([0, 0, 0, 0, k8 x.kind] ++ body).length = body.length + 5 := by simp
    obtain ⟨M, hM⟩ : ∃ M, M = body.length + 5 := ⟨_, rfl⟩
    rw [hl5, ← hM] at hbe
    subst hbe
    have HM := Lib.hid hM
    have m0 : (M : Int) ≤ 9000005 := by have := HBl.out; omega
    have cb : w2.cell? ⟨b, 0, none⟩ = some (.slice ba M bc) := hbv.1.at 0 rfl
    clear hws hbv hO hsl hb HE HWk hl5 hM
    by_cases hover : 1048576 < body.length + 9
    · have HF : Hid (EncIs x w (.returned (.tuple #[.slice none 0 0, .int .i64 2])) w2) := ⟨_, by rw [HRes.out, if_pos hover], by rw [HRes.out, if_pos hover]; exact OwnB.nil _ _, HT.out.below⟩
      have i0 : (1048576 : Int) < (M : Int) + 4 := by have := HM.out; omega
      clear hover
      go_wp2_with fail
      go_ret2
      exact HF.out
    · have i0 : decide ((1048576 : Int) < (M : Int) + 4) = false := decide_eq_false (by have := HM.out; omega)
      have HRes2 : Hid (encRes x.kind (entB x) = (be 4 (body.length + 1) ++ (k8 x.kind :: body) ++ be 4 (chk (be 4 (body.length + 1) ++ (k8 x.kind :: body))), 0)) := by unfold Hid; rw [HRes.out, if_neg hover]
      have HN1 : Hid (body.length + 9 ≤ 1048576) := by unfold Hid; omega
      clear hover
      go_wp2_with fail
      have HS6 : Hid (w2.drew.cell? ⟨b, 0, none⟩ = some (.slice ba M bc)) := HT.out.pa.drew.1.at 0 rfl
      have hsub : IntKind.i64.wrap ((M : Int) - 4) = (body.length : Int) + 1 := by have := HM.out; rw [IntWalk.i64_in _ (by omega)]; omega
      have hw1 : IntKind.u64.wrap ((body.length : Int) + 1) = (((body.length + 1 : Nat)) : Int) := by have := HM.out; rw [wraps_u64' _ (by omega) (by omega)]; omega
      refine wp_region_seqL (by kernel_rfl) (fun w' => w'.cell? ⟨b, 0, none⟩ = some (.slice ba M bc)) 12 [(0, 0), (1, 0), (2, 0), (3, 1), (4, 0), (5, 0), (6, 0), (7, 1), (8, 0), (9, 0), (10, 0), (11, 2), (12, 2)] (by kernel_rfl) (HS6.out) ?_
      refine sl_q (d := some 24) rfl rfl rfl (.pointer (some ⟨b, 0, none⟩)) (fun w => rfl) ?_
      simp only [Act.put, List.setIfInBounds_toArray, List.set_cons_zero, List.set_cons_succ]
      refine sl_q (d := some 25) rfl rfl rfl (.pointer (some ⟨b, 0, none⟩)) (fun w => rfl) ?_
      simp only [Act.put, List.setIfInBounds_toArray, List.set_cons_zero, List.set_cons_succ]
      refine sl_q (d := some 26) rfl rfl rfl (.pointer (some ⟨b, 0, none⟩)) (fun w => by go_simp) ?_
      simp only [Act.put, List.setIfInBounds_toArray, List.set_cons_zero, List.set_cons_succ]
      refine sl_s (d := some 27) rfl rfl rfl (.slice ba M bc) (fun w hw => by simp [execOp, Act.eval, hw, go_sem]) ?_
      simp only [Act.put, List.setIfInBounds_toArray, List.set_cons_zero, List.set_cons_succ]
      refine sl_q (d := some 28) rfl rfl rfl (.pointer (some ⟨b, 0, none⟩)) (fun w => rfl) ?_
      simp only [Act.put, List.setIfInBounds_toArray, List.set_cons_zero, List.set_cons_succ]
      refine sl_q (d := some 29) rfl rfl rfl (.pointer (some ⟨b, 0, none⟩)) (fun w => rfl) ?_
      simp only [Act.put, List.setIfInBounds_toArray, List.set_cons_zero, List.set_cons_succ]
      refine sl_q (d := some 30) rfl rfl rfl (.pointer (some ⟨b, 0, none⟩)) (fun w => by go_simp) ?_
      simp only [Act.put, List.setIfInBounds_toArray, List.set_cons_zero, List.set_cons_succ]
      refine sl_s (d := some 31) rfl rfl rfl (.slice ba M bc) (fun w hw => by simp [execOp, Act.eval, hw, go_sem]) ?_
      simp only [Act.put, List.setIfInBounds_toArray, List.set_cons_zero, List.set_cons_succ]
      refine sl_q (d := some 32) rfl rfl rfl (.int .i64 (M : Int)) (fun w => by simp [execOp, Act.eval, go_sem]) ?_
      simp only [Act.put, List.setIfInBounds_toArray, List.set_cons_zero, List.set_cons_succ]
      refine sl_q (d := some 33) rfl rfl rfl (.int .i64 ((body.length : Int) + 1)) (fun w => by simp [execOp, Act.eval, go_sem, hsub]) ?_
      simp only [Act.put, List.setIfInBounds_toArray, List.set_cons_zero, List.set_cons_succ]
      refine sl_q (d := some 34) rfl rfl rfl (.int .u64 ((body.length + 1 : Nat) : Int)) (fun w => by simp only [execOp]; simp [Act.eval, go_sem, hw1]) ?_
      simp only [Act.put, List.setIfInBounds_toArray, List.set_cons_zero, List.set_cons_succ]
      refine sl_call (d := some 35) rfl rfl rfl ⟨_, Tryz.func29, by kernel_rfl, by kernel_rfl⟩ _ _ _ rfl rfl [.slice none 0 0, .int .u64 ((body.length + 1 : Nat) : Int), .int .i64 4] rfl (put_any 4 (body.length + 1) w2.heap.size (by omega) (by have := HN1.out; omega) _ [] w2.drew (OwnB.nil _ _) (by simp) (Nat.le_refl _)) ?_
      rintro e w3 ⟨v3, rfl, hO3, hB3, hN3⟩
      rw [List.nil_append] at hO3
      have HT3 : Hid (EncT w b (.slice ba M bc) ([0, 0, 0, 0, k8 x.kind] ++ body) w3) := by have hB3 : Below w2.heap.size w2 w3 := (Below.refl _ _).drew.trans hB3; exact ⟨HT.out.pa.below hB3, HT.out.own.below hB3, HT.out.below.trans (hB3.mono HT.out.below.size)⟩
      obtain ⟨va, vc, rfl⟩ := hO3.slice
      rw [be_length]
      refine ⟨_, rfl, fun _ => HT3.out.pa.1.at 0 rfl, ?_⟩
      simp only [Act.put, List.setIfInBounds_toArray, List.set_cons_zero, List.set_cons_succ]
      have HO3 := Lib.hid hO3
      clear hO3 hB3 hN3
      obtain ⟨a3, c3, e3, _, _, hcell⟩ := HO3.out.r
      obtain ⟨ab, ao, ea, _⟩ := hcell 0 (by rw [be_length]; omega)
      obtain ⟨rfl, rfl⟩ : va = a3 ∧ vc = c3 := by simpa using e3
      subst ea
      obtain ⟨w4, hrun, hO4, hB4, hN4⟩ := copy_front (m := be 4 (body.length + 1)) (sp := ⟨ab, ao, none⟩) (sc := vc) HT3.out.own (by rw [be_length]; simp) (by rw [be_length]; omega) (fun j u hj => by
        have hj2 : j < (be 4 (body.length + 1)).length := by have := (List.getElem?_eq_some_iff.1 hj).1; simpa [bcs] using this
        obtain ⟨ab2, ao2, e2, hc2⟩ := hcell j hj2
        obtain ⟨rfl, rfl⟩ : ab = ab2 ∧ ao = ao2 := by simpa using e2
        rw [Addr.add_mid, hc2]
        simp only [bcs, List.getElem?_map, List.getElem?_eq_getElem hj2, Option.map_some] at hj
        exact hj) 3
      rw [be_length] at hrun
      refine sl_run (d := some 36) rfl rfl rfl _ w4 (run_copy _ _ _ rfl _ _ rfl rfl hrun) (fun h => by cases h) ?_
      simp only [Act.put, List.setIfInBounds_toArray, List.set_cons_zero, List.set_cons_succ]
      have HT4 : Hid (EncT w b (.slice ba M bc) (be 4 (body.length + 1) ++ (k8 x.kind :: body)) w4) := ⟨HT3.out.pa.nb hN4, by rw [be_length] at hO4; exact hO4, HT3.out.below.trans hB4⟩
      clear hrun hO4 hB4 hN4 HT3 HO3 HT hcell e3 HS6 cb hsub hw1
      refine sl_end ?_
      try go_wp2_with fail
      have HS7 : Hid (w4.drew.cell? ⟨b, 0, none⟩ = some (.slice ba M bc)) := HT4.out.pa.drew.1.at 0 rfl
      have HO4d : Hid (OwnB w4.drew w.heap.size (.slice ba M bc) (be 4 (body.length + 1) ++ (k8 x.kind :: body))) := HT4.out.own.below (Below.refl _ _).drew
      have HR4 := Lib.hid HO4d.out.r
      obtain ⟨N, hN⟩ : ∃ N, N = chk (be 4 (body.length + 1) ++ (k8 x.kind :: body)) := ⟨_, rfl⟩
      have HNl : Hid (N < 4294967291) := by unfold Hid; rw [hN]; exact chk_lt _
      have HNd := Lib.hid hN
      have hwN := wrap_u64_nat N (by have := HNl.out; omega)
      clear hN
      refine wp_region_seqL (by kernel_rfl) (fun w' => w'.cell? ⟨b, 0, none⟩ = some (.slice ba M bc)) 10 [(0, 0), (1, 0), (2, 0), (3, 1), (4, 0), (5, 0), (6, 0), (7, 1), (8, 2), (9, 0), (10, 2), (11, 0), (12, 0)] (by kernel_rfl) (HS7.out) ?_
      refine sl_q (d := some 37) rfl rfl rfl (.pointer (some ⟨b, 0, none⟩)) (fun w => rfl) ?_
      simp only [Act.put, List.setIfInBounds_toArray, List.set_cons_zero, List.set_cons_succ]
      refine sl_q (d := some 38) rfl rfl rfl (.pointer (some ⟨b, 0, none⟩)) (fun w => rfl) ?_
      simp only [Act.put, List.setIfInBounds_toArray, List.set_cons_zero, List.set_cons_succ]
      refine sl_q (d := some 39) rfl rfl rfl (.pointer (some ⟨b, 0, none⟩)) (fun w => by go_simp) ?_
      simp only [Act.put, List.setIfInBounds_toArray, List.set_cons_zero, List.set_cons_succ]
      refine sl_s (d := some 40) rfl rfl rfl (.slice ba M bc) (fun w hw => by simp [execOp, Act.eval, hw, go_sem]) ?_
      simp only [Act.put, List.setIfInBounds_toArray, List.set_cons_zero, List.set_cons_succ]
      refine sl_q (d := some 41) rfl rfl rfl (.pointer (some ⟨b, 0, none⟩)) (fun w => rfl) ?_
      simp only [Act.put, List.setIfInBounds_toArray, List.set_cons_zero, List.set_cons_succ]
      refine sl_q (d := some 42) rfl rfl rfl (.pointer (some ⟨b, 0, none⟩)) (fun w => rfl) ?_
      simp only [Act.put, List.setIfInBounds_toArray, List.set_cons_zero, List.set_cons_succ]
      refine sl_q (d := some 43) rfl rfl rfl (.pointer (some ⟨b, 0, none⟩)) (fun w => by go_simp) ?_
      simp only [Act.put, List.setIfInBounds_toArray, List.set_cons_zero, List.set_cons_succ]
      refine sl_s (d := some 44) rfl rfl rfl (.slice ba M bc) (fun w hw => by simp [execOp, Act.eval, hw, go_sem]) ?_
      simp only [Act.put, List.setIfInBounds_toArray, List.set_cons_zero, List.set_cons_succ]
      refine sl_call (d := some 45) rfl rfl rfl ⟨_, Tryz.func30, by kernel_rfl, by kernel_rfl⟩ _ _ _ rfl rfl [.slice ba M bc] rfl (checksum_any _ (be 4 (body.length + 1) ++ (k8 x.kind :: body)) w4.drew HR4.out (by rw [List.length_append, be_length]; simp; have := HN1.out; omega)) ?_
      rintro e w5 ⟨rfl, rfl⟩
      refine ⟨_, rfl, fun _ => HS7.out, ?_⟩
      simp only [Act.put, List.setIfInBounds_toArray, List.set_cons_zero, List.set_cons_succ]
      rw [← HNd.out]
      refine sl_q (d := some 46) rfl rfl rfl (.int .u64 (N : Nat)) (fun w => by simp [execOp, Act.eval, go_sem, hwN]) ?_
      simp only [Act.put, List.setIfInBounds_toArray, List.set_cons_zero, List.set_cons_succ]
      refine sl_call (d := some 47) rfl rfl rfl ⟨_, Tryz.func29, by kernel_rfl, by kernel_rfl⟩ _ _ _ rfl rfl [.slice ba M bc, .int .u64 (N : Nat), .int .i64 4] rfl (put_any 4 N w.heap.size (by omega) (by have := HNl.out; omega) _ (be 4 (body.length + 1) ++ (k8 x.kind :: body)) w4.drew HO4d.out (by rw [List.length_append, be_length]; simp; have := HN1.out; omega) HT4.out.below.size) ?_
      rintro e w6 ⟨v6, rfl, hO6, hB6, hN6⟩
      refine ⟨_, rfl, (fun h => by cases h), ?_⟩
      simp only [Act.put, List.setIfInBounds_toArray, List.set_cons_zero, List.set_cons_succ]
      have HF : Hid (EncIs x w (.returned (.tuple #[v6, .int .i64 0])) w6) := ⟨v6, by rw [HRes2.out], by rw [HRes2.out]; rw [HNd.out] at hO6; exact hO6, (HT4.out.below.trans (Below.refl _ _).drew).trans hB6⟩
      clear hO6 hB6 hN6 HT4 HR4 HO4d HS7
      refine sl_q (d := some 2) rfl rfl rfl (v6) (fun w => rfl) ?_
      simp only [Act.put, List.setIfInBounds_toArray, List.set_cons_zero, List.set_cons_succ]
      refine sl_q (d := some 3) rfl rfl rfl (.int .i64 0) (fun w => rfl) ?_
      simp only [Act.put, List.setIfInBounds_toArray, List.set_cons_zero, List.set_cons_succ]
      refine sl_end ?_
      try go_wp2_with fail
      go_ret2
      exact HF.out
end Go.Proofs.YtpknalpdcfjffaaGreat
/- The string of bytes. No walk. -/
namespace Go.Proofs.YtpknalpdcfjffaaGreat
open Go Go.RowKit

theorem bytesR_conv {w : World} {v : Value} {l : List UInt8} (h : BytesR w v l) : (convert 22 9 v).run Tryz.prog w = .ok (.string ⟨l.toArray⟩) w := by
  obtain ⟨a, c, e, q1, q2, q3⟩ := h
  subst e
  rcases Nat.eq_zero_or_pos l.length with h0 | h0
  · have e0 : l = [] := List.eq_nil_of_length_eq_zero h0
    rw [e0]
    cases a with
    | none => exact run_bytes_none w c
    | some a => exact run_convert_bytes_back (P := Tryz.prog) w 22 9 5 a c [] Tryz.underlying22 Tryz.underlying5 Tryz.underlying9 (fun j hj => by simp at hj)
  · obtain ⟨ab, ao, rfl, _⟩ := q3 0 h0
    refine run_convert_bytes_back (P := Tryz.prog) w 22 9 5 ⟨ab, ao, none⟩ c l Tryz.underlying22 Tryz.underlying5 Tryz.underlying9 (fun j hj => ?_)
    obtain ⟨ab', ao', e', hc⟩ := q3 j hj
    obtain ⟨rfl, rfl⟩ : ab = ab' ∧ ao = ao' := by simpa using e'
    rw [Addr.add_mid]; exact hc
theorem str_eq (l m : List UInt8) : (decide ((⟨l.toArray⟩ : ByteArray) = ⟨m.toArray⟩)) = (l == m) := by
  rw [Bool.eq_iff_iff]; simp
end Go.Proofs.YtpknalpdcfjffaaGreat
/- What Same answers. No walk. -/
namespace Go.Proofs.YtpknalpdcfjffaaGreat
open Go Go.RowKit

/-- Whether the bytes that two entries have are the same. -/
def sameB (x y : Ent) : Bool := decide (x.kind = y.kind) && ((entB x).getD [] == (entB y).getD [])
def SameIs (x y : Ent) (w : World) (e : Ending) (w' : World) : Prop := e = .returned (.bool (sameB x y)) ∧ Below w.heap.size w w'
theorem Walked.wrote {K : WkM wk} {s : List UInt8} {x : Ent} {p : Nat} {cs : List Value} {av : Nat → Prop} {w w' : World} {e : Ending} (h : Walked K (wk.ent s x) p s cs av w e w') : ∃ r es, e = .returned (.bool r) ∧ WS K p (s ++ (entB x).getD []) es w w' := by
  rw [wk_ent] at h
  cases hb : entB x with
  | none =>
    rw [hb] at h
    obtain ⟨rfl, h1⟩ := h
    exact ⟨_, _, rfl, by simpa using h1⟩
  | some b =>
    rw [hb] at h
    obtain ⟨rfl, es, h1, _⟩ := h
    exact ⟨_, _, rfl, h1⟩
theorem wk_size {x : Ent} (h : ∀ b, entB x = some b → b.length ≤ 9000000) : ∀ q, wk.ent [] x = some q → wk.sz q.1 ≤ 10000000 := fun q hq => by
  rw [wk_ent] at hq
  cases hb : entB x with
  | none => rw [hb] at hq; cases hq
  | some b =>
    rw [hb] at hq
    obtain rfl := Option.some.inj hq
    have := h b hb
    show ([] ++ b).length ≤ 10000000
    simp; omega
theorem OwnB.old {w w' : World} {base ob : Nat} {v : Value} {l : List UInt8} (h : OwnB w base v l) (hs : w.heap.size ≤ ob) (hj : ByOld ob w w') : OwnB w' base v l :=
  h.bytes fun k c f e => hj k c f (Nat.lt_of_lt_of_le (Array.getElem?_eq_some_iff.1 e).1 hs) e
end Go.Proofs.YtpknalpdcfjffaaGreat
/- What store.Decode returns; laws for its walk. -/
namespace Go.Proofs.YtpknalpdcfjffaaGreat
open Go Go.RowKit

/-- What Decode returns of bytes: the entry, its size, the error. -/
def decRes (l : List UInt8) : Ent × Nat × Int :=
  if l.length < 4 then (.zero, 0, 11)
  else if 1048576 < num (l.take 4) + 8 then (.zero, 0, 2)
  else if l.length < num (l.take 4) + 8 then (.zero, 0, 11)
  else if chk (l.take (num (l.take 4) + 4)) ≠ num ((l.take (num (l.take 4) + 8)).drop (num (l.take 4) + 4)) then (.zero, 0, 10)
  else if num (l.take 4) = 0 then (.zero, 0, 4)
  else if ¬ (1 ≤ ((l.getD 4 0).toNat : Int) ∧ ((l.getD 4 0).toNat : Int) ≤ 4) then (.zero, 0, 4)
  else match pEnt ((l.getD 4 0).toNat : Nat) ((l.take (num (l.take 4) + 4)).drop 5) with
    | some (x, []) => (x, num (l.take 4) + 8, 0)
    | _ => (.zero, 0, 3)
def nilV : Value := .slice none 0 0
/-- The cells of an entry with a kind alone. -/
def kc (k : Int) : List Value := entCells { Ent.zero with kind := k } nilV nilV nilV nilV nilV nilV nilV nilV nilV nilV
theorem kc_rep (av : Nat → Prop) (w : World) (k : Int) (hk : I64 k) : entE.rep av w (kc k) { Ent.zero with kind := k } := by
  have z := I64.zero
  have r0 : RdS rdE av w nilV [] := RdS.nil _ _ _
  have i0 : RdS intE av w nilV [] := RdS.nil _ _ _
  refine EntP.shut ⟨hk, z, ⟨z, Nat.zero_le _, z, ⟨z, z, z, z⟩, r0⟩, z, z, z, Nat.zero_le _, ⟨z, ⟨z, z, z, z⟩, r0⟩, ?_⟩
  exact ⟨_, _, _, _, _, _, _, _, rfl, z, z, z, RdS.nil _ _ _, ⟨i0, i0, i0, z, Nat.zero_lt_succ _, z, z, z⟩, z, i0, i0, RdS.nil _ _ _, RdS.nil _ _ _⟩
theorem rowT_ent : RowT 55 38 := ⟨by kernel_rfl, _, Tryz.underlying55, rfl⟩
theorem run_build0 (w : World) : (Instr.build 55 #[]).run Tryz.prog w = .ok (.agg (kc 0).toArray) w := by kernel_rfl
theorem run_buildK (k : Int) (w : World) : (Instr.build 55 #[(0, .int .i64 k)]).run Tryz.prog w = .ok (.agg (kc k).toArray) w := by kernel_rfl
theorem run_alloc0 (w : World) : (Instr.alloc 55 true (.tuple #[])).run Tryz.prog w = .ok (.pointer (some ⟨w.heap.size, 0, none⟩)) (w.alloc (.cells (kc 0).toArray 55)) := by kernel_rfl
theorem kc_length (k : Int) : (kc k).length = 38 := rfl
theorem kc_one (k : Int) : ∀ v ∈ kc k, v.oneCell' = true := by
  intro v hv
  simp only [kc, entCells, nilV, List.mem_cons, List.not_mem_nil, or_false] at hv
  repeat (rcases hv with rfl | hv; rfl)
/-- The end of a function that returns such a value and two others. -/
theorem ret_row3 {fn : Func} {R : Ending → World → Prop} {a : Act} {w : World} {i j k : Nat} {t : TypeId} (hfn : fn.results = #[.cell i t, .tmp j, .tmp k]) (b : Nat) (cs : List Value) (q r : Value) (h : RowAt w b cs) (ht : RowT t cs.length) (hp : a.tmps.getD i undef = .pointer (some ⟨b, 0, none⟩)) (hq : a.tmps.getD j undef = q) (hr : a.tmps.getD k undef = r) (hd : a.defers = [])
    (hR : R (.returned (.tuple #[.agg cs.toArray, q, r])) w) : bodyPost Tryz.prog fn R .ret a w := by
  refine bodyPost_ret ?_ hd hR
  have hl := h.loadVar ht
  unfold results
  rw [hfn]
  simp [hp, hq, hr, asAddr, hl, -Array.getD_eq_getD_getElem?]
def DecIs (l : List UInt8) (w : World) (e : Ending) (w' : World) : Prop := ∃ cs, e = .returned (.tuple #[.agg cs.toArray, .int .i64 ((decRes l).2.1 : Nat), .int .i64 (decRes l).2.2]) ∧ entE.rep (fun k => w.heap.size ≤ k) w' cs (decRes l).1 ∧ Below w.heap.size w w'
theorem DecIs.err {l : List UInt8} {w w' : World} (er : Int) (h : decRes l = (.zero, 0, er)) (hb : Below w.heap.size w w') : DecIs l w (.returned (.tuple #[.agg (kc 0).toArray, .int .i64 0, .int .i64 er])) w' :=
  ⟨kc 0, by rw [h]; rfl, by rw [h]; exact kc_rep _ _ 0 I64.zero, hb⟩
end Go.Proofs.YtpknalpdcfjffaaGreat
/- An entry in the making. No walk. -/
namespace Go.Proofs.YtpknalpdcfjffaaGreat
open Go Go.RowKit

/-- An entry whose kind uses these fields alone. -/
def canon (x : Ent) : Prop :=
  x = { Ent.zero with kind := 1, now := x.now } ∨ x = { Ent.zero with kind := 2, rep := x.rep, corr := x.corr, arr := x.arr } ∨
  x = { Ent.zero with kind := 3, st := x.st, name := x.name, from_ := x.from_, closed := x.closed, pl := x.pl, bias := x.bias } ∨ x = { Ent.zero with kind := 4, cyc := x.cyc }
def smEnt (x : Ent) : Prop := smRep x.rep ∧ x.name.size ≤ 5 ∧ x.bias.length ≤ 2 ∧ (x.cyc = .zero ∨ smCyc x.cyc)
def EntIs (B b : Nat) (w : World) (e : Ending) (w' : World) : Prop := ∃ (x : Ent) (cs : List Value), e = .returned (.agg cs.toArray) ∧ entE.rep (w.heap.size ≤ ·) w' cs x ∧ canon x ∧ smEnt x ∧ St w B b w'
theorem sz_ent : (Tryz.prog.info? 55).map (·.size) = some 38 := by kernel_rfl
theorem sz_item : (Tryz.prog.info? 34).map (·.size) = some 10 := by kernel_rfl
theorem sz_per : (Tryz.prog.info? 36).map (·.size) = some 7 := by kernel_rfl
theorem ent_load (w : World) (b : Nat) (es : List Value) (hl : es.length = 38) (hr : w.rangeAt b 0 es) : (loadVar 55 ⟨b, 0, none⟩).run Tryz.prog w = .ok (.agg es.toArray) w := run_loadVar_mid w b 0 _ es _ hr Tryz.underlying55 rfl (by rw [sz_ent, hl])
def itmCells (r : Rep) (u : Value) (c a : Int) : List Value := repCells r u ++ [.int .i64 c, .int .i64 a]
structure En (w : World) (B b P : Nat) (x : Ent) (vR vB v0 v1 v2 v3 v4 v5 v6 v7 : Value) (W : World) : Prop where
  m : Mk w B b P (entCells x vR vB v0 v1 v2 v3 v4 v5 v6 v7) W
  d : EntP (fun k => nb b P k ∧ w.heap.size < k) W x vR vB v0 v1 v2 v3 v4 v5 v6 v7
  r : PAt W w.heap.size (kc 0)
  rp : w.heap.size < P
  rb : b < w.heap.size
section
variable {w W W' : World} {B b P : Nat} {x : Ent} {vR vB v0 v1 v2 v3 v4 v5 v6 v7 : Value}
theorem En.dk (h : En w B b P x vR vB v0 v1 v2 v3 v4 v5 v6 v7 W) (hk : Kp b P W W') : EntP (fun k => nb b P k ∧ w.heap.size < k) W' x vR vB v0 v1 v2 v3 v4 v5 v6 v7 := h.d.keep fun k c t f e e1 ha => hk.keeps k c t f e e1 ha.1
theorem En.put (h : En w B b P x vR vB v0 v1 v2 v3 v4 v5 v6 v7 W) {x' : Ent} {uR uB u0 u1 u2 u3 u4 u5 u6 u7 : Value} (hk : Kp b P W W') (hm : Mk w B b P (entCells x' uR uB u0 u1 u2 u3 u4 u5 u6 u7) W') (hd : EntP (fun k => nb b P k ∧ w.heap.size < k) W' x' uR uB u0 u1 u2 u3 u4 u5 u6 u7) : En w B b P x' uR uB u0 u1 u2 u3 u4 u5 u6 u7 W' :=
  ⟨hm, hd, h.r.of_block (hk.same _ h.r.lt (by have := h.rb; omega) (by have := h.rp; omega)), h.rp, h.rb⟩
theorem En.call (h : En w B b P x vR vB v0 v1 v2 v3 v4 v5 v6 v7 W) (hs : St W B b W') : En w B b P x vR vB v0 v1 v2 v3 v4 v5 v6 v7 W' := h.put (Kp.st hs) (h.m.call hs) (h.dk (Kp.st hs))
theorem entCells_length (x : Ent) (vR vB v0 v1 v2 v3 v4 v5 v6 v7 : Value) : (entCells x vR vB v0 v1 v2 v3 v4 v5 v6 v7).length = 38 := rfl
theorem En.setNow (h : En w B b P x vR vB v0 v1 v2 v3 v4 v5 v6 v7 W) {n : Int} (hn : I64 n) (hW : W' = W.setCell ⟨P, 1, none⟩ (.int .i64 n)) : En w B b P { x with now := n } vR vB v0 v1 v2 v3 v4 v5 v6 v7 W' := by
  rw [hW]
  have d := h.dk (W' := W.setCell ⟨P, 1, none⟩ (.int .i64 n)) (Kp.set (b := b) 1 (.int .i64 n))
  exact h.put (Kp.set (b := b) 1 (.int .i64 n)) (h.m.set 1 (.int .i64 n) (by rw [entCells_length]; decide)) ⟨d.kind, hn, d.rep, d.corr, d.arr, d.st, d.name, d.per, d.cyc⟩
theorem En.setSt (h : En w B b P x vR vB v0 v1 v2 v3 v4 v5 v6 v7 W) {n : Int} (hn : I64 n) (hW : W' = W.setCell ⟨P, 12, none⟩ (.int .i64 n)) : En w B b P { x with st := n } vR vB v0 v1 v2 v3 v4 v5 v6 v7 W' := by
  rw [hW]
  have d := h.dk (W' := W.setCell ⟨P, 12, none⟩ (.int .i64 n)) (Kp.set (b := b) 12 (.int .i64 n))
  exact h.put (Kp.set (b := b) 12 (.int .i64 n)) (h.m.set 12 (.int .i64 n) (by rw [entCells_length]; decide)) ⟨d.kind, d.now, d.rep, d.corr, d.arr, hn, d.name, d.per, d.cyc⟩
theorem En.setName (h : En w B b P x vR vB v0 v1 v2 v3 v4 v5 v6 v7 W) {n : ByteArray} (hn : n.size ≤ 10000000) (hW : W' = W.setCell ⟨P, 13, none⟩ (.string n)) : En w B b P { x with name := n } vR vB v0 v1 v2 v3 v4 v5 v6 v7 W' := by
  rw [hW]
  have d := h.dk (W' := W.setCell ⟨P, 13, none⟩ (.string n)) (Kp.set (b := b) 13 (.string n))
  exact h.put (Kp.set (b := b) 13 (.string n)) (h.m.set 13 (.string n) (by rw [entCells_length]; decide)) ⟨d.kind, d.now, d.rep, d.corr, d.arr, d.st, hn, d.per, d.cyc⟩
theorem En.setItem (h : En w B b P x vR vB v0 v1 v2 v3 v4 v5 v6 v7 W) {r : Rep} {u : Value} {c a : Int} (h1 : I64 r.kind ∧ r.name.size ≤ 10000000 ∧ I64 r.time ∧ okPla r.pl) (h2 : RdS rdE (fun k => nb b P k ∧ w.heap.size < k) W u r.rds) (h3 : I64 c) (h4 : I64 a) (hW : W' = W.setCells P 2 (itmCells r u c a)) : En w B b P { x with rep := r, corr := c, arr := a } u vB v0 v1 v2 v3 v4 v5 v6 v7 W' := by
  rw [hW]
  have d := h.dk (W' := W.setCells P 2 (itmCells r u c a)) (Kp.mid (b := b) 2 (itmCells r u c a))
  exact h.put (Kp.mid (b := b) 2 (itmCells r u c a)) (h.m.mid 2 (itmCells r u c a) (by rw [entCells_length]; simp [itmCells, repCells, cycCells])) ⟨d.kind, d.now, ⟨h1.1, h1.2.1, h1.2.2.1, h1.2.2.2, rdk rdE_ok h2 (Kp.mid (b := b) 2 _)⟩, h3, h4, d.st, d.name, d.per, d.cyc⟩
theorem En.setPer (h : En w B b P x vR vB v0 v1 v2 v3 v4 v5 v6 v7 W) {f : Int} {c : Bool} {p : Pla} (h1 : I64 f) (h2 : okPla p) (hW : W' = W.setCells P 14 ([.int .i64 f, .bool c, .int .i64 p.f, .int .i64 p.a, .int .i64 p.b, .int .i64 p.c, nilV])) : En w B b P { x with from_ := f, closed := c, pl := p, bias := [] } vR nilV v0 v1 v2 v3 v4 v5 v6 v7 W' := by
  rw [hW]
  have d := h.dk (W' := W.setCells P 14 ([.int .i64 f, .bool c, .int .i64 p.f, .int .i64 p.a, .int .i64 p.b, .int .i64 p.c, nilV])) (Kp.mid (b := b) 14 ([.int .i64 f, .bool c, .int .i64 p.f, .int .i64 p.a, .int .i64 p.b, .int .i64 p.c, nilV]))
  exact h.put (Kp.mid (b := b) 14 ([.int .i64 f, .bool c, .int .i64 p.f, .int .i64 p.a, .int .i64 p.b, .int .i64 p.c, nilV])) (h.m.mid 14 ([.int .i64 f, .bool c, .int .i64 p.f, .int .i64 p.a, .int .i64 p.b, .int .i64 p.c, nilV]) (by rw [entCells_length]; simp [itmCells, repCells, cycCells])) ⟨d.kind, d.now, d.rep, d.corr, d.arr, d.st, d.name, ⟨h1, h2, RdS.nil _ _ _⟩, d.cyc⟩
theorem En.setCyc (h : En w B b P x vR vB v0 v1 v2 v3 v4 v5 v6 v7 W) {c : Cyc} {u0 u1 u2 u3 u4 u5 u6 u7 : Value} (h1 : cycR (fun k => nb b P k ∧ w.heap.size < k) W c u0 u1 u2 u3 u4 u5 u6 u7) (hW : W' = W.setCells P 21 (cycCells c u0 u1 u2 u3 u4 u5 u6 u7)) : En w B b P { x with cyc := c } vR vB u0 u1 u2 u3 u4 u5 u6 u7 W' := by
  rw [hW]
  have d := h.dk (W' := W.setCells P 21 (cycCells c u0 u1 u2 u3 u4 u5 u6 u7)) (Kp.mid (b := b) 21 (cycCells c u0 u1 u2 u3 u4 u5 u6 u7))
  exact h.put (Kp.mid (b := b) 21 (cycCells c u0 u1 u2 u3 u4 u5 u6 u7)) (h.m.mid 21 (cycCells c u0 u1 u2 u3 u4 u5 u6 u7) (by rw [entCells_length]; simp [itmCells, repCells, cycCells])) ⟨d.kind, d.now, d.rep, d.corr, d.arr, d.st, d.name, d.per, ⟨_, _, _, _, _, _, _, _, rfl, h1.keep fun k cc t f e e1 ha => (Kp.mid (b := b) (P := P) (W := W) 21 (cycCells c u0 u1 u2 u3 u4 u5 u6 u7)).keeps k cc t f e e1 ha.1⟩⟩
theorem En.setBias (h : En w B b P x vR vB v0 v1 v2 v3 v4 v5 v6 v7 W) {u : Value} {l : List (Int × Int)} (hk : Kp b P W W') (hm : Mk w B b P (entCells x vR u v0 v1 v2 v3 v4 v5 v6 v7) W') (hr : RdS rdE (fun k => nb b P k ∧ w.heap.size < k) W' u l) : En w B b P { x with bias := l } vR u v0 v1 v2 v3 v4 v5 v6 v7 W' := by
  have d := h.dk hk
  exact h.put hk hm ⟨d.kind, d.now, d.rep, d.corr, d.arr, d.st, d.name, ⟨d.per.1, d.per.2.1, hr⟩, d.cyc⟩
/-- What the entry's end gives. -/
theorem En.done (h : En w B b P x vR vB v0 v1 v2 v3 v4 v5 v6 v7 W) (hc : canon x) (hs : smEnt x) {e : Ending} (hW : W' = W.setCells w.heap.size 0 (entCells x vR vB v0 v1 v2 v3 v4 v5 v6 v7)) (he : e = .returned (.agg (entCells x vR vB v0 v1 v2 v3 v4 v5 v6 v7).toArray)) : EntIs B b w e W' := by
  have hk8 : KeptBut w.heap.size W W' := by rw [hW]; exact setCells_kept _ _ _ _
  refine ⟨x, _, he, ⟨_, _, _, _, _, _, _, _, _, _, rfl, (h.d.keep (hk8.keeps (by omega))).weak fun k hk _ => Nat.le_of_lt hk.2⟩, hc, hs, ?_⟩
  rw [hW]
  exact St.setCells (Nat.le_refl _) (by have := h.rb; omega) (by have := h.rb; have := h.m.bb; omega) _ _ h.m.st
theorem En.back (h : En w B b P x vR vB v0 v1 v2 v3 v4 v5 v6 v7 W) (hW : W' = W.setCells w.heap.size 0 (entCells x vR vB v0 v1 v2 v3 v4 v5 v6 v7)) : RowAt W' w.heap.size (entCells x vR vB v0 v1 v2 v3 v4 v5 v6 v7) := by
  rw [hW]; exact (h.r.setCells (entCells x vR vB v0 v1 v2 v3 v4 v5 v6 v7) rfl).1
theorem kc_P (av : Nat → Prop) (w : World) (k : Int) (hk : I64 k) : EntP av w { Ent.zero with kind := k } nilV nilV nilV nilV nilV nilV nilV nilV nilV nilV := by
  have z := I64.zero
  have r0 : RdS rdE av w nilV [] := RdS.nil _ _ _
  have i0 : RdS intE av w nilV [] := RdS.nil _ _ _
  exact ⟨hk, z, ⟨z, Nat.zero_le _, z, ⟨z, z, z, z⟩, r0⟩, z, z, z, Nat.zero_le _, ⟨z, ⟨z, z, z, z⟩, r0⟩, ⟨_, _, _, _, _, _, _, _, rfl, z, z, z, RdS.nil _ _ _, ⟨i0, i0, i0, z, Nat.zero_lt_succ _, z, z, z⟩, z, i0, i0, RdS.nil _ _ _, RdS.nil _ _ _⟩⟩
/-- The variable made, with a kind alone. -/
theorem En.new {W : World} {k : Int} (hk : I64 k) (h : Mk w B b w.heap.size (kc 0) W) (hb : b < w.heap.size) (hW : W' = (W.alloc (.cells (kc 0).toArray 55)).setCells W.heap.size 0 (kc k)) : En w B b W.heap.size { Ent.zero with kind := k } nilV nilV nilV nilV nilV nilV nilV nilV nilV nilV W' := by
  have h1 := Mk.new h.st h.bb (kc 0) (by rw [kc_length]; decide) 55 (by decide)
  have h2 : Mk w B b W.heap.size (kc k) W' := by rw [hW]; exact h1.mid 0 (kc k) (by rw [kc_length, kc_length]; decide)
  have h3 := setCells_kept W.heap.size (kc k) 0 (W.alloc (.cells (kc 0).toArray 55))
  refine ⟨h2, kc_P _ _ _ hk, ?_, h.lt, hb⟩
  rw [hW]
  exact (h.alloc _).pa.of_block (h3.2 _ (h.alloc _).lt (by have := h.lt; omega))
theorem En.load (h : En w B b P x vR vB v0 v1 v2 v3 v4 v5 v6 v7 W) : (loadVar 55 ⟨P, 0, none⟩).run Tryz.prog W = .ok (.agg (entCells x vR vB v0 v1 v2 v3 v4 v5 v6 v7).toArray) W := ent_load W P _ rfl h.m.pa.1.range
theorem list_entStore {ops : Array Oper} {rest : List Oper} {op : Oper} {a : Act} {Q : Exit → Act → World → Prop} (h : En w B b P x vR vB v0 v1 v2 v3 v4 v5 v6 v7 W) (hgd : op.guard = none) (y z : Operand) (ho : op.op = .store 55 y z) (hy : a.eval y = .pointer (some ⟨w.heap.size, 0, none⟩)) (hz : a.eval z = .agg (entCells x vR vB v0 v1 v2 v3 v4 v5 v6 v7).toArray)
    (k : ∀ w', w' = W.setCells w.heap.size 0 (entCells x vR vB v0 v1 v2 v3 v4 v5 v6 v7) → wpList Tryz.prog ops Q rest (a.put op.dst undef) w') : wpList Tryz.prog ops Q (op :: rest) a W :=
  list_storeAgg hgd y z ho w.heap.size 0 hy _ hz (by rw [sz_ent]; rfl) (entE_ok.one (EntP.shut h.d)) (h.r.1.there (by rw [kc_length]; exact Nat.le_refl 38)) k
theorem En.ret {fn : Func} {a : Act} {i : Nat} {e : World} (h : En w B b P x vR vB v0 v1 v2 v3 v4 v5 v6 v7 W) (hW : e = W.setCells w.heap.size 0 (entCells x vR vB v0 v1 v2 v3 v4 v5 v6 v7)) (hfn : fn.results = #[.cell i 55]) (hp : a.tmps.getD i undef = .pointer (some ⟨w.heap.size, 0, none⟩)) (hd : a.defers = []) (hc : canon x) (hs : smEnt x) : bodyPost Tryz.prog fn (EntIs B b w) .ret a e :=
  ret_row hfn _ _ (h.back hW) (by rw [entCells_length]; exact rowT_ent) hp hd (h.done hc hs hW rfl)
theorem repP {E : Rep} {w' : World} {cs : List Value} {av : Nat → Prop} (h : repE.rep av w' cs E) : ∃ v, cs = repCells E v ∧ I64 E.kind ∧ E.name.size ≤ 10000000 ∧ I64 E.time ∧ okPla E.pl ∧ RdS rdE av w' v E.rds := h
end
end Go.Proofs.YtpknalpdcfjffaaGreat
/- A region that draws: what an operation may read is also the slot that a later one writes. No program. -/
namespace Go.Proofs.YtpknalpdcfjffaaGreat
open Go Go.RowKit

section
variable {P : Program} {ops : Array Oper} {Q : Exit → Act → World → Prop}
/-- What one operation owes. -/
def HopAtU (P : Program) (ops : Array Oper) (Q : Exit → Act → World → Prop) (a0 : Act) (S : (Nat → Bool) → World → Prop) (F : Nat → Value → World → Prop) (i : Nat) (o : Oper) : Prop :=
  ∀ (d : Nat → Bool) (a : Act) (w : World), d i = false → ClosedD ops d → S d w → SameAct ops a0 a →
    (∀ k p t, ops[k]? = some p → p.dst = some t → d k = false → a.tmps.getD t undef = a0.tmps.getD t undef) →
    (∀ e ∈ o.after, Region.binds .any e = true → d e.on = true ∧ ∀ (p : Oper), ops[e.on]? = some p → F e.on (slotOf p a) w) →
    ∀ K : Act → World → Prop, (∀ v w', F i (match o.dst with | some _ => v | none => undef) w' → (∀ k u, d k = true → F k u w → F k u w') → S (fun k => k == i || d k) w' → K (a.put o.dst v) w') → if Region.wanted o (yielded ops a.tmps) = true then Oper.wp P o a w K Q else K (a.put o.dst undef) w
theorem wp_region_phaseU {id : Nat} {a0 : Act} {w0 : World} (hm : P.follows .mixedOrders = true) (N : Nat) (hN : a0.tmps.size = N) (hd : distB ops N = true) (hb : backC ops = true)
    (S : (Nat → Bool) → World → Prop) (F : Nat → Value → World → Prop) (hS0 : S (fun _ => false) w0.drew)
    (hop : AllHops (HopAtU P ops Q a0 S F) 0 ops.toList)
    (hend : ∀ (a : Act) (w : World) (d : Nat → Bool), (∀ k, k < ops.size → d k = true) → S d w → SameAct ops a0 a → (∀ (k : Nat) (o : Oper), ops[k]? = some o → F k (slotOf o a) w) → Q .normal a w) : (Code.region id ops true).wp P Q a0 w0 := by
  refine wp_region_any hm ?_
  refine wpAny_inv (fun listed a w => (∃ d, (∀ k, k < ops.size → d k = listed.getD k false) ∧ ClosedD ops d ∧ S d w) ∧ SameAct ops a0 a ∧ (∀ k p t, ops[k]? = some p → p.dst = some t → listed.getD k false = false → a.tmps.getD t undef = a0.tmps.getD t undef) ∧ ∀ k o, ops[k]? = some o → listed.getD k false = true → F k (slotOf o a) w) ?_ ?_ _ _ _ _ (by simp) ?_ ?_
  · rintro listed a w i hsz ⟨⟨d, hdl, hcl, hS⟩, hA, hU, hF⟩ hi
    obtain ⟨h0, o, ho, hall⟩ := mem_ready.1 hi
    have hio : i < ops.size := (Array.getElem?_eq_some_iff.1 ho).1
    have hil : i < listed.size := by omega
    have hdi : d i = false := by
      rw [hdl i hio]
      have : listed.getD i true = false := h0
      simp [hil] at this ⊢; exact this
    have hop' := allHops_at _ 0 i o hop (by rw [Array.getElem?_toList]; exact ho)
    rw [Nat.zero_add] at hop'
    refine wpOp_step ho fun K' hK => hop' d a w hdi hcl hS hA (fun k p t hp ht hk => hU k p t hp ht (by rw [← hdl k (Array.getElem?_eq_some_iff.1 hp).1]; exact hk)) (fun e he hbd => ?_) K' (fun v w' hv hr hs => hK _ _ ⟨⟨fun k => k == i || d k, ?_, ?_, hs⟩, hA.put ho v, fun k p t hp ht hl => ?_, fun k p hp hl => ?_⟩)
    · have h1 := hall e he hbd
      have hle : e.on < ops.size := by
        rcases Nat.lt_or_ge e.on ops.size with h | h
        · exact h
        · simp [Array.getElem?_eq_none (show listed.size ≤ e.on by omega)] at h1
      exact ⟨by rw [hdl _ hle]; exact h1, fun p hp => hF e.on p hp h1⟩
    · intro k hk
      by_cases hki : k = i
      · subst hki
        simp [hil]
      · rw [getD_set_ne false (Ne.symm hki), ← hdl k hk]
        simp [hki]
    · intro k p hp hk e he hbd
      by_cases hki : k = i
      · subst hki
        obtain rfl := Option.some.inj (ho.symm.trans hp)
        have h1 := hall e he hbd
        have hle : e.on < ops.size := by
          rcases Nat.lt_or_ge e.on ops.size with h | h
          · exact h
          · simp [Array.getElem?_eq_none (show listed.size ≤ e.on by omega)] at h1
        have h2 : d e.on = true := by rw [hdl _ hle]; exact h1
        simp [h2]
      · have hk' : d k = true := by simpa [hki] using hk
        have h2 := hcl k p hp hk' e he hbd
        simp [h2]
    · by_cases hki : k = i
      · subst hki
        simp [hil] at hl
      · rw [getD_set_ne false (Ne.symm hki)] at hl
        rw [put_other ((dist_spec hd hp ht).2 i o ho (Ne.symm hki))]
        exact hU k p t hp ht hl
    · by_cases hki : k = i
      · subst hki
        rw [ho] at hp
        injection hp with hp
        subst hp
        unfold slotOf
        cases hq : o.dst with
        | none => rw [hq] at hv; exact hv
        | some t =>
          rw [hq] at hv
          have hlt := (dist_spec hd ho hq).1
          simp only
          have hlt2 : t < a.tmps.size := by rw [hA.2.1, hN]; exact hlt
          rw [put_same hlt2]
          exact hv
      · have hl' : listed.getD k false = true := by rw [getD_set_ne false (Ne.symm hki)] at hl; exact hl
        have hko : k < ops.size := (Array.getElem?_eq_some_iff.1 hp).1
        have h1 := hr k _ (by rw [hdl k hko]; exact hl') (hF k p hp hl')
        have e : slotOf p (a.put o.dst v) = slotOf p a := by
          unfold slotOf
          cases hq : p.dst with
          | none => rfl
          | some t => simp only; exact put_other ((dist_spec hd hp hq).2 i o ho (Ne.symm hki))
        rw [e]; exact h1
  · rintro listed a w hsz ⟨⟨d, hdl, hcl, hS⟩, hA, hU, hF⟩ hr
    have hal := all_listedC hb hr hsz
    exact hend a w d (fun k hk => by rw [hdl k hk]; exact hal k hk) hS hA fun k o ho => hF k o ho (hal k (Array.getElem?_eq_some_iff.1 ho).1)
  · rw [Array.toList_replicate]; exact Nat.le_trans (List.count_le_length) (by simp)
  · refine ⟨⟨fun _ => false, fun k hk => by simp [hk], (fun k p _ hk => by cases hk), hS0⟩, ⟨rfl, rfl, fun _ _ => rfl⟩, fun _ _ _ _ _ _ => rfl, fun k o ho hl => ?_⟩
    exfalso
    have hk := (Array.getElem?_eq_some_iff.1 ho).1
    simp [hk] at hl
theorem wp_region_slotsU {id : Nat} {a0 : Act} {w0 : World} (hm : P.follows .mixedOrders = true) (N : Nat) (hN : a0.tmps.size = N) (hd : distB ops N = true) (hb : backC ops = true) (lo n lo2 n2 : Nat) (hs : slotsB2 ops lo n lo2 n2 = true)
    (S : (Nat → Bool) → World → Prop) (F : Nat → Value → World → Prop) (hS0 : S (fun _ => false) w0.drew)
    (hop : AllHops (HopAtU P ops Q a0 S F) 0 ops.toList)
    (hend : ∀ (u : Nat → Value) (w : World) (d : Nat → Bool), (∀ k, k < ops.size → d k = true) → S d w → (∀ (k : Nat) (o : Oper), ops[k]? = some o → F k (match o.dst with | some t => u t | none => undef) w) →
      Q .normal ⟨(mixL u lo2 n2 0 (mixL u lo n 0 a0.tmps.toList)).toArray, a0.defers⟩ w) : (Code.region id ops true).wp P Q a0 w0 := by
  refine wp_region_phaseU hm N hN hd hb S F hS0 hop fun a w d h1 h2 h3 h4 => ?_
  rw [sameAct_mix2 h3 hs]
  refine hend _ w d h1 h2 fun k o ho => ?_
  exact h4 k o ho
end
end Go.Proofs.YtpknalpdcfjffaaGreat
/- The reference's putReadings. -/
namespace Go.Proofs.YtpknalpdcfjffaaGreat
open Go Go.RowKit

def FRd (base ab o : Nat) (rv ov : Value) (l : List UInt8) (m L : Nat) (x y : Int) (ix : Nat) (v : Value) (w : World) : Prop := match ix with
  | 0 => v = ov
  | 1 => v = rv
  | 2 => v = .int .i64 m
  | 3 => v = .pointer (some ⟨ab, o, none⟩)
  | 4 => v = .pointer (some ⟨ab, o, none⟩)
  | 5 => v = .int .i64 x
  | 6 => v = rv
  | 7 => v = .int .i64 m
  | 8 => v = .pointer (some ⟨ab, o, none⟩)
  | 9 => v = .pointer (some ⟨ab, o + 1, none⟩)
  | 10 => v = .int .i64 y
  | 11 => v = .slice (some ⟨L, 0, none⟩) 2 2
  | 12 => OwnB w base v (l ++ ints [x, y])
  | 13 => OwnB w base v (l ++ ints [x, y])
  | _ => True
theorem FRd.any {base ab o : Nat} {rv ov : Value} {l : List UInt8} {m L : Nat} {x y : Int} {w w' : World} (ix : Nat) (h1 : ix ≠ 12) (h2 : ix ≠ 13) (v : Value) (hF : FRd base ab o rv ov l m L x y ix v w) : FRd base ab o rv ov l m L x y ix v w' := by
  unfold FRd at hF ⊢
  split at hF
  all_goals first
    | exact hF
    | exact absurd rfl h1
    | exact absurd rfl h2
theorem run_lit2 {w : World} (p q : Int) : (Instr.buildSlice 38 2 #[(0, .int .i64 p), (1, .int .i64 q)]).run Tryz.prog w = .ok (.slice (some ⟨w.heap.size, 0, none⟩) 2 2) (w.alloc (.cells #[.int .i64 p, .int .i64 q] 3)) := by
  simp [Instr.buildSlice, go_sem]
set_option maxHeartbeats 16000000 in
set_option maxRecDepth 100000 in
theorem rputReadings_any (base : Nat) (v : Value) (l : List UInt8) (rv : Value) (rl : List (Int × Int)) (w : World) (h : OwnB w base v l) (hr : ReadsR w rv rl) (hl : l.length ≤ 30000000) (hrl : rl.length ≤ 1000000) (hb : base ≤ w.heap.size) :
    Calls Tryz.prog 42 #[v, rv] w fun e w' => ∃ v', e = .returned v' ∧ OwnB w' base v' (l ++ readingsB rl) ∧ Below base w w' ∧ NB w w' := by
  have HO := Lib.hid h
  have HR := Lib.hid hr
  obtain ⟨a, c, rfl, hc1, hc2, _⟩ := hr
  clear h
  go_enter Tryz.func42, Tryz.ntmps42
  go_wp2_with fail
  refine (rput_any 4 rl.length base (by omega) (by omega) v l w HO.out (by omega) hb).mono ?_
  rintro e w2 ⟨v2, rfl, h5, h6, h7⟩
  have HS : Hid (OwnB w2 base v2 (l ++ be 4 rl.length ++ rdsB (rl.take 0)) ∧ Below base w w2 ∧ NB w w2) := ⟨by simpa [rdsB] using h5, h6, h7⟩
  clear h5 h6 h7
  go_wp2_with fail
  go_loopw [0, 5] (fun lv kv wr => ∃ (m : Nat) (ov : Value), ov = lv ∧ kv = .int .i64 m ∧ m ≤ rl.length ∧ Hid (OwnB wr base ov (l ++ be 4 rl.length ++ rdsB (rl.take m)) ∧ Below base w wr ∧ NB w wr)) (fun _ kv _ => ((4000000 : Int) - intOf kv).toNat)
  case atStart => exact ⟨0, _, rfl, rfl, by omega, HS⟩
  case round =>
    clear HS
    obtain ⟨m, ov, rfl, rfl, hm, hs⟩ := hrel
    by_cases hlt : m < rl.length
    · have m0 : (m : Int) < (rl.length : Int) := by omega
      have hl2 := rdsB_length (rl.take m)
      rw [List.length_take] at hl2
      have htk := rdsB_take rl m hlt
      obtain ⟨a', c', e, _, _, h3, h4⟩ := HR.out.nb hs.out.2.2
      obtain ⟨ab, ao, cs, t, f, rfl, hblk, ht, hcell⟩ := h4 (by omega)
      obtain ⟨rfl, rfl⟩ : a = some ⟨ab, ao, none⟩ ∧ c = c' := by simpa using e
      have Hblk := Lib.hid hblk
      have Ht := Lib.hid ht
      have Hx := Lib.hid (hcell m hlt).1
      have Hy := Lib.hid (hcell m hlt).2
      have HXY := Lib.hid (h3 rl[m] (List.getElem_mem hlt))
      have HBw : Hid (base ≤ wr.heap.size) := Nat.le_trans hb hs.out.2.1.size
      obtain ⟨l2, hl2e⟩ : ∃ l2, l2 = l ++ be 4 rl.length ++ rdsB (rl.take m) := ⟨_, rfl⟩
      have HLn : Hid (l2.length ≤ 60000000) := by unfold Hid; rw [hl2e]; simp only [List.length_append, be_length]; omega
      have HN : Hid (l2 ++ ints [rl[m].1, rl[m].2] = l ++ be 4 rl.length ++ rdsB (rl.take (m + 1))) := by unfold Hid; rw [hl2e, htk]; simp
      rw [← hl2e] at hs
      clear h4 hcell hblk ht e h3 hl2 htk hl2e
      generalize rl[m].1 = x at Hx HXY HN
      generalize rl[m].2 = y at Hy HXY HN
      go_upto_region 5 with fail
      obtain ⟨L, hL⟩ : ∃ L, L = wr.heap.size := ⟨_, rfl⟩
      refine wp_region_slotsU (by kernel_rfl) 31 rfl (by kernel_rfl) (by kernel_rfl) 17 13 0 1 (by kernel_rfl) (fun d w' => Below base wr w' ∧ NB wr w' ∧ (d 11 = false → w'.heap.size = L ∧ OwnB w' base ov l2) ∧ (d 11 = true → d 12 = false → OwnB w' base ov l2 ∧ ReadsI w' (.slice (some ⟨L, 0, none⟩) 2 2) [x, y])) (FRd base ab (ao + m * 2) (.slice (some ⟨ab, ao, none⟩) rl.length c) ov l2 m L x y) ?hS0 ?hop ?hend
      case hS0 => exact ⟨(Below.refl _ _).drew, fun _ _ _ _ _ _ => rfl, fun _ => ⟨hL.symm, ownsRow_below hs.out.1 (Below.refl _ _).drew⟩, fun h => by simp at h⟩
      case hop =>
        refine ⟨?_, ?_, ?_, ?_, ?_, ?_, ?_, ?_, ?_, ?_, ?_, ?_, ?_, ?_, trivial⟩
        all_goals intro d ac wx hd hcl hS hA hU haft K hK
        · have d13 : d 13 = false := by
            cases h : d 13 with
            | false => rfl
            | true => have := hcl 13 _ rfl h ⟨0, .phase⟩ (by simp) rfl; rw [hd] at this; cases this
          have f0 : ac.tmps.getD 0 undef = ov := hU 13 _ 0 rfl rfl d13
          refine hop_val rfl ov (w' := wx) ?_ (hK _ _ rfl (fun _ _ _ h => h) hS)
          simp [execOp, Act.eval, f0, go_sem, -Array.getD_eq_getD_getElem?]
        · have f1 : ac.tmps.getD 1 undef = .slice (some ⟨ab, ao, none⟩) rl.length c := same_slot hA 1 (by kernel_rfl)
          refine hop_val rfl (.slice (some ⟨ab, ao, none⟩) rl.length c) (w' := wx) ?_ (hK _ _ rfl (fun _ _ _ h => h) hS)
          simp [execOp, Act.eval, f1, go_sem, -Array.getD_eq_getD_getElem?]
        · have f5 : ac.tmps.getD 5 undef = .int .i64 m := same_slot hA 5 (by kernel_rfl)
          refine hop_val rfl (.int .i64 m) (w' := wx) ?_ (hK _ _ rfl (fun _ _ _ h => h) hS)
          simp [execOp, Act.eval, f5, go_sem, -Array.getD_eq_getD_getElem?]
        · have f18 : ac.tmps.getD 18 undef = .slice (some ⟨ab, ao, none⟩) rl.length c := (haft ⟨1, .data⟩ (by simp) rfl).2 _ rfl
          have f19 : ac.tmps.getD 19 undef = .int .i64 m := (haft ⟨2, .data⟩ (by simp) rfl).2 _ rfl
          refine hop_val rfl (.pointer (some ⟨ab, ao + m * 2, none⟩)) (w' := wx) ?_ (hK _ _ rfl (fun _ _ _ h => h) hS)
          simp [execOp, Act.eval, f18, f19, m0, go_sem, -Array.getD_eq_getD_getElem?]
        · have f20 : ac.tmps.getD 20 undef = .pointer (some ⟨ab, ao + m * 2, none⟩) := (haft ⟨3, .data⟩ (by simp) rfl).2 _ rfl
          refine hop_val rfl (.pointer (some ⟨ab, ao + m * 2, none⟩)) (w' := wx) ?_ (hK _ _ rfl (fun _ _ _ h => h) hS)
          simp [execOp, Act.eval, f20, go_sem, -Array.getD_eq_getD_getElem?]
        · have c1 := (World.cell?_of_block (w := wr) (a := ⟨ab, ao + m * 2, none⟩) (hS.2.1 ab cs t f Hblk.out Ht.out)).trans Hx.out
          have f21 : ac.tmps.getD 21 undef = .pointer (some ⟨ab, ao + m * 2, none⟩) := (haft ⟨4, .data⟩ (by simp) rfl).2 _ rfl
          refine hop_val rfl (.int .i64 x) (w' := wx) ?_ (hK _ _ rfl (fun _ _ _ h => h) hS)
          simp [execOp, Act.eval, f21, c1, go_sem, -Array.getD_eq_getD_getElem?]
        · have f1 : ac.tmps.getD 1 undef = .slice (some ⟨ab, ao, none⟩) rl.length c := same_slot hA 1 (by kernel_rfl)
          refine hop_val rfl (.slice (some ⟨ab, ao, none⟩) rl.length c) (w' := wx) ?_ (hK _ _ rfl (fun _ _ _ h => h) hS)
          simp [execOp, Act.eval, f1, go_sem, -Array.getD_eq_getD_getElem?]
        · have f5 : ac.tmps.getD 5 undef = .int .i64 m := same_slot hA 5 (by kernel_rfl)
          refine hop_val rfl (.int .i64 m) (w' := wx) ?_ (hK _ _ rfl (fun _ _ _ h => h) hS)
          simp [execOp, Act.eval, f5, go_sem, -Array.getD_eq_getD_getElem?]
        · have f23 : ac.tmps.getD 23 undef = .slice (some ⟨ab, ao, none⟩) rl.length c := (haft ⟨6, .data⟩ (by simp) rfl).2 _ rfl
          have f24 : ac.tmps.getD 24 undef = .int .i64 m := (haft ⟨7, .data⟩ (by simp) rfl).2 _ rfl
          refine hop_val rfl (.pointer (some ⟨ab, ao + m * 2, none⟩)) (w' := wx) ?_ (hK _ _ rfl (fun _ _ _ h => h) hS)
          simp [execOp, Act.eval, f23, f24, m0, go_sem, -Array.getD_eq_getD_getElem?]
        · have f25 : ac.tmps.getD 25 undef = .pointer (some ⟨ab, ao + m * 2, none⟩) := (haft ⟨8, .data⟩ (by simp) rfl).2 _ rfl
          refine hop_val rfl (.pointer (some ⟨ab, ao + m * 2 + 1, none⟩)) (w' := wx) ?_ (hK _ _ rfl (fun _ _ _ h => h) hS)
          simp [execOp, Act.eval, f25, go_sem, -Array.getD_eq_getD_getElem?]
        · have c1 := (World.cell?_of_block (w := wr) (a := ⟨ab, ao + m * 2 + 1, none⟩) (hS.2.1 ab cs t f Hblk.out Ht.out)).trans Hy.out
          have f26 : ac.tmps.getD 26 undef = .pointer (some ⟨ab, ao + m * 2 + 1, none⟩) := (haft ⟨9, .data⟩ (by simp) rfl).2 _ rfl
          refine hop_val rfl (.int .i64 y) (w' := wx) ?_ (hK _ _ rfl (fun _ _ _ h => h) hS)
          simp [execOp, Act.eval, f26, c1, go_sem, -Array.getD_eq_getD_getElem?]
        · have f22 : ac.tmps.getD 22 undef = .int .i64 x := (haft ⟨5, .data⟩ (by simp) rfl).2 _ rfl
          have f27 : ac.tmps.getD 27 undef = .int .i64 y := (haft ⟨10, .data⟩ (by simp) rfl).2 _ rfl
          obtain ⟨s1, s2, s5, s6⟩ := hS
          obtain ⟨hL, ho⟩ := s5 hd
          have hB : Below wx.heap.size wx (wx.alloc (.cells #[.int .i64 x, .int .i64 y] 3)) := (Below.refl _ _).alloc (Nat.le_refl _) _
          have hdr := HXY.out
          refine hop_val rfl (.slice (some ⟨wx.heap.size, 0, none⟩) 2 2) (w' := wx.alloc (.cells #[.int .i64 x, .int .i64 y] 3)) ?_ (hK _ _ (by rw [hL]; rfl) (fun k' u hk' h => FRd.any k' (by rintro rfl; have := hcl 12 _ rfl hk' ⟨11, .data⟩ (by simp) rfl; rw [hd] at this; cases this) (by rintro rfl; have := hcl 13 _ rfl hk' ⟨11, .phase⟩ (by simp) rfl; rw [hd] at this; cases this) u h) ⟨s1.trans (hB.mono (Nat.le_trans HBw.out s1.size)), s2.trans (NB.of hB), fun h => by simp at h, fun _ _ => ⟨ownsRow_below ho hB, by rw [← hL]; exact readsI_two wx x y hdr.1 hdr.2⟩⟩)
          simp [execOp, Act.eval, f22, f27, run_lit2, -Array.getD_eq_getD_getElem?]
        · have f17 : ac.tmps.getD 17 undef = ov := (haft ⟨0, .data⟩ (by simp) rfl).2 _ rfl
          have f28 : ac.tmps.getD 28 undef = .slice (some ⟨L, 0, none⟩) 2 2 := (haft ⟨11, .data⟩ (by simp) rfl).2 _ rfl
          obtain ⟨s1, s2, s5, s6⟩ := hS
          obtain ⟨ho, hri⟩ := s6 (haft ⟨11, .data⟩ (by simp) rfl).1 hd
          refine hop_call rfl Tryz.func38 (by kernel_rfl) (by kernel_rfl) _ _ rfl #[ov, .slice (some ⟨L, 0, none⟩) 2 2] (by simp only [List.map_toArray, List.map_cons, List.map_nil, Act.eval, f17, f28]) _ (rputInts_any base ov l2 _ [x, y] wx ho hri HLn.out (by simp) (Nat.le_trans HBw.out s1.size)) ?_
          rintro e w' ⟨v', rfl, k1, k2, k3⟩
          exact ⟨_, rfl, hK _ _ k1 (fun k' u hk' h => FRd.any k' (by rintro rfl; rw [hk'] at hd; cases hd) (by rintro rfl; have := hcl 13 _ rfl hk' ⟨12, .data⟩ (by simp) rfl; rw [hd] at this; cases this) u h) ⟨s1.trans k2, s2.trans k3, (fun h => by have h' : d 11 = false := h; rw [(haft ⟨11, .data⟩ (by simp) rfl).1] at h'; cases h'), fun _ h => by simp at h⟩⟩
        · have g29 : OwnB wx base (ac.tmps.getD 29 undef) (l2 ++ ints [x, y]) := (haft ⟨12, .data⟩ (by simp) rfl).2 _ rfl
          refine hop_val rfl (ac.tmps.getD 29 undef) (w' := wx) ?_ (hK _ _ g29 (fun _ _ _ h => h) hS)
          simp [execOp, Act.eval, go_sem, -Array.getD_eq_getD_getElem?]
      case hend =>
        intro u we d hd hS hF
        have ho : OwnB we base (u 0) (l2 ++ ints [x, y]) := hF 13 _ rfl
        have HF : Hid (OwnB we base (u 0) (l ++ be 4 rl.length ++ rdsB (rl.take (m + 1))) ∧ Below base w we ∧ NB w we) := ⟨by rw [← HN.out]; exact ho, hs.out.2.1.trans hS.1, hs.out.2.2.trans hS.2.1⟩
        clear hF hd hS ho d
        simp only [mixL]
        go_wp2_with fail
        go_roundw
        case rel => exact ⟨m + 1, _, rfl, by go_num, by omega, HF⟩
        case measure => simp [intOf]; omega
    · obtain rfl : m = rl.length := by omega
      obtain ⟨h1, h2, h3⟩ := hs.out
      go_wp2_with fail
      go_ret
      exact ⟨_, rfl, by rw [List.take_length, List.append_assoc] at h1; exact h1, h2, h3⟩
end Go.Proofs.YtpknalpdcfjffaaGreat
/- The reference's putPlace. -/
namespace Go.Proofs.YtpknalpdcfjffaaGreat
open Go Go.RowKit

/-- Ints just laid. -/
theorem readsI_lit (W : World) (l : List Int) (hl : ∀ x ∈ l, I64 x) (h1 : l.length ≤ 1000) {H n : Nat} (hH : W.heap.size = H) (hn : n = l.length) {cs : List Value} (hc : cs = ics64 l) : ReadsI (W.alloc (.cells cs.toArray 3)) (.slice (some ⟨H, 0, none⟩) n n) l := by
  subst hH hn hc
  have hh := heap_alloc_new W (.cells (ics64 l).toArray 3)
  refine ⟨_, l.length, rfl, Nat.le_refl _, by omega, hl, fun _ => ⟨W.heap.size, 0, _, _, _, rfl, hh, by decide, fun i hi => ?_⟩⟩
  simp only [World.cell?, hh]
  simp [ics64, hi]
set_option maxHeartbeats 16000000 in
set_option maxRecDepth 100000 in
theorem rputPlace_any (base : Nat) (v : Value) (l : List UInt8) (p : Pla) (w : World) (h : OwnB w base v l) (hp : okPla p) (hl : l.length ≤ 50000000) (hb : base ≤ w.heap.size) :
    Calls Tryz.prog 43 #[v, .agg #[.int .i64 p.f, .int .i64 p.a, .int .i64 p.b, .int .i64 p.c]] w fun e w' => ∃ v', e = .returned v' ∧ OwnB w' base v' (l ++ placeB p) ∧ Below base w w' ∧ NB w w' := by
  have HB : Hid (Below w.heap.size w ((w.alloc (.cells #[.int .i64 p.f, .int .i64 p.a, .int .i64 p.b, .int .i64 p.c] 29)).alloc (.cells #[.int .i64 p.f, .int .i64 p.a, .int .i64 p.b, .int .i64 p.c] 3))) := ((Below.refl _ _).alloc (Nat.le_refl _) _).alloc (by simp) _
  have HO := Lib.hid (ownsRow_below h HB.out)
  have HR : Hid (ReadsI ((w.alloc (.cells #[.int .i64 p.f, .int .i64 p.a, .int .i64 p.b, .int .i64 p.c] 29)).alloc (.cells #[.int .i64 p.f, .int .i64 p.a, .int .i64 p.b, .int .i64 p.c] 3)) (.slice (some ⟨w.heap.size + 1, 0, none⟩) 4 4) [p.f, p.a, p.b, p.c]) :=
    readsI_lit _ [p.f, p.a, p.b, p.c] (by obtain ⟨h1, h2, h3, h4⟩ := hp; intro x hx; simp at hx; rcases hx with rfl | rfl | rfl | rfl <;> assumption) (by simp) (by simp) rfl (cs := [.int .i64 p.f, .int .i64 p.a, .int .i64 p.b, .int .i64 p.c]) rfl
  clear h hp
  go_enter Tryz.func43, Tryz.ntmps43
  go_wp2_with fail
  refine (rputInts_any base v l _ [p.f, p.a, p.b, p.c] _ HO.out HR.out (by omega) (by simp) (Nat.le_trans hb HB.out.size)).mono ?_
  rintro e w2 ⟨v2, rfl, h5, h6, h7⟩
  have HF : Hid (OwnB w2 base v2 (l ++ placeB p) ∧ Below base w w2 ∧ NB w w2) := ⟨h5, (HB.out.mono hb).trans h6, (NB.of HB.out).trans h7⟩
  clear h5 h6 h7
  go_wp2_with fail
  go_ret
  exact ⟨v2, rfl, HF.out⟩
end Go.Proofs.YtpknalpdcfjffaaGreat
/- Laws for the reference's writers. -/
namespace Go.Proofs.YtpknalpdcfjffaaGreat
open Go Go.RowKit

theorem RdS.readsI {av : Nat → Prop} {w : World} {v : Value} {l : List Int} (h : RdS intE av w v l) : ReadsI w v l := by
  obtain ⟨a, c, e, h1, h2, _, h4⟩ := h
  refine ⟨a, c, e, h1, h2, fun x hx => ?_, fun h0 => ?_⟩
  · obtain ⟨i, hi, rfl⟩ := List.mem_iff_getElem.1 hx
    obtain ⟨_, _, _, _, _, _, _, _, _, hc⟩ := h4 (by omega)
    obtain ⟨_, ⟨_, h⟩, _⟩ := hc i hi
    exact h
  · obtain ⟨ab, ao, cs, t, f, ea, hb, ht, _, hc⟩ := h4 h0
    refine ⟨ab, ao, cs, t, f, ea, hb, ht, fun i hi => ?_⟩
    obtain ⟨es, ⟨rfl, _⟩, h⟩ := hc i hi
    have := h 0 (by decide)
    simpa [intE] using this
theorem RdS.readsR {av : Nat → Prop} {w : World} {v : Value} {l : List (Int × Int)} (h : RdS rdE av w v l) : ReadsR w v l := by
  obtain ⟨a, c, e, h1, h2, _, h4⟩ := h
  refine ⟨a, c, e, h1, h2, fun x hx => ?_, fun h0 => ?_⟩
  · obtain ⟨i, hi, rfl⟩ := List.mem_iff_getElem.1 hx
    obtain ⟨_, _, _, _, _, _, _, _, _, hc⟩ := h4 (by omega)
    obtain ⟨_, ⟨_, h⟩, _⟩ := hc i hi
    exact h
  · obtain ⟨ab, ao, cs, t, f, ea, hb, ht, _, hc⟩ := h4 h0
    refine ⟨ab, ao, cs, t, f, ea, hb, ht, fun i hi => ?_⟩
    obtain ⟨es, ⟨rfl, _⟩, h⟩ := hc i hi
    have h0 := h 0 (by decide)
    have h1 := h 1 (by decide)
    constructor
    · simpa [rdE] using h0
    · simpa [rdE] using h1
/-- Between two calls of a writer: the bytes so far, and the block whose fields are read. -/
structure PutS (base X : Nat) (cs : List Value) (w : World) (bv : Value) (l : List UInt8) (w' : World) : Prop where
  own : OwnB w' base bv l
  pa : PAt w' X cs
  below : Below base w w'
  nb : NB w w'
  sz : base ≤ w'.heap.size
section
variable {base X : Nat} {cs : List Value} {w w1 w2 : World} {bv v : Value} {l x : List UInt8}
theorem PutS.call (h : PutS base X cs w bv l w1) (ho : OwnB w2 base v (l ++ x)) (hb : Below base w1 w2) (hn : NB w1 w2) : PutS base X cs w v (l ++ x) w2 := ⟨ho, h.pa.nb hn, h.below.trans hb, h.nb.trans hn, Nat.le_trans h.sz hb.size⟩
theorem PutS.new (h : PutS base X cs w bv l w1) (hb : Below w1.heap.size w1 w2) : PutS base X cs w bv l w2 := ⟨ownsRow_below h.own hb, h.pa.below hb, h.below.trans (hb.mono h.sz), h.nb.trans (NB.of hb), Nat.le_trans h.sz hb.size⟩
theorem PutS.drew (h : PutS base X cs w bv l w1) : PutS base X cs w bv l w1.drew := h.new (Below.refl _ _).drew
theorem PutS.alloc (h : PutS base X cs w bv l w1) (o : Obj) : PutS base X cs w bv l (w1.alloc o) := h.new ((Below.refl _ _).alloc (Nat.le_refl _) _)
theorem PutS.start (h : OwnB w base bv l) (hb : base ≤ w.heap.size) (hl : 0 < cs.length) (t : TypeId) (ht : t ≠ 5) : PutS base w.heap.size cs w bv l (w.alloc (.cells cs.toArray t)) := by
  have hB : Below w.heap.size w (w.alloc (.cells cs.toArray t)) := (Below.refl _ _).alloc (Nat.le_refl _) _
  exact ⟨ownsRow_below h hB, PAt.new w cs hl t ht rfl, hB.mono hb, NB.of hB, Nat.le_trans hb hB.size⟩
theorem PutS.done (h : PutS base X cs w bv l w1) : ∃ v', Ending.returned bv = .returned v' ∧ OwnB w1 base v' l ∧ Below base w w1 ∧ NB w w1 := ⟨bv, rfl, h.own, h.below, h.nb⟩
end
/-- A place, loaded. -/
theorem load_place {w : World} {b o : Nat} {x0 x1 x2 x3 : Int} (h : w.rangeAt b o [.int .i64 x0, .int .i64 x1, .int .i64 x2, .int .i64 x3]) : (loadVar 29 ⟨b, o, none⟩).run Tryz.prog w = .ok (.agg #[.int .i64 x0, .int .i64 x1, .int .i64 x2, .int .i64 x3]) w := by
  refine run_loadVar_mid w b o 29 [.int .i64 x0, .int .i64 x1, .int .i64 x2, .int .i64 x3] _ h Tryz.underlying29 ?_ ?_
  · rfl
  · kernel_rfl
end Go.Proofs.YtpknalpdcfjffaaGreat
/- The reference's putHistory. -/
namespace Go.Proofs.YtpknalpdcfjffaaGreat
open Go Go.RowKit

theorem flat_take {α : Type} (f : α → List UInt8) (l : List α) (m : Nat) (h : m < l.length) : (l.take (m + 1)).flatMap f = (l.take m).flatMap f ++ f l[m] := by
  have : l.take (m + 1) = l.take m ++ [l[m]] := by rw [List.take_add_one]; simp [h]
  rw [this, List.flatMap_append]
  simp
theorem flat_le {α : Type} (f : α → List UInt8) (l : List α) (m : Nat) : ((l.take m).flatMap f).length ≤ (l.flatMap f).length := by
  conv => rhs; rw [← List.take_append_drop m l, List.flatMap_append, List.length_append]
  omega
/-- An element, as it lies in whatever world keeps the block. -/
theorem RdS.atAll {α : Type} {E : El α} {av : Nat → Prop} {w : World} {a : Option Addr} {n c : Nat} {l : List α} (hE : E.OK) (h : RdS E av w (.slice a n c) l) (i : Nat) (hi : i < l.length) :
    ∃ (ab ao : Nat) (es : List Value), a = some ⟨ab, ao, none⟩ ∧ ∀ W, NB w W → E.rep av W es l[i] ∧ W.rangeAt ab (ao + i * E.n) es := by
  obtain ⟨a', c', e, _, _, _, h4⟩ := h
  obtain ⟨ab, ao, cs, t, f, ea, hb, ht, _, hc⟩ := h4 (by omega)
  obtain ⟨es, e1, e2⟩ := hc i hi
  obtain ⟨rfl, _, _⟩ : a = a' ∧ n = l.length ∧ c = c' := by simpa using e
  refine ⟨ab, ao, es, ea, fun W hn => ⟨hE.keep e1 (Keeps.of_nb hn), fun j v hj => ?_⟩⟩
  have hj' : j < E.n := by rw [← hE.len e1]; exact (List.getElem?_eq_some_iff.1 hj).1
  have h5 := (World.cell?_of_block (w := w) (a := ⟨ab, ao + i * E.n + j, none⟩) (hn ab cs t f hb ht)).trans (e2 j hj')
  rw [hj] at h5
  simpa [Addr.add] using h5
set_option maxHeartbeats 16000000 in
set_option maxRecDepth 100000 in
theorem rputHistory_any (base : Nat) (v : Value) (l : List UInt8) (hc : List (List Cnt)) (hs : List ByteArray) (a b : Value) (av : Nat → Prop) (w : World) (h : OwnB w base v l) (r1 : RdS (sliE cntE) av w a hc) (r2 : RdS strE av w b hs) (hl : l.length + (histB hc hs).length ≤ 12000000) (hb : base ≤ w.heap.size) :
    Calls Tryz.prog 59 #[v, .agg #[a, b]] w fun e w' => ∃ v', e = .returned v' ∧ OwnB w' base v' (l ++ histB hc hs) ∧ Below base w w' ∧ NB w w' := by
  have HR1 := Lib.hid r1
  have HR2 := Lib.hid r2
  have HLn : Hid (l.length + 8 + (hc.flatMap (listB cntB)).length + (hs.flatMap strB).length ≤ 12000000) := by
    unfold Hid; simp only [histB, listB, List.length_append, be_length] at hl ⊢; omega
  have n1 := r1.le
  have n2 := r2.le
  obtain ⟨aa, ac, rfl⟩ := r1.slice
  obtain ⟨ba, bc, rfl⟩ := r2.slice
  have H0 := Lib.hid (PutS.start (cs := [.slice aa hc.length ac, .slice ba hs.length bc]) h hb (by simp) 51 (by decide))
  clear h hl r1 r2
  obtain ⟨N1, hN1⟩ : ∃ N1, N1 = hc.length := ⟨_, rfl⟩
  obtain ⟨N2, hN2⟩ : ∃ N2, N2 = hs.length := ⟨_, rfl⟩
  rw [← hN1, ← hN2] at H0
  rw [← hN1] at HR1 n1 ⊢
  rw [← hN2] at HR2 n2 ⊢
  have HN1 := Lib.hid hN1
  have HN2 := Lib.hid hN2
  clear hN1 hN2
  have m1 : (N1 : Int) ≤ 1000000 := by omega
  have m2 : (N2 : Int) ≤ 1000000 := by omega
  go_enter Tryz.func59, Tryz.ntmps59
  go_upto_region 1 with fail
  have hc0 : (w.alloc (.cells #[.slice aa N1 ac, .slice ba N2 bc] 51)).cell? ⟨w.heap.size, 0, none⟩ = some (.slice aa N1 ac) := H0.out.pa.1.at 0 rfl
  generalize w.alloc (.cells #[.slice aa N1 ac, .slice ba N2 bc] 51) = w0 at H0 hc0 ⊢
  go_wp2_with fail
  refine (rput_any 4 N1 base (by omega) (by omega) v l w0 H0.out.own (by have := HLn.out; omega) H0.out.sz).mono ?_
  rintro e w1 ⟨v1, rfl, hO, hB, hN⟩
  have H1 := Lib.hid (H0.out.call hO hB hN)
  clear hO hB hN H0 hc0
  go_wp2_with fail
  go_loopw [0, 5] (fun bv kv wr => ∃ (i : Nat), kv = .int .i64 i ∧ i ≤ N1 ∧ Hid (PutS base w.heap.size [.slice aa N1 ac, .slice ba N2 bc] w bv (l ++ be 4 N1 ++ (hc.take i).flatMap (listB cntB)) wr)) (fun _ kv _ => (2000000 - intOf kv).toNat)
  case atStart => exact ⟨0, rfl, by omega, by simpa using H1⟩
  case round =>
    clear H1
    obtain ⟨i, rfl, hi, hs1⟩ := hrel
    have hc0 : wr.cell? ⟨w.heap.size, 0, none⟩ = some (.slice aa N1 ac) := hs1.out.pa.1.at 0 rfl
    by_cases hin : i < N1
    · have i0 : (i : Int) < (N1 : Int) := by omega
      have hil : i < hc.length := by have := HN1.out; omega
      obtain ⟨ab, ao, es, rfl, hal⟩ := HR1.out.atAll (sliE_ok cntE_ok) i hil
      obtain ⟨⟨cv, rfl, hcv⟩, hx⟩ := hal w (NB.refl w)
      clear hx
      have hml := hcv.le
      have hTk := flat_take (listB cntB) hc i hil
      have hLe := flat_le (listB cntB) hc (i + 1)
      have hEl : ∀ W, NB w W → W.cell? ⟨ab, ao + i, none⟩ = some cv ∧ RdS cntE av W cv hc[i] := fun W hn => by
        obtain ⟨⟨cv', e, h1⟩, h2⟩ := hal W hn
        simp at e; subst e
        have := h2 0 cv rfl
        exact ⟨by simpa [sliE, Addr.add] using this, h1⟩
      clear hal
      obtain ⟨ca, cc, rfl⟩ := hcv.slice
      generalize hc[i] = cl at hTk hcv hml hEl
      obtain ⟨M, hM⟩ : ∃ M, M = cl.length := ⟨_, rfl⟩
      rw [← hM] at hcv hml hEl
      have hce : wr.cell? ⟨ab, ao + i, none⟩ = some (.slice ca M cc) := (hEl wr hs1.out.nb).1
      have HEl := Lib.hid hEl
      have HTk := Lib.hid hTk
      have HLe := Lib.hid hLe
      have HM := Lib.hid hM
      have HIl := Lib.hid hil
      have HCv := Lib.hid hcv
      clear hEl hcv hTk hLe hM hil
      have m3 : (M : Int) ≤ 1000000 := by omega
      go_wp2_with fail
      have HL1 : Hid ((l ++ be 4 N1 ++ (hc.take i).flatMap (listB cntB)).length + (listB cntB cl).length ≤ 12000000) := by
        have h1 := HLn.out; have h2 := HLe.out; rw [HTk.out] at h2
        unfold Hid; simp only [List.length_append, be_length] at h2 ⊢; omega
      refine (rput_any 4 M base (by omega) (by omega) _ _ wr hs1.out.own (by have := HL1.out; omega) hs1.out.sz).mono ?_
      rintro e w2 ⟨v2, rfl, hO, hB, hN⟩
      have H2 := Lib.hid (hs1.out.call hO hB hN)
      clear hO hB hN hc0 hce
      go_wp2_with fail
      clear hs1
      go_loopw [0, 6] (fun bv kv wr => ∃ (k : Nat), kv = .int .i64 k ∧ k ≤ M ∧ Hid (PutS base w.heap.size [.slice (some ⟨ab, ao, none⟩) N1 ac, .slice ba N2 bc] w bv (l ++ be 4 N1 ++ (hc.take i).flatMap (listB cntB) ++ be 4 M ++ (cl.take k).flatMap cntB) wr)) (fun _ kv _ => (2000000 - intOf kv).toNat)
      case atStart => exact ⟨0, rfl, by omega, by simpa using H2⟩
      case round =>
        clear H2
        obtain ⟨k, rfl, hk, hs2⟩ := hrel
        have hc0 : wr.cell? ⟨w.heap.size, 0, none⟩ = some (.slice (some ⟨ab, ao, none⟩) N1 ac) := hs2.out.pa.1.at 0 rfl
        have hce : wr.cell? ⟨ab, ao + i, none⟩ = some (.slice ca M cc) := (HEl.out wr hs2.out.nb).1
        by_cases hkM : k < M
        · have k0 : (k : Int) < (M : Int) := by omega
          have hkl : k < cl.length := by have := HM.out; omega
          obtain ⟨cb, co, es2, rfl, hal⟩ := HCv.out.atAll cntE_ok k hkl
          have hCl := hal wr hs2.out.nb
          clear hal
          have hTc := flat_take cntB cl k hkl
          have hLc := flat_le cntB cl (k + 1)
          generalize cl[k] = cx at hCl hTc
          obtain ⟨⟨rfl, q1, q2, q3⟩, hrg⟩ := hCl
          have HTc := Lib.hid hTc
          have HLc := Lib.hid hLc
          have HSz := Lib.hid q1
          have HI_cx_total := Lib.hid q2
          have HI_cx_rej := Lib.hid q3
          have HRg : Hid (wr.rangeAt cb (co + k * 3) [.string cx.name, .int .i64 cx.total, .int .i64 cx.rej]) := hrg
          clear hTc hLc q1 q2 q3 hrg hkl
          obtain ⟨L0, hL0⟩ : ∃ L0, L0 = l ++ be 4 N1 ++ (hc.take i).flatMap (listB cntB) ++ be 4 M ++ (cl.take k).flatMap cntB := ⟨_, rfl⟩
          have HLk : Hid (L0.length + (cntB cx).length ≤ 12000000) := by
            have h1 := HL1.out
            have h2 := HLc.out
            rw [HTc.out] at h2
            unfold Hid
            rw [hL0]
            simp only [listB, List.length_append, be_length] at h1 h2 ⊢
            omega
          rw [← hL0] at hs2
          have HL0 := Lib.hid hL0
          clear hL0
          go_upto_region 10 with (first
            | (refine list_load cntT rfl _ rfl cb (co + k * 3) rfl [.string cx.name, .int .i64 cx.total, .int .i64 cx.rej] rfl HRg.out ?_)
            | (refine list_storeEl cntT rfl _ _ rfl wr.heap.size 0 rfl [.string cx.name, .int .i64 cx.total, .int .i64 cx.rej] rfl rfl (all_one rfl) ((PAt.new wr [.string ⟨#[]⟩, .int .i64 0, .int .i64 0] (by simp) 97 (by decide) rfl).thereMid 0 3 (by simp)) ?_
               intro wy hwy
               have HWy := Lib.hid hwy
               clear hwy)
            | fail)
          have hB : Below wr.heap.size wr wy := by
            rw [HWy.out]
            exact ((Below.refl _ _).alloc (Nat.le_refl _) _).trans ((apartR_setCells _ _ _ _).below (Nat.le_refl _))
          have HX := Lib.hid (hs2.out.new hB)
          have hY : PAt wy wr.heap.size [.string cx.name, .int .i64 cx.total, .int .i64 cx.rej] := by
            rw [HWy.out]
            exact (PAt.new wr [.string ⟨#[]⟩, .int .i64 0, .int .i64 0] (by simp) 97 (by decide) rfl).setCells _ rfl
          have H0 : Hid (PutS base wr.heap.size [.string cx.name, .int .i64 cx.total, .int .i64 cx.rej] wy u0 L0 wy) := ⟨HX.out.own, hY, Below.refl _ _, NB.refl _, HX.out.sz⟩
          generalize wr.heap.size = Y at H0 ⊢
          clear hB hY HWy hs2 HRg hc0 hce
          refine wp_region_tree (by kernel_rfl) (fun w' => PAt w' Y [.string cx.name, .int .i64 cx.total, .int .i64 cx.rej]) 9 (.q 0 0 (.q 1 0 (.q 2 1 (.q 4 0 (.q 5 1 (.q 6 0 (.q 7 1 (.fork (.e 3 (.e 8 (.e 9 (.q 10 0 (.nil))))) (.e 8 (.e 3 (.e 9 (.q 10 0 (.nil))))))))))))) (by kernel_rfl) (H0.out.drew.pa) ?_
          refine tr_q (d := some 49) rfl rfl rfl (u0) (fun w => rfl) ?_
          simp only [Act.put, List.setIfInBounds_toArray, List.set_cons_zero, List.set_cons_succ]
          refine tr_q (d := some 50) rfl rfl rfl (.pointer (some ⟨Y, 0, none⟩)) (fun w => by go_simp) ?_
          simp only [Act.put, List.setIfInBounds_toArray, List.set_cons_zero, List.set_cons_succ]
          refine tr_s (d := some 51) rfl rfl rfl (.string cx.name) (fun w hw => by have hw0 := hw.1.at 0 rfl; simp [execOp, Act.eval, hw0, go_sem]) ?_
          simp only [Act.put, List.setIfInBounds_toArray, List.set_cons_zero, List.set_cons_succ]
          refine tr_q (d := some 53) rfl rfl rfl (.pointer (some ⟨Y, 1, none⟩)) (fun w => by go_simp) ?_
          simp only [Act.put, List.setIfInBounds_toArray, List.set_cons_zero, List.set_cons_succ]
          refine tr_s (d := some 54) rfl rfl rfl (.int .i64 cx.total) (fun w hw => by have hw0 := hw.1.at 1 rfl; simp [execOp, Act.eval, hw0, go_sem]) ?_
          simp only [Act.put, List.setIfInBounds_toArray, List.set_cons_zero, List.set_cons_succ]
          refine tr_q (d := some 55) rfl rfl rfl (.pointer (some ⟨Y, 2, none⟩)) (fun w => by go_simp) ?_
          simp only [Act.put, List.setIfInBounds_toArray, List.set_cons_zero, List.set_cons_succ]
          refine tr_s (d := some 56) rfl rfl rfl (.int .i64 cx.rej) (fun w hw => by have hw0 := hw.1.at 2 rfl; simp [execOp, Act.eval, hw0, go_sem]) ?_
          simp only [Act.put, List.setIfInBounds_toArray, List.set_cons_zero, List.set_cons_succ]
          refine tr_fork ?_ ?_
          · refine tr_call (d := some 52) rfl rfl rfl ⟨_, Tryz.func40, by kernel_rfl, by kernel_rfl⟩ _ _ _ rfl rfl [u0, .string cx.name] rfl (rputString_any base (u0) (L0) cx.name (wy.drew) (H0.out.drew.own) (by have := HLk.out; simp [cntB, ints_length] at this; omega) HSz.out (H0.out.drew.sz)) ?_
            rintro e w1 ⟨v1, rfl, hO, hB, hN⟩
            have H1 := Lib.hid (H0.out.drew.call hO hB hN)
            clear hO hB hN
            refine ⟨_, rfl, fun _ => H1.out.pa, ?_⟩
            simp only [Act.put, List.setIfInBounds_toArray, List.set_cons_zero, List.set_cons_succ]
            have HL8 : Hid (ReadsI ((w1).alloc (.cells #[.int .i64 cx.total, .int .i64 cx.rej] 3)) (.slice (some ⟨(w1).heap.size, 0, none⟩) 2 2) [cx.total, cx.rej]) := readsI_lit (w1) [cx.total, cx.rej] (by simp [HI_cx_total.out, HI_cx_rej.out]) (by simp) rfl rfl (cs := [.int .i64 cx.total, .int .i64 cx.rej]) rfl
            refine tr_run (d := some 57) rfl rfl rfl (.slice (some ⟨(w1).heap.size, 0, none⟩) 2 2) ((w1).alloc (.cells #[.int .i64 cx.total, .int .i64 cx.rej] 3)) (by simp [execOp, Act.eval, Instr.buildSlice, go_sem]) (fun _ => (H1.out.alloc _).pa) ?_
            simp only [Act.put, List.setIfInBounds_toArray, List.set_cons_zero, List.set_cons_succ]
            refine tr_call (d := some 58) rfl rfl rfl ⟨_, Tryz.func38, by kernel_rfl, by kernel_rfl⟩ _ _ _ rfl rfl [v1, .slice (some ⟨(w1).heap.size, 0, none⟩) 2 2] rfl (rputInts_any base (v1) ((L0 ++ strB cx.name)) (.slice (some ⟨(w1).heap.size, 0, none⟩) 2 2) _ ((w1).alloc (.cells #[.int .i64 cx.total, .int .i64 cx.rej] 3)) ((H1.out.alloc _).own) (HL8.out) (by have := HLk.out; simp [cntB, ints_length] at this ⊢; omega) (by simp) ((H1.out.alloc _).sz)) ?_
            rintro e w2 ⟨v2, rfl, hO, hB, hN⟩
            have HL57_2 := Lib.hid (HL8.out.nb hN)
            have H2 := Lib.hid ((H1.out.alloc _).call hO hB hN)
            clear hO hB hN
            refine ⟨_, rfl, fun _ => H2.out.pa, ?_⟩
            simp only [Act.put, List.setIfInBounds_toArray, List.set_cons_zero, List.set_cons_succ]
            refine tr_q (d := some 0) rfl rfl rfl (v2) (fun w => rfl) ?_
            simp only [Act.put, List.setIfInBounds_toArray, List.set_cons_zero, List.set_cons_succ]
            refine tr_end ?_
            have HF := Lib.hid (HX.out.call (l := L0) (x := cntB cx) (by have := H2.out.own; rw [List.append_assoc] at this; exact this) H2.out.below H2.out.nb)
            clear H0 H1 H2 HX
            go_wp2_with fail
            go_roundw
            case rel =>
              refine ⟨k + 1, by go_num, by omega, ?_⟩
              have := HF.out
              rw [HL0.out, List.append_assoc, ← HTc.out] at this
              exact this
            case measure => simp [intOf]; omega
          · have HL8 : Hid (ReadsI ((wy.drew).alloc (.cells #[.int .i64 cx.total, .int .i64 cx.rej] 3)) (.slice (some ⟨(wy.drew).heap.size, 0, none⟩) 2 2) [cx.total, cx.rej]) := readsI_lit (wy.drew) [cx.total, cx.rej] (by simp [HI_cx_total.out, HI_cx_rej.out]) (by simp) rfl rfl (cs := [.int .i64 cx.total, .int .i64 cx.rej]) rfl
            refine tr_run (d := some 57) rfl rfl rfl (.slice (some ⟨(wy.drew).heap.size, 0, none⟩) 2 2) ((wy.drew).alloc (.cells #[.int .i64 cx.total, .int .i64 cx.rej] 3)) (by simp [execOp, Act.eval, Instr.buildSlice, go_sem]) (fun _ => (H0.out.drew.alloc _).pa) ?_
            simp only [Act.put, List.setIfInBounds_toArray, List.set_cons_zero, List.set_cons_succ]
            refine tr_call (d := some 52) rfl rfl rfl ⟨_, Tryz.func40, by kernel_rfl, by kernel_rfl⟩ _ _ _ rfl rfl [u0, .string cx.name] rfl (rputString_any base (u0) (L0) cx.name ((wy.drew).alloc (.cells #[.int .i64 cx.total, .int .i64 cx.rej] 3)) ((H0.out.drew.alloc _).own) (by have := HLk.out; simp [cntB, ints_length] at this; omega) HSz.out ((H0.out.drew.alloc _).sz)) ?_
            rintro e w1 ⟨v1, rfl, hO, hB, hN⟩
            have HL57_1 := Lib.hid (HL8.out.nb hN)
            have H1 := Lib.hid ((H0.out.drew.alloc _).call hO hB hN)
            clear hO hB hN
            refine ⟨_, rfl, fun _ => H1.out.pa, ?_⟩
            simp only [Act.put, List.setIfInBounds_toArray, List.set_cons_zero, List.set_cons_succ]
            refine tr_call (d := some 58) rfl rfl rfl ⟨_, Tryz.func38, by kernel_rfl, by kernel_rfl⟩ _ _ _ rfl rfl [v1, .slice (some ⟨(wy.drew).heap.size, 0, none⟩) 2 2] rfl (rputInts_any base (v1) ((L0 ++ strB cx.name)) (.slice (some ⟨(wy.drew).heap.size, 0, none⟩) 2 2) _ (w1) (H1.out.own) (HL57_1.out) (by have := HLk.out; simp [cntB, ints_length] at this ⊢; omega) (by simp) (H1.out.sz)) ?_
            rintro e w2 ⟨v2, rfl, hO, hB, hN⟩
            have HL57_2 := Lib.hid (HL57_1.out.nb hN)
            have H2 := Lib.hid (H1.out.call hO hB hN)
            clear hO hB hN
            refine ⟨_, rfl, fun _ => H2.out.pa, ?_⟩
            simp only [Act.put, List.setIfInBounds_toArray, List.set_cons_zero, List.set_cons_succ]
            refine tr_q (d := some 0) rfl rfl rfl (v2) (fun w => rfl) ?_
            simp only [Act.put, List.setIfInBounds_toArray, List.set_cons_zero, List.set_cons_succ]
            refine tr_end ?_
            have HF := Lib.hid (HX.out.call (l := L0) (x := cntB cx) (by have := H2.out.own; rw [List.append_assoc] at this; exact this) H2.out.below H2.out.nb)
            clear H0 H1 H2 HX
            go_wp2_with fail
            go_roundw
            case rel =>
              refine ⟨k + 1, by go_num, by omega, ?_⟩
              have := HF.out
              rw [HL0.out, List.append_assoc, ← HTc.out] at this
              exact this
            case measure => simp [intOf]; omega
        · have k0 : decide ((k : Int) < (M : Int)) = false := decide_eq_false (by omega)
          obtain rfl : k = M := by omega
          go_wp2_with fail
          go_roundw
          case rel =>
            refine ⟨i + 1, by go_num, by omega, ?_⟩
            have := hs2.out
            rw [HM.out, List.take_length] at this
            refine Lib.hid ?_
            rw [HTk.out]
            simpa only [listB, List.append_assoc] using this
          case measure => simp [intOf]; omega
    · obtain rfl : N1 = i := by omega
      have hc0 : wr.cell? ⟨w.heap.size, 0, none⟩ = some (.slice aa N1 ac) := hs1.out.pa.1.at 0 rfl
      have hc1 : wr.cell? ⟨w.heap.size, 1, none⟩ = some (.slice ba N2 bc) := hs1.out.pa.1.at 1 rfl
      have HS3 : Hid (PutS base w.heap.size [.slice aa N1 ac, .slice ba N2 bc] w u0 (l ++ be 4 N1 ++ hc.flatMap (listB cntB)) wr) := by
        have := hs1.out
        rw [HN1.out, List.take_length, ← HN1.out] at this
        exact this
      clear hs1 hi hin
      go_wp2_with fail
      refine (rput_any 4 N2 base (by omega) (by omega) _ _ wr HS3.out.own (by have := HLn.out; simp only [List.length_append, be_length]; omega) HS3.out.sz).mono ?_
      rintro e w2 ⟨v2, rfl, hO, hB, hN⟩
      have H2 := Lib.hid (HS3.out.call hO hB hN)
      clear hO hB hN hc0 hc1 HS3
      go_wp2_with fail
      obtain ⟨wo, rfl⟩ : ∃ wo : World, wo = wr := ⟨_, rfl⟩
      go_loopw [0, 8] (fun bv kv wr => ∃ (k : Nat), kv = .int .i64 k ∧ k ≤ N2 ∧ Hid (PutS base w.heap.size [.slice aa N1 ac, .slice ba N2 bc] w bv (l ++ be 4 N1 ++ hc.flatMap (listB cntB) ++ be 4 N2 ++ (hs.take k).flatMap strB) wr)) (fun _ kv _ => (2000000 - intOf kv).toNat)
      case atStart => exact ⟨0, rfl, by omega, by simpa using H2⟩
      case round =>
        clear H2
        obtain ⟨k, rfl, hk, hs2⟩ := hrel
        have hc1 : wr.cell? ⟨w.heap.size, 1, none⟩ = some (.slice ba N2 bc) := hs2.out.pa.1.at 1 rfl
        by_cases hkM : k < N2
        · have k0 : (k : Int) < (N2 : Int) := by omega
          have hkl : k < hs.length := by have := HN2.out; omega
          obtain ⟨cb, co, es2, rfl, hal⟩ := HR2.out.atAll strE_ok k hkl
          have hCl := hal wr hs2.out.nb
          clear hal
          have hTc := flat_take strB hs k hkl
          have hLc := flat_le strB hs (k + 1)
          generalize hs[k] = cx at hCl hTc
          obtain ⟨⟨rfl, q1⟩, hrg⟩ := hCl
          have hce : wr.cell? ⟨cb, co + k, none⟩ = some (.string cx) := by
            have := hrg 0 _ rfl
            simpa [strE, Addr.add] using this
          have HTc := Lib.hid hTc
          have HLk : Hid ((l ++ be 4 N1 ++ hc.flatMap (listB cntB) ++ be 4 N2 ++ (hs.take k).flatMap strB).length + (strB cx).length ≤ 12000000) := by
            have h1 := HLn.out
            rw [hTc] at hLc
            unfold Hid
            simp only [List.length_append, be_length] at hLc ⊢
            omega
          have HSz := Lib.hid q1
          clear hTc hLc q1 hrg hkl
          go_wp2_with fail
          refine (rputString_any base _ _ cx wr hs2.out.own (by have := HLk.out; omega) HSz.out hs2.out.sz).mono ?_
          rintro e w3 ⟨v3, rfl, hO, hB, hN⟩
          have H3 := Lib.hid (hs2.out.call hO hB hN)
          clear hO hB hN hc1 hce hs2
          go_wp2_with fail
          go_roundw
          case rel =>
            refine ⟨k + 1, by go_num, by omega, ?_⟩
            have := H3.out
            refine Lib.hid ?_
            rw [HTc.out]
            simpa only [List.append_assoc] using this
          case measure => simp [intOf]; omega
        · obtain rfl : N2 = k := by omega
          have HF : Hid (PutS base w.heap.size [.slice aa N1 ac, .slice ba N2 bc] w u0 (l ++ histB hc hs) wr) := by
            have := hs2.out
            rw [HN2.out, List.take_length, HN1.out] at this
            refine Lib.hid ?_
            rw [HN2.out, HN1.out]
            simpa only [histB, listB, List.append_assoc] using this
          clear hs2
          go_wp2_with fail
          go_ret
          exact HF.out.done
end Go.Proofs.YtpknalpdcfjffaaGreat
/- The reference's putAnalysis. Printed by gen_ref.py. -/
namespace Go.Proofs.YtpknalpdcfjffaaGreat
open Go Go.RowKit

set_option maxHeartbeats 16000000 in
set_option maxRecDepth 100000 in
theorem rputAnalysis_any (base : Nat) (v : Value) (l : List UInt8) (x : Ana) (cs : List Value) (av : Nat → Prop) (w : World) (h : OwnB w base v l) (hr : anaE.rep av w cs x) (hl : l.length + (anaB x).length ≤ 12000000) (hb : base ≤ w.heap.size) :
    Calls Tryz.prog 57 #[v, .agg cs.toArray] w fun e w' => ∃ v', e = .returned v' ∧ OwnB w' base v' (l ++ anaB x) ∧ Below base w w' ∧ NB w w' := by
  obtain ⟨a, b, c, rfl, r1, r2, r3, r4, r5, r6, r7, r8⟩ := hr
  have HRa := Lib.hid r1.readsI
  have HRb := Lib.hid r2.readsI
  have HRc := Lib.hid r3.readsI
  have HI_x_hi := Lib.hid r4
  have HLo := Lib.hid r5
  have HI_x_anchor := Lib.hid r6
  have HI_x_radius := Lib.hid r7
  have HI_x_rounds := Lib.hid r8
  have HLn : Hid (l.length + 52 + 8 * x.bg.length + 8 * x.inc.length + 8 * x.field.length ≤ 12000000) := by
    unfold Hid; simp [anaB, ints_length, sliceB, be_length] at hl; omega
  have H0 := Lib.hid (PutS.start (cs := anaCells x a b c) h hb (by simp [anaCells]) 45 (by decide))
  clear h hl r1 r2 r3 r4 r5 r6 r7 r8
  go_enter Tryz.func57, Tryz.ntmps57
  go_wp2_with fail
  obtain ⟨X, hX⟩ : ∃ X, X = w.heap.size := ⟨_, rfl⟩
  rw [← hX] at H0 ⊢
  generalize w.alloc (.cells (anaCells x a b c).toArray 45) = w0 at H0 ⊢
  refine wp_region_seqL (by kernel_rfl) (fun w' => PAt w' X (anaCells x a b c)) 9 [(0, 0), (1, 0), (2, 1), (4, 0), (5, 1), (7, 0), (8, 1), (3, 2), (6, 2), (9, 2), (10, 0)] (by kernel_rfl) (H0.out.drew.pa) ?_
  refine sl_q (d := some 5) rfl rfl rfl (v) (fun w => rfl) ?_
  simp only [Act.put, List.setIfInBounds_toArray, List.set_cons_zero, List.set_cons_succ]
  refine sl_q (d := some 6) rfl rfl rfl (.pointer (some ⟨X, 0, none⟩)) (fun w => by go_simp) ?_
  simp only [Act.put, List.setIfInBounds_toArray, List.set_cons_zero, List.set_cons_succ]
  refine sl_s (d := some 7) rfl rfl rfl (a) (fun w hw => by have hw0 := hw.1.at 0 rfl; simp [execOp, Act.eval, hw0, go_sem]) ?_
  simp only [Act.put, List.setIfInBounds_toArray, List.set_cons_zero, List.set_cons_succ]
  refine sl_q (d := some 9) rfl rfl rfl (.pointer (some ⟨X, 1, none⟩)) (fun w => by go_simp) ?_
  simp only [Act.put, List.setIfInBounds_toArray, List.set_cons_zero, List.set_cons_succ]
  refine sl_s (d := some 10) rfl rfl rfl (b) (fun w hw => by have hw0 := hw.1.at 1 rfl; simp [execOp, Act.eval, hw0, go_sem]) ?_
  simp only [Act.put, List.setIfInBounds_toArray, List.set_cons_zero, List.set_cons_succ]
  refine sl_q (d := some 12) rfl rfl rfl (.pointer (some ⟨X, 2, none⟩)) (fun w => by go_simp) ?_
  simp only [Act.put, List.setIfInBounds_toArray, List.set_cons_zero, List.set_cons_succ]
  refine sl_s (d := some 13) rfl rfl rfl (c) (fun w hw => by have hw0 := hw.1.at 2 rfl; simp [execOp, Act.eval, hw0, go_sem]) ?_
  simp only [Act.put, List.setIfInBounds_toArray, List.set_cons_zero, List.set_cons_succ]
  refine sl_call (d := some 8) rfl rfl rfl ⟨_, Tryz.func58, by kernel_rfl, by kernel_rfl⟩ _ _ _ rfl rfl [v, a] rfl (rputSlice_any base (v) (l) (a) x.bg (w0.drew) (H0.out.drew.own) (HRa.out.nb H0.out.drew.nb) (by have := HLn.out; simp [sliceB, ints_length, be_length]; omega) (by have := HLn.out; omega) (H0.out.drew.sz)) ?_
  rintro e w1 ⟨v1, rfl, hO, hB, hN⟩
  have H1 := Lib.hid (H0.out.drew.call hO hB hN)
  clear hO hB hN
  refine ⟨_, rfl, fun _ => H1.out.pa, ?_⟩
  simp only [Act.put, List.setIfInBounds_toArray, List.set_cons_zero, List.set_cons_succ]
  refine sl_call (d := some 11) rfl rfl rfl ⟨_, Tryz.func58, by kernel_rfl, by kernel_rfl⟩ _ _ _ rfl rfl [v1, b] rfl (rputSlice_any base (v1) ((l ++ sliceB x.bg)) (b) x.inc (w1) (H1.out.own) (HRb.out.nb H1.out.nb) (by have := HLn.out; simp [sliceB, ints_length, be_length]; omega) (by have := HLn.out; omega) (H1.out.sz)) ?_
  rintro e w2 ⟨v2, rfl, hO, hB, hN⟩
  have H2 := Lib.hid (H1.out.call hO hB hN)
  clear hO hB hN
  refine ⟨_, rfl, fun _ => H2.out.pa, ?_⟩
  simp only [Act.put, List.setIfInBounds_toArray, List.set_cons_zero, List.set_cons_succ]
  refine sl_call (d := some 14) rfl rfl rfl ⟨_, Tryz.func58, by kernel_rfl, by kernel_rfl⟩ _ _ _ rfl rfl [v2, c] rfl (rputSlice_any base (v2) ((((l ++ sliceB x.bg)) ++ sliceB x.inc)) (c) x.field (w2) (H2.out.own) (HRc.out.nb H2.out.nb) (by have := HLn.out; simp [sliceB, ints_length, be_length]; omega) (by have := HLn.out; omega) (H2.out.sz)) ?_
  rintro e w3 ⟨v3, rfl, hO, hB, hN⟩
  have H3 := Lib.hid (H2.out.call hO hB hN)
  clear hO hB hN
  refine ⟨_, rfl, fun _ => H3.out.pa, ?_⟩
  simp only [Act.put, List.setIfInBounds_toArray, List.set_cons_zero, List.set_cons_succ]
  refine sl_q (d := some 0) rfl rfl rfl (v3) (fun w => rfl) ?_
  simp only [Act.put, List.setIfInBounds_toArray, List.set_cons_zero, List.set_cons_succ]
  refine sl_end ?_
  try go_wp2_with fail
  refine wp_region_seqL (by kernel_rfl) (fun w' => PAt w' X (anaCells x a b c)) 11 [(0, 0), (1, 0), (2, 0), (3, 0), (4, 1), (7, 0), (8, 0), (9, 0), (10, 1), (5, 2), (6, 2), (11, 2), (12, 0)] (by kernel_rfl) (H3.out.drew.pa) ?_
  refine sl_q (d := some 15) rfl rfl rfl (v3) (fun w => rfl) ?_
  simp only [Act.put, List.setIfInBounds_toArray, List.set_cons_zero, List.set_cons_succ]
  refine sl_q (d := some 16) rfl rfl rfl (.pointer (some ⟨X, 3, none⟩)) (fun w => by go_simp) ?_
  simp only [Act.put, List.setIfInBounds_toArray, List.set_cons_zero, List.set_cons_succ]
  refine sl_q (d := some 17) rfl rfl rfl (.pointer (some ⟨X, 3, none⟩)) (fun w => by go_simp) ?_
  simp only [Act.put, List.setIfInBounds_toArray, List.set_cons_zero, List.set_cons_succ]
  refine sl_q (d := some 18) rfl rfl rfl (.pointer (some ⟨X, 3, none⟩)) (fun w => by go_simp) ?_
  simp only [Act.put, List.setIfInBounds_toArray, List.set_cons_zero, List.set_cons_succ]
  refine sl_s (d := some 19) rfl rfl rfl (.int .i64 x.hi) (fun w hw => by have hw0 := hw.1.at 3 rfl; simp [execOp, Act.eval, hw0, go_sem]) ?_
  simp only [Act.put, List.setIfInBounds_toArray, List.set_cons_zero, List.set_cons_succ]
  refine sl_q (d := some 22) rfl rfl rfl (.pointer (some ⟨X, 3, none⟩)) (fun w => by go_simp) ?_
  simp only [Act.put, List.setIfInBounds_toArray, List.set_cons_zero, List.set_cons_succ]
  refine sl_q (d := some 23) rfl rfl rfl (.pointer (some ⟨X, 3, none⟩)) (fun w => by go_simp) ?_
  simp only [Act.put, List.setIfInBounds_toArray, List.set_cons_zero, List.set_cons_succ]
  refine sl_q (d := some 24) rfl rfl rfl (.pointer (some ⟨X, 4, none⟩)) (fun w => by go_simp) ?_
  simp only [Act.put, List.setIfInBounds_toArray, List.set_cons_zero, List.set_cons_succ]
  refine sl_s (d := some 25) rfl rfl rfl (.int .u64 x.lo) (fun w hw => by have hw0 := hw.1.at 4 rfl; simp [execOp, Act.eval, hw0, go_sem]) ?_
  simp only [Act.put, List.setIfInBounds_toArray, List.set_cons_zero, List.set_cons_succ]
  refine sl_run (d := some 20) rfl rfl rfl (.slice (some ⟨(w3.drew).heap.size, 0, none⟩) 1 1) ((w3.drew).alloc (.cells #[.int .i64 x.hi] 3)) (by simp [execOp, Act.eval, Instr.buildSlice, go_sem]) (fun _ => (H3.out.drew.alloc _).pa) ?_
  simp only [Act.put, List.setIfInBounds_toArray, List.set_cons_zero, List.set_cons_succ]
  refine sl_call (d := some 21) rfl rfl rfl ⟨_, Tryz.func38, by kernel_rfl, by kernel_rfl⟩ _ _ _ rfl rfl [v3, .slice (some ⟨(w3.drew).heap.size, 0, none⟩) 1 1] rfl (rputInts_any base (v3) ((((((l ++ sliceB x.bg)) ++ sliceB x.inc)) ++ sliceB x.field)) (.slice (some ⟨(w3.drew).heap.size, 0, none⟩) 1 1) _ ((w3.drew).alloc (.cells #[.int .i64 x.hi] 3)) ((H3.out.drew.alloc _).own) (readsI_lit (w3.drew) [x.hi] (by simp [HI_x_hi.out]) (by simp) rfl rfl rfl) (by have := HLn.out; simp [sliceB, ints_length, be_length]; omega) (by simp) ((H3.out.drew.alloc _).sz)) ?_
  rintro e w4 ⟨v4, rfl, hO, hB, hN⟩
  have H4 := Lib.hid ((H3.out.drew.alloc _).call hO hB hN)
  clear hO hB hN
  refine ⟨_, rfl, fun _ => H4.out.pa, ?_⟩
  simp only [Act.put, List.setIfInBounds_toArray, List.set_cons_zero, List.set_cons_succ]
  refine sl_call (d := some 26) rfl rfl rfl ⟨_, Tryz.func34, by kernel_rfl, by kernel_rfl⟩ _ _ _ rfl rfl [v4, .int .u64 x.lo, .int .i64 8] rfl (rput_any 8 x.lo base (by omega) HLo.out (v4) ((((((((l ++ sliceB x.bg)) ++ sliceB x.inc)) ++ sliceB x.field)) ++ ints [x.hi])) (w4) (H4.out.own) (by have := HLn.out; simp [sliceB, ints_length, be_length]; omega) (H4.out.sz)) ?_
  rintro e w5 ⟨v5, rfl, hO, hB, hN⟩
  have H5 := Lib.hid (H4.out.call hO hB hN)
  clear hO hB hN
  refine ⟨_, rfl, fun _ => H5.out.pa, ?_⟩
  simp only [Act.put, List.setIfInBounds_toArray, List.set_cons_zero, List.set_cons_succ]
  refine sl_q (d := some 0) rfl rfl rfl (v5) (fun w => rfl) ?_
  simp only [Act.put, List.setIfInBounds_toArray, List.set_cons_zero, List.set_cons_succ]
  refine sl_end ?_
  subst hX
  have c5 : w5.cell? ⟨w.heap.size, 5, none⟩ = some (.int .i64 x.anchor) := H5.out.pa.1.at 5 rfl
  have c6 : w5.cell? ⟨w.heap.size, 6, none⟩ = some (.int .i64 x.radius) := H5.out.pa.1.at 6 rfl
  have c7 : w5.cell? ⟨w.heap.size, 7, none⟩ = some (.int .i64 x.rounds) := H5.out.pa.1.at 7 rfl
  clear H0 H1 H2 H3 H4
  go_wp2_with fail
  clear c5 c6 c7
  have HR3 : Hid (ReadsI (w5.alloc (.cells #[.int .i64 x.anchor, .int .i64 x.radius, .int .i64 x.rounds] 3)) (.slice (some ⟨w5.heap.size, 0, none⟩) 3 3) [x.anchor, x.radius, x.rounds]) :=
    readsI_lit w5 [x.anchor, x.radius, x.rounds] (by simp [HI_x_anchor.out, HI_x_radius.out, HI_x_rounds.out]) (by simp) rfl rfl (cs := [.int .i64 x.anchor, .int .i64 x.radius, .int .i64 x.rounds]) rfl
  refine (rputInts_any base _ _ _ [x.anchor, x.radius, x.rounds] _ (H5.out.alloc _).own HR3.out (by have := HLn.out; simp [sliceB, ints_length, be_length]; omega) (by simp) (H5.out.alloc _).sz).mono ?_
  rintro e w6 ⟨v6, rfl, hO, hB, hN⟩
  have HF := Lib.hid ((H5.out.alloc _).call hO hB hN).done
  clear hO hB hN H5
  go_wp2_with fail
  go_ret
  have := HF.out
  simpa [anaB, List.append_assoc] using this
end Go.Proofs.YtpknalpdcfjffaaGreat
