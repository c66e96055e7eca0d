/- Part 2 of the proof: laws on memory and what functions of the program return. No conditions but those that each theorem names. -/
import Derived.Test.YtmmmebdgannpgaaGreatDoorR01
import Derived.Test.YtmmmebdgannpgaaGreatDoorChecked
import Derived.Outline
import Derived.Deep.QuietTactic
import Derived.BigQuiet
import Derived.IntWalk
import Derived.Deep.MidRow
import Derived.Lib.Hide
import Derived.Deep.RegionHeld3
import Derived.Deep.RegionWith
import Derived.Deep.AppendLies
import Derived.Laws.IdiomStrings
import Derived.Lib.SlBytesConst
set_option linter.unusedVariables false
set_option linter.unusedSimpArgs false
/- The choices of synopticfield: New, Left, Next, Int and Place. What they return lies in its range, and only the list's own place is written. No conditions. -/
namespace Go.Proofs.YtmmmebdgannpgaaGreatDoor
open Go Go.RowKit

theorem but_cell {wx w' : World} {b : Nat} {a : Addr} {v : Value} (hb : But wx.heap.size b wx w') (hn : a.block ≠ b) (h : wx.cell? a = some v) : w'.cell? a = some v := by
  rw [hb.cell (World.block_lt_of_cell? _ _ h) hn]; exact h
theorem bdrewN {B : Nat} {w w' : World} (h : Below B w w') (n : Nat) : Below B w (w'.drewN n) := ⟨h.os, h.tape, h.output, h.size, h.block⟩

/-- Block b is a list of choices; the bytes lie below block B. -/
def CodesIs (w : World) (B b : Nat) : Prop :=
  ∃ (a : Option Addr) (len cap k : Nat), B ≤ b ∧ w.cell? ⟨b, 0, none⟩ = some (.slice a len cap) ∧ w.cell? ⟨b, 1, none⟩ = some (.int .i64 k) ∧ w.frozen? ⟨b, 1, none⟩ = false ∧ k ≤ len ∧ len ≤ 1000 ∧
    (∀ i, k ≤ i → i < len → ∃ ab ao : Nat, a = some ⟨ab, ao, none⟩ ∧ ab < B ∧ ∃ z : Int, 0 ≤ z ∧ z ≤ 255 ∧ w.cell? ⟨ab, ao + i, none⟩ = some (.int .u8 z))
theorem CodesIs.lt {w : World} {B b : Nat} (h : CodesIs w B b) : b < w.heap.size := by
  obtain ⟨a, len, cap, k, h0, h1, _⟩ := h
  exact World.block_lt_of_cell? (a := ⟨b, 0, none⟩) _ h1
theorem CodesIs.le {w : World} {B b : Nat} (h : CodesIs w B b) : B ≤ b := by obtain ⟨_, _, _, _, h0, _⟩ := h; exact h0
theorem CodesIs.of_same {w w' : World} {B b : Nat} (h : CodesIs w B b) (hb : w'.heap[b]? = w.heap[b]?) (hB : ∀ k, k < B → k < w.heap.size → w'.heap[k]? = w.heap[k]?) : CodesIs w' B b := by
  obtain ⟨a, len, cap, k, h0, h1, h2, h3, h4, h5, h6⟩ := h
  refine ⟨a, len, cap, k, h0, ?_, ?_, ?_, h4, h5, ?_⟩
  · rw [World.cell?_of_block (w := w) hb]; exact h1
  · rw [World.cell?_of_block (w := w) hb]; exact h2
  · rw [World.frozen?_of_block (w := w) hb]; exact h3
  · intro i hi hl
    obtain ⟨ab, ao, ha, hlt, z, z0, z1, hc⟩ := h6 i hi hl
    have hb' := hB _ hlt (World.block_lt_of_cell? (a := ⟨ab, ao + i, none⟩) _ hc)
    refine ⟨ab, ao, ha, hlt, z, z0, z1, ?_⟩
    have e : w'.cell? ⟨ab, ao + i, none⟩ = w.cell? ⟨ab, ao + i, none⟩ := World.cell?_of_block (w := w) hb'
    rw [e]; exact hc
theorem CodesIs.below {w w' : World} {B b C : Nat} (h : CodesIs w B b) (hw : Below C w w') (hC : b < C) : CodesIs w' B b :=
  h.of_same (hw.block _ hC) (fun k hk _ => hw.block k (by have := h.le; omega))
theorem CodesIs.setCell {w : World} {B b : Nat} (h : CodesIs w B b) {p : Addr} (hp : p.block ≠ b) (hB : B ≤ p.block) (u : Value) : CodesIs (w.setCell p u) B b :=
  h.of_same (Below.heap_setCell _ _ _ _ (by omega)) (fun k hk _ => Below.heap_setCell _ _ _ _ (by omega))
theorem CodesIs.alloc {w : World} {B b : Nat} (h : CodesIs w B b) (o : Obj) : CodesIs (w.alloc o) B b :=
  h.of_same (Below.heap_alloc _ _ _ h.lt) (fun _ _ hk => Below.heap_alloc _ _ _ hk)
theorem CodesIs.drewN {w : World} {B b : Nat} (h : CodesIs w B b) (n : Nat) : CodesIs (w.drewN n) B b := h.of_same rfl (fun _ _ _ => rfl)
theorem CodesIs.drew {w : World} {B b : Nat} (h : CodesIs w B b) : CodesIs w.drew B b := h.of_same rfl (fun _ _ _ => rfl)

/-- Since world w0 nothing has turned but the choices in block b. -/
def St (w0 : World) (B b : Nat) (w : World) : Prop := CodesIs w B b ∧ But w0.heap.size b w0 w
theorem St.start {w : World} {B b : Nat} (h : CodesIs w B b) : St w B b w := ⟨h, But.refl _ _ _⟩
theorem St.size {w0 w : World} {B b : Nat} (h : St w0 B b w) : w0.heap.size ≤ w.heap.size := h.2.size
theorem St.lt {w0 w : World} {B b : Nat} (h : St w0 B b w) : b < w.heap.size := h.1.lt
theorem St.alloc {w0 w : World} {B b : Nat} (h : St w0 B b w) (o : Obj) : St w0 B b (w.alloc o) := ⟨h.1.alloc o, h.2.alloc h.2.size o⟩
theorem St.drewN {w0 w : World} {B b : Nat} (h : St w0 B b w) (n : Nat) : St w0 B b (w.drewN n) := ⟨h.1.drewN n, h.2.drewN n⟩
theorem St.drew {w0 w : World} {B b : Nat} (h : St w0 B b w) : St w0 B b w.drew := ⟨h.1.drew, h.2.drew⟩
theorem St.below {w0 w w' : World} {B b : Nat} (h : St w0 B b w) (hw : Below w.heap.size w w') : St w0 B b w' := ⟨h.1.below hw h.1.lt, h.2.trans (But.of_below (hw.mono h.2.size))⟩
theorem St.setCell {w0 w : World} {B b : Nat} (h : St w0 B b w) {p : Addr} (hp : w0.heap.size ≤ p.block) (hn : p.block ≠ b) (hB : B ≤ p.block) (u : Value) : St w0 B b (w.setCell p u) := ⟨h.1.setCell hn hB u, h.2.setCell (Or.inl hp) u⟩
theorem St.then {w0 w w' : World} {B b : Nat} (h : St w0 B b w) (hs : St w B b w') : St w0 B b w' := ⟨hs.1, h.2.trans (hs.2.mono h.2.size)⟩
theorem St.grown {w0 w w' : World} {B b base : Nat} (h : St w0 B b w) (hb : Below base w w') (hbb : b < base) (h0 : w0.heap.size ≤ base) : St w0 B b w' := ⟨h.1.below hb hbb, h.2.trans (But.of_below (hb.mono h0))⟩

/-- A call that returns a number of a range, and writes the choices at most. -/
def IntIn (lo hi : Int) (B b : Nat) (w : World) (e : Ending) (w' : World) : Prop := ∃ x : Int, lo ≤ x ∧ x ≤ hi ∧ e = .returned (.int .i64 x) ∧ St w B b w'
def BoolIn (q : Bool) (w : World) (e : Ending) (w' : World) : Prop := e = .returned (.bool q) ∧ ∃ n, w' = w.drewN n

theorem left_raw (b k len cap : Nat) (a : Option Addr) (w : World) (h0 : w.cell? ⟨b, 0, none⟩ = some (.slice a len cap)) (h1 : w.cell? ⟨b, 1, none⟩ = some (.int .i64 k)) (q : Bool) (hq : decide (k < len) = q) :
    Calls Tryz.prog 25 #[.pointer (some ⟨b, 0, none⟩)] w (BoolIn q w) := by
  go_enter Tryz.func25, Tryz.ntmps25
  go_wp2
  go_quiet (fail)
  go_wp2
  go_ret
  exact ⟨by rw [← hq]; rfl, _, rfl⟩

set_option maxHeartbeats 1000000 in
theorem next_ok (B b : Nat) (n : Int) (w : World) (h : CodesIs w B b) (h1 : 1 ≤ n) (h2 : n ≤ 1000000000) :
    Calls Tryz.prog 7 #[.pointer (some ⟨b, 0, none⟩), .int .i64 n] w (IntIn 0 (n - 1) B b w) := by
  have H := Lib.hid h
  obtain ⟨a, len, cap, k, q0, q1, q2, q3, q4, q5, q6⟩ := h
  have H6 := Lib.hid q6
  rcases Nat.lt_or_ge k len with hk | hk
  · obtain ⟨ab, ao, rfl, hab, z, z0, z1, hz⟩ := H6.out k (Nat.le_refl _) hk
    have L := Lib.hid (left_raw b k len cap (some ⟨ab, ao, none⟩) w q1 q2 true (by simpa using hk))
    have hne : ab ≠ b := by omega
    have Hfin : Hid (∀ (m p : Nat), St w B b (((w.drewN m).setCell ⟨b, 1, none⟩ (.int .i64 ((k : Int) + 1))).drewN p)) := by
      intro m p
      refine ⟨?_, ((But.refl _ b _).drewN m |>.setCell (p := ⟨b, 1, none⟩) (Or.inr rfl) _).drewN p⟩
      refine ⟨some ⟨ab, ao, none⟩, len, cap, k + 1, q0, ?_, ?_, ?_, hk, q5, ?_⟩
      · simp only [World.cell?_drewN]
        rw [World.cell?_setCell_other _ _ _ _ (by simp)]; exact q1
      · simp only [World.cell?_drewN]
        exact World.cell?_setCell_same _ _ _ (by simp only [World.cell?_drewN]; exact q2)
      · rw [← q3]; simp
      · intro i hi hl
        obtain ⟨ab', ao', e', hlt', z', z0', z1', hc'⟩ := H6.out i (by omega) hl
        obtain ⟨rfl, rfl⟩ : ab = ab' ∧ ao = ao' := by simpa using e'
        refine ⟨ab, ao, rfl, hlt', z', z0', z1', ?_⟩
        simp only [World.cell?_drewN]
        rw [World.cell?_setCell_other _ _ _ _ (by simp)]; exact hc'
    have hm0 : 0 ≤ z % n := Int.emod_nonneg _ (by omega)
    have hm1 : z % n < n := Int.emod_lt_of_pos _ (by omega)
    clear q6
    go_enter Tryz.func7, Tryz.ntmps7
    go_wp2_with fail
    refine L.out.mono ?_
    rintro e w1 ⟨rfl, m, rfl⟩
    have e1 : IntKind.i64.wrap (k : Int) = k := IntWalk.i64_in _ (by omega)
    go_wp2_with fail
    have e2 : (0 : Int) ≤ (k : Int) := by omega
    have e3 : (k : Int) < len := by omega
    go_quiet (fail)
    clear e1 e2 e3
    go_wp2_with fail
    go_ret
    exact ⟨_, hm0, by omega, rfl, Hfin.out _ _⟩
  · have L := Lib.hid (left_raw b k len cap a w q1 q2 false (by simp; omega))
    clear q6
    go_enter Tryz.func7, Tryz.ntmps7
    go_wp2_with fail
    refine L.out.mono ?_
    rintro e w1 ⟨rfl, m, rfl⟩
    go_wp2_with fail
    go_ret
    exact ⟨0, by omega, by omega, rfl, (St.start H.out).drewN _⟩

/-- A call that returns an int, and writes the choices at most. -/
def IntAny (B b : Nat) (w : World) (e : Ending) (w' : World) : Prop := ∃ x : Int, I64 x ∧ e = .returned (.int .i64 x) ∧ St w B b w'

def greats : List Int := [9223372036854775807, -9223372036854775808, 144115188075855872, 144115188075855873, -1, 4294967296, 1048576, 1048577, 4194304, 1000001, 0, 17]
theorem greats_I64 : ∀ z ∈ greats, I64 z := by unfold greats I64; intro z hz; simp at hz; omega

set_option maxHeartbeats 1000000 in
set_option maxRecDepth 100000 in
theorem int_ok (B b : Nat) (w : World) (h : CodesIs w B b) :
    Calls Tryz.prog 6 #[.pointer (some ⟨b, 0, none⟩)] w (IntAny B b w) := by
  have hlt := h.lt
  have hs0 := Lib.hid ((St.start h).alloc (.cells #[.int .i64 9223372036854775807, .int .i64 (-9223372036854775808), .int .i64 144115188075855872, .int .i64 144115188075855873, .int .i64 (-1), .int .i64 4294967296, .int .i64 1048576, .int .i64 1048577, .int .i64 4194304, .int .i64 1000001, .int .i64 0, .int .i64 17] 3))
  have hcells : Hid (∀ i, i < 12 → ∃ z : Int, I64 z ∧ (w.alloc (.cells #[.int .i64 9223372036854775807, .int .i64 (-9223372036854775808), .int .i64 144115188075855872, .int .i64 144115188075855873, .int .i64 (-1), .int .i64 4294967296, .int .i64 1048576, .int .i64 1048577, .int .i64 4194304, .int .i64 1000001, .int .i64 0, .int .i64 17] 3)).cell? ⟨w.heap.size, i, none⟩ = some (.int .i64 z)) := by
    intro i hi
    refine ⟨greats.getD i 0, ?_, ?_⟩
    · refine greats_I64 _ ?_
      have : greats.getD i 0 = greats[i]'(by simpa [greats] using hi) := by simp [List.getD_eq_getElem?_getD, show i < greats.length by simpa [greats] using hi]
      rw [this]; exact List.getElem_mem _
    · have : i = 0 ∨ i = 1 ∨ i = 2 ∨ i = 3 ∨ i = 4 ∨ i = 5 ∨ i = 6 ∨ i = 7 ∨ i = 8 ∨ i = 9 ∨ i = 10 ∨ i = 11 := by omega
      rcases this with rfl | rfl | rfl | rfl | rfl | rfl | rfl | rfl | rfl | rfl | rfl | rfl <;> simp [greats]
  clear h
  go_enter Tryz.func6, Tryz.ntmps6
  go_wp2_with fail
  generalize w.alloc (.cells #[.int .i64 9223372036854775807, .int .i64 (-9223372036854775808), .int .i64 144115188075855872, .int .i64 144115188075855873, .int .i64 (-1), .int .i64 4294967296, .int .i64 1048576, .int .i64 1048577, .int .i64 4194304, .int .i64 1000001, .int .i64 0, .int .i64 17] 3) = w0 at *
  refine (next_ok B b 4 w0 hs0.out.1 (by omega) (by omega)).mono ?_
  rintro e w1 ⟨x, x0, x1, rfl, hs⟩
  have Hs1 := Lib.hid (hs0.out.then hs)
  have hk1 := hs.2
  by_cases hx : x = 3
  · subst hx
    go_wp2_with fail
    refine (next_ok B b 12 w1 Hs1.out.1 (by omega) (by omega)).mono ?_
    rintro e w2 ⟨y, y0, y1, rfl, hs2⟩
    obtain ⟨j, rfl⟩ : ∃ j : Nat, y = j := ⟨y.toNat, by omega⟩
    have hj : j < 12 := by omega
    obtain ⟨z, hz, hc⟩ := hcells.out j hj
    have hc2 := but_cell hs2.2 (by simp; omega) (but_cell hk1 (by simp; omega) hc)
    have Hs2 := Lib.hid (Hs1.out.then hs2)
    have Hz := Lib.hid hz
    clear hs hs2 hk1 hc hz
    go_wp2_with fail
    go_ret
    exact ⟨z, Hz.out, rfl, Hs2.out⟩
  · have hxb : (x == 3) = false := by simpa using hx
    clear hx hs hk1
    go_wp2_with fail
    refine (next_ok B b 256 w1 Hs1.out.1 (by omega) (by omega)).mono ?_
    rintro e w2 ⟨y, y0, y1, rfl, hs2⟩
    have Hs2 := Lib.hid (Hs1.out.then hs2)
    clear hs2
    go_wp2_with fail
    go_ret
    exact ⟨_, by unfold I64; omega, rfl, Hs2.out⟩

end Go.Proofs.YtmmmebdgannpgaaGreatDoor
/- A value of many cells in a block of its own: kept, changed at one place, loaded and stored whole. No walk. -/
namespace Go.Proofs.YtmmmebdgannpgaaGreatDoor
open Go Go.RowKit

/-- Block b holds these cells, and they may be written. -/
def RowAt (w : World) (b : Nat) (cs : List Value) : Prop := 0 < cs.length ∧ (∀ i, i < cs.length → w.cell? ⟨b, i, none⟩ = cs[i]?) ∧ ∀ i, i < cs.length → w.frozen? ⟨b, i, none⟩ = false
theorem RowAt.lt {w : World} {b : Nat} {cs : List Value} (h : RowAt w b cs) : b < w.heap.size := by
  have h0 := h.2.1 0 h.1
  rw [List.getElem?_eq_getElem h.1] at h0
  exact World.block_lt_of_cell? (a := ⟨b, 0, none⟩) _ h0
theorem RowAt.of_block {w w' : World} {b : Nat} {cs : List Value} (h : RowAt w b cs) (hb : w'.heap[b]? = w.heap[b]?) : RowAt w' b cs := by
  refine ⟨h.1, fun i hi => ?_, fun i hi => ?_⟩
  · rw [World.cell?_of_block (w := w) hb]; exact h.2.1 i hi
  · rw [World.frozen?_of_block (w := w) hb]; exact h.2.2 i hi
theorem RowAt.below {w w' : World} {b : Nat} {cs : List Value} (h : RowAt w b cs) (hb : Below w.heap.size w w') : RowAt w' b cs := h.of_block (hb.block _ h.lt)
theorem RowAt.but {w w' : World} {b p : Nat} {cs : List Value} (h : RowAt w b cs) (hb : But w.heap.size p w w') (hn : b ≠ p) : RowAt w' b cs := h.of_block (hb.block _ h.lt hn)
theorem RowAt.drew {w : World} {b : Nat} {cs : List Value} (h : RowAt w b cs) : RowAt w.drew b cs := h.of_block rfl
theorem RowAt.alloc {w : World} {b : Nat} {cs : List Value} (h : RowAt w b cs) (o : Obj) : RowAt (w.alloc o) b cs := h.of_block (Below.heap_alloc _ _ _ h.lt)
theorem RowAt.other {w : World} {b : Nat} {cs : List Value} (h : RowAt w b cs) {p : Addr} (hp : p.block ≠ b) (u : Value) : RowAt (w.setCell p u) b cs := h.of_block (Below.heap_setCell _ _ _ _ (by omega))
theorem RowAt.set {w : World} {b : Nat} {cs : List Value} (h : RowAt w b cs) (j : Nat) (hj : j < cs.length) (u : Value) : RowAt (w.setCell ⟨b, j, none⟩ u) b (cs.set j u) := by
  refine ⟨by rw [List.length_set]; exact h.1, fun i hi => ?_, fun i hi => ?_⟩
  · rw [List.length_set] at hi
    by_cases hij : i = j
    · subst hij
      have h0 := h.2.1 i hi
      rw [List.getElem?_eq_getElem hi] at h0
      rw [World.cell?_setCell_same _ _ _ h0, List.getElem?_set_self hi]
    · rw [World.cell?_setCell_other _ _ _ _ (by simp <;> omega), h.2.1 i hi, List.getElem?_set_ne (by omega)]
  · rw [List.length_set] at hi
    rw [← h.2.2 i hi]; simp
theorem RowAt.new (w : World) (cs : List Value) (hl : 0 < cs.length) (t : TypeId) {H : Nat} (hH : w.heap.size = H) : RowAt (w.alloc (.cells cs.toArray t)) H cs := by
  subst hH
  refine ⟨hl, fun i hi => ?_, fun i hi => ?_⟩
  · simp
  · simp
theorem RowAt.at {w : World} {b : Nat} {cs : List Value} (h : RowAt w b cs) (i : Nat) {v : Value} (hv : cs[i]? = some v) : w.cell? ⟨b, i, none⟩ = some v := by
  rw [h.2.1 i (List.getElem?_eq_some_iff.1 hv).1]; exact hv
theorem RowAt.range {w : World} {b : Nat} {cs : List Value} (h : RowAt w b cs) : w.rangeAt b 0 cs := fun j v hj => by
  rw [Nat.zero_add, h.2.1 j (List.getElem?_eq_some_iff.1 hj).1]; exact hj
theorem RowAt.there {w : World} {b : Nat} {cs : List Value} (h : RowAt w b cs) {n : Nat} (hn : n ≤ cs.length) : w.there b 0 n := fun j hj => by
  refine ⟨?_, ?_⟩
  · rw [Nat.zero_add, h.2.1 j (by omega), List.getElem?_eq_getElem (by omega)]; rfl
  · rw [Nat.zero_add]; exact h.2.2 j (by omega)
/-- What a type must be to be loaded and stored whole. -/
def RowT (t : TypeId) (n : Nat) : Prop := (Tryz.prog.info? t).map (·.size) = some n ∧ ∃ d, Tryz.prog.underlying t = some d ∧ d.isRow = true
theorem RowAt.loadVar {w : World} {b : Nat} {cs : List Value} (h : RowAt w b cs) {t : TypeId} (ht : RowT t cs.length) : (loadVar t ⟨b, 0, none⟩).run Tryz.prog w = .ok (.agg cs.toArray) w := by
  obtain ⟨h0, d, h1, h2⟩ := ht
  exact run_loadVar_mid w b 0 _ cs d h.range h1 h2 h0
theorem row_load {ops : Array Oper} {rest : List Oper} {op : Oper} {a : Act} {w : World} {Q : Exit → Act → World → Prop} {t : TypeId} (hgd : op.guard = none) (x : Operand) (ho : op.op = .load t x)
    (b : Nat) (hx : a.eval x = .pointer (some ⟨b, 0, none⟩)) (cs : List Value) (h : RowAt w b cs) (ht : RowT t cs.length)
    (k : wpList Tryz.prog ops Q rest (a.put op.dst (.agg cs.toArray)) w) : wpList Tryz.prog ops Q (op :: rest) a w := by
  obtain ⟨h0, d, h1, h2⟩ := ht
  exact wpList_load_mid hgd _ x ho b 0 hx cs d h.range h1 h2 h0 k
/-- The blocks but for block b hold what they held. -/
def ApartR (b : Nat) (w w' : World) : Prop := w'.os = w.os ∧ w'.tape = w.tape ∧ w'.output = w.output ∧ w'.heap.size = w.heap.size ∧ ∀ k, k ≠ b → w'.heap[k]? = w.heap[k]?
theorem apartR_setCells (b : Nat) : ∀ (vs : List Value) (o : Nat) (w : World), ApartR b w (w.setCells b o vs)
  | [], _, _ => ⟨rfl, rfl, rfl, rfl, fun _ _ => rfl⟩
  | v :: r, o, w => by
    obtain ⟨h1, h2, h3, h4, h5⟩ := apartR_setCells b r (o + 1) (w.setCell ⟨b, o, none⟩ v)
    refine ⟨h1, h2, h3, by rw [World.setCells, h4]; simp [World.setCell], fun k hk => ?_⟩
    rw [World.setCells, h5 k hk]
    exact Below.heap_setCell _ _ _ _ (fun e => hk e)
theorem ApartR.below {B b : Nat} {w w' : World} (h : ApartR b w w') (hb : B ≤ b) : Below B w w' := ⟨h.1, h.2.1, h.2.2.1, Nat.le_of_eq h.2.2.2.1.symm, fun k hk => h.2.2.2.2 k (by omega)⟩
theorem RowAt.apart {w w' : World} {b p : Nat} {cs : List Value} (h : RowAt w b cs) (ha : ApartR p w w') (hn : b ≠ p) : RowAt w' b cs := h.of_block (ha.2.2.2.2 b hn)
theorem row_store {ops : Array Oper} {rest : List Oper} {op : Oper} {a : Act} {w : World} {Q : Exit → Act → World → Prop} {t : TypeId} (hgd : op.guard = none) (x y : Operand) (ho : op.op = .store t x y)
    (b : Nat) (hx : a.eval x = .pointer (some ⟨b, 0, none⟩)) (cs cs' : List Value) (hy : a.eval y = .agg cs'.toArray) (h : RowAt w b cs) (hl : cs'.length = cs.length) (ht : RowT t cs.length) (h1 : ∀ v ∈ cs', v.oneCell' = true)
    (k : ∀ w', RowAt w' b cs' → ApartR b w w' → wpList Tryz.prog ops Q rest (a.put op.dst undef) w') : wpList Tryz.prog ops Q (op :: rest) a w := by
  have ht' : w.there b 0 cs'.toArray.size := by rw [List.size_toArray]; exact h.there (by omega)
  refine wpList_store_mid hgd _ x y ho b 0 cs'.toArray hx hy ht' (by rw [ht.1, List.size_toArray, hl]) (all_oneCell_toArray h1) (k _ ?_ (apartR_setCells _ _ _ _))
  have hth : w.there b 0 cs'.length := h.there (by omega)
  refine ⟨by rw [hl]; exact h.1, fun i hi => ?_, fun i hi => ?_⟩
  · have := w.rangeAt_setCells_same b 0 cs' hth i _ (List.getElem?_eq_getElem hi)
    rw [Nat.zero_add] at this
    rw [List.getElem?_eq_getElem hi]
    exact this
  · rw [World.frozen?_setCells]; exact h.2.2 i (by omega)
/-- The end of a function that returns one such value. -/
theorem ret_row {fn : Func} {R : Ending → World → Prop} {a : Act} {w : World} {i : Nat} {t : TypeId} (hfn : fn.results = #[.cell i t]) (b : Nat) (cs : List Value) (h : RowAt w b cs) (ht : RowT t cs.length) (hp : a.tmps.getD i undef = .pointer (some ⟨b, 0, none⟩)) (hd : a.defers = [])
    (hR : R (.returned (.agg cs.toArray)) w) : bodyPost Tryz.prog fn R .ret a w := by
  refine bodyPost_ret ?_ hd hR
  have hl := h.loadVar ht
  unfold results
  rw [hfn]
  simp [hp, asAddr, hl, -Array.getD_eq_getD_getElem?]
/-- The end of a function that returns such a value and another one. -/
theorem ret_row2 {fn : Func} {R : Ending → World → Prop} {a : Act} {w : World} {i j : Nat} {t : TypeId} (hfn : fn.results = #[.cell i t, .tmp j]) (b : Nat) (cs : List Value) (q : Value) (h : RowAt w b cs) (ht : RowT t cs.length) (hp : a.tmps.getD i undef = .pointer (some ⟨b, 0, none⟩)) (hq : a.tmps.getD j undef = q) (hd : a.defers = [])
    (hR : R (.returned (.tuple #[.agg cs.toArray, q])) w) : bodyPost Tryz.prog fn R .ret a w := by
  refine bodyPost_ret ?_ hd hR
  have hl := h.loadVar ht
  unfold results
  rw [hfn]
  simp [hp, hq, asAddr, hl, -Array.getD_eq_getD_getElem?]
end Go.Proofs.YtmmmebdgannpgaaGreatDoor
/- Gates: an arm of a walk is tried at its own operation alone. No program. -/
namespace Go.Proofs.YtmmmebdgannpgaaGreatDoor
open Go Go.RowKit

theorem gate_st {P : Program} {ops : Array Oper} {Q : Exit → Act → World → Prop} {d : Option Tmp} {T : TypeId} {x y : Operand} {ty : TypeId} {ps : String} {af : Array Edge} {g : Option (Nat × Bool)} {rest : List Oper} {a : Act} {w : World} (h : wpList P ops Q (⟨d, .store T x y, ty, ps, af, g⟩ :: rest) a w) : wpList P ops Q (⟨d, .store T x y, ty, ps, af, g⟩ :: rest) a w := h
theorem gate_stw {P : Program} {K : Act → World → Prop} {Q : Exit → Act → World → Prop} {d : Option Tmp} {T : TypeId} {x y : Operand} {ty : TypeId} {ps : String} {af : Array Edge} {g : Option (Nat × Bool)} {a : Act} {w : World} (h : Oper.wp P ⟨d, .store T x y, ty, ps, af, g⟩ a w K Q) : Oper.wp P ⟨d, .store T x y, ty, ps, af, g⟩ a w K Q := h
theorem gate_ld {P : Program} {ops : Array Oper} {Q : Exit → Act → World → Prop} {d : Option Tmp} {T : TypeId} {x : Operand} {ty : TypeId} {ps : String} {af : Array Edge} {g : Option (Nat × Bool)} {rest : List Oper} {a : Act} {w : World} (h : wpList P ops Q (⟨d, .load T x, ty, ps, af, g⟩ :: rest) a w) : wpList P ops Q (⟨d, .load T x, ty, ps, af, g⟩ :: rest) a w := h
theorem gate_ldw {P : Program} {K : Act → World → Prop} {Q : Exit → Act → World → Prop} {d : Option Tmp} {T : TypeId} {x : Operand} {ty : TypeId} {ps : String} {af : Array Edge} {g : Option (Nat × Bool)} {a : Act} {w : World} (h : Oper.wp P ⟨d, .load T x, ty, ps, af, g⟩ a w K Q) : Oper.wp P ⟨d, .load T x, ty, ps, af, g⟩ a w K Q := h
theorem gate_li {P : Program} {ops : Array Oper} {Q : Exit → Act → World → Prop} {d : Option Tmp} {T : TypeId} {n : Nat} {xs : Array (Nat × Operand)} {ty : TypeId} {ps : String} {af : Array Edge} {g : Option (Nat × Bool)} {rest : List Oper} {a : Act} {w : World} (h : wpList P ops Q (⟨d, .buildSlice T n xs, ty, ps, af, g⟩ :: rest) a w) : wpList P ops Q (⟨d, .buildSlice T n xs, ty, ps, af, g⟩ :: rest) a w := h
theorem gate_liw {P : Program} {K : Act → World → Prop} {Q : Exit → Act → World → Prop} {d : Option Tmp} {T : TypeId} {n : Nat} {xs : Array (Nat × Operand)} {ty : TypeId} {ps : String} {af : Array Edge} {g : Option (Nat × Bool)} {a : Act} {w : World} (h : Oper.wp P ⟨d, .buildSlice T n xs, ty, ps, af, g⟩ a w K Q) : Oper.wp P ⟨d, .buildSlice T n xs, ty, ps, af, g⟩ a w K Q := h
end Go.Proofs.YtmmmebdgannpgaaGreatDoor
/- Regions that draw, taken by hand: what is pure or only loads first, the slot that it writes given; the condition on the world made stronger on the way. -/
namespace Go.Proofs.YtmmmebdgannpgaaGreatDoor
open Go Go.RowKit

theorem wpAnyH_takeD {P : Program} {md : Region.Mode} {ops : Array Oper} {Q : Exit → Act → World → Prop} {S : World → Prop} {i : Nat} {oi : Oper} {d : Option Tmp} {v : Value} {fuel : Nat} {listed : Array Bool} {a : Act} {w : World} (hi : ops[i]? = some oi) (hd : oi.dst = d)
    (hs : Region.noSelect ops = true) (hf : Region.free md ops listed i = true) (hr : (Region.ready md ops listed).contains i = true)
    (hQ : ∀ c a w, Q (.panic c) (a.put d v) w → Q (.panic c) a w) (hy : YieldsIf P ops S oi v a) (hS : S w)
    (h : wpAnyH P md ops Q S fuel (listed.setIfInBounds i true) (a.put d v) w) : wpAnyH P md ops Q S (fuel + 1) listed a w := by
  subst hd
  exact wpAnyH_take hi hs hf hr hQ hy hS h
/-- The condition on the world may be made stronger. -/
theorem wpAnyH_more {P : Program} {md : Region.Mode} {ops : Array Oper} {Q : Exit → Act → World → Prop} {S S' : World → Prop} (hSS : ∀ w, S' w → S w) : ∀ {fuel : Nat} {listed : Array Bool} {a : Act} {w : World},
    wpAnyH P md ops Q S' fuel listed a w → wpAnyH P md ops Q S fuel listed a w
  | 0, _, _, _, h => h
  | fuel + 1, _, _, _, h => ⟨h.1, fun i hi => wpOp_mono (fun _ _ h' => ⟨hSS _ h'.1, wpAnyH_more hSS h'.2⟩) (h.2 i hi)⟩
theorem yields_load {P : Program} {ops : Array Oper} {S : World → Prop} {op : Oper} {a : Act} {v : Value} (hw : Region.wanted op (yielded ops a.tmps) = true) (ty : TypeId) (x : Operand) (ho : op.op = .load ty x)
    (ad : Addr) (hx : a.eval x = .pointer (some ad)) (hS : ∀ w, S w → (loadVar ty ad).run P w = .ok v w) : YieldsIf P ops S op v a := .inl ⟨hw, fun w hw' => by
  unfold execOp
  simp only [ho, hx, Instr.loadAt, Instr.sureAddr, Sem.run_bind, Sem.run_pure, Result.andThen_ok, hS w hw']⟩
end Go.Proofs.YtmmmebdgannpgaaGreatDoor
/- A region that draws its order, walked in one order: what yields its value in every world that meets S is taken as soon as it may come up; each other operation comes up alone. The order is looked at once, for the whole region. No program. -/
namespace Go.Proofs.YtmmmebdgannpgaaGreatDoor
open Go Go.RowKit

section
variable {P : Program} {ops : Array Oper} {Q : Exit → Act → World → Prop} {S : World → Prop}
/-- The operations one after the other; true marks those that only yield a value. -/
def wpSeq (P : Program) (ops : Array Oper) (Q : Exit → Act → World → Prop) (S : World → Prop) : List (Nat × Bool) → Act → World → Prop
  | [], a, w => Q .normal a w
  | (i, q) :: r, a, w => ∃ o, ops[i]? = some o ∧ if q = true then ∃ v, YieldsIf P ops S o v a ∧ wpSeq P ops Q S r (a.put o.dst v) w
    else if Region.wanted o (yielded ops a.tmps) = true then Oper.wp P o a w (fun a' w' => S w' ∧ wpSeq P ops Q S r a' w') Q else wpSeq P ops Q S r (a.put o.dst undef) w
def schedB (ops : Array Oper) : List (Nat × Bool) → Array Bool → Bool
  | [], listed => (Region.ready .any ops listed).isEmpty
  | (i, true) :: r, listed => Region.free .any ops listed i && (Region.ready .any ops listed).contains i && schedB ops r (listed.setIfInBounds i true)
  | (i, false) :: r, listed => (Region.ready .any ops listed == [i]) && schedB ops r (listed.setIfInBounds i true)
theorem wpSeq_sound (hn : Region.noSelect ops = true) (hQ : ∀ c a d v w, Q (.panic c) (Act.put a d v) w → Q (.panic c) a w) : ∀ (l : List (Nat × Bool)) (listed : Array Bool) (a : Act) (w : World), schedB ops l listed = true → S w → wpSeq P ops Q S l a w → wpAnyH P .any ops Q S l.length listed a w
  | [], listed, a, w, hb, _, h => ⟨by simpa [schedB] using hb, h⟩
  | (i, true) :: r, listed, a, w, hb, hS, ⟨o, ho, h⟩ => by
    rw [if_pos rfl] at h
    obtain ⟨v, hy, h⟩ := h
    simp only [schedB, Bool.and_eq_true] at hb
    exact wpAnyH_take ho hn hb.1.1 hb.1.2 (fun c a w => hQ c a _ _ w) hy hS (wpSeq_sound hn hQ r _ _ _ hb.2 hS h)
  | (i, false) :: r, listed, a, w, hb, hS, ⟨o, ho, h⟩ => by
    rw [if_neg (by decide)] at h
    simp only [schedB, Bool.and_eq_true, beq_iff_eq] at hb
    refine wpAnyH_ready hb.1 (by simp) fun j hj => ?_
    obtain rfl : j = i := by simpa using hj
    unfold wpOp
    rw [ho]
    simp only
    split
    · rename_i hw
      rw [if_pos hw] at h
      exact Or.inl (Oper.wp_mono (fun a' w' h' => ⟨h'.1, wpSeq_sound hn hQ r _ _ _ hb.2 h'.1 h'.2⟩) h)
    · rename_i hw
      rw [if_neg hw] at h
      exact ⟨hS, wpSeq_sound hn hQ r _ _ _ hb.2 hS h⟩
theorem wp_region_seq {id : Nat} {a : Act} {w : World} (hm : P.follows .mixedOrders = true) (S : World → Prop) (l : List (Nat × Bool)) (hb : (Region.noSelect ops && (l.length == ops.size) && schedB ops l (Array.replicate ops.size false)) = true)
    (hS : S w.drew) (h : wpSeq P ops (NoPanic Q) S l a w.drew) : (Code.region id ops true).wp P Q a w := by
  simp only [Bool.and_eq_true, beq_iff_eq] at hb
  refine wp_region_noPanic (wp_region_held (S := S) hm ?_)
  have h1 := wpSeq_sound hb.1.1 (fun _ _ _ _ _ h => h) l _ a _ hb.2 hS h
  rw [hb.1.2] at h1
  exact h1
variable {r : List (Nat × Bool)} {i : Nat} {o : Oper} {d : Option Tmp} {a : Act} {w : World}
theorem seq_end (h : Q .normal a w) : wpSeq P ops (NoPanic Q) S [] a w := h
theorem run_makeFunc {fn : Fn} (x : Operand) (hop : o.op = .makeFunc fn #[x] #[]) (v : Value) (hx : a.eval x = v) (w : World) : (execOp a.eval o).run P w = .ok (.value (.func fn #[v] #[])) w := by
  subst hx
  unfold execOp
  simp [hop, Instr.makeFunc]
/-- An operation that yields a value in every world that meets S. -/
theorem seq_q (ho : ops[i]? = some o) (hd : o.dst = d) (hw : Region.wanted o (yielded ops a.tmps) = true) (v : Value) (hy : ∀ w, S w → (execOp a.eval o).run P w = .ok (.value v) w) (h : wpSeq P ops Q S r (a.put d v) w) : wpSeq P ops Q S ((i, true) :: r) a w := by
  subst hd
  exact ⟨o, ho, by rw [if_pos rfl]; exact ⟨v, Or.inl ⟨hw, hy⟩, h⟩⟩
/-- An operation whose guard is false. -/
theorem seq_off (ho : ops[i]? = some o) (hd : o.dst = d) (hw : Region.wanted o (yielded ops a.tmps) = false) (h : wpSeq P ops Q S r (a.put d undef) w) : wpSeq P ops Q S ((i, true) :: r) a w := by
  subst hd
  exact ⟨o, ho, by rw [if_pos rfl]; exact ⟨undef, Or.inr ⟨hw, rfl⟩, h⟩⟩
/-- A load of what lies there in every world that meets S. -/
theorem seq_load (ho : ops[i]? = some o) (hd : o.dst = d) (hw : Region.wanted o (yielded ops a.tmps) = true) (ty : TypeId) (x : Operand) (hop : o.op = .load ty x) (ad : Addr) (hx : a.eval x = .pointer (some ad)) (v : Value) (hy : ∀ w, S w → (loadVar ty ad).run P w = .ok v w) (h : wpSeq P ops Q S r (a.put d v) w) : wpSeq P ops Q S ((i, true) :: r) a w := by
  subst hd
  exact ⟨o, ho, by rw [if_pos rfl]; exact ⟨v, yields_load hw ty x hop ad hx hy, h⟩⟩
theorem seq_wp (ho : ops[i]? = some o) (hw : Region.wanted o (yielded ops a.tmps) = true) (h : ∀ K : Act → World → Prop, (∀ a' w', S w' → wpSeq P ops Q S r a' w' → K a' w') → Oper.wp P o a w K Q) : wpSeq P ops Q S ((i, false) :: r) a w :=
  ⟨o, ho, by rw [if_neg (by decide), if_pos hw]; exact h _ (fun _ _ hs hr => ⟨hs, hr⟩)⟩
/-- An operation that gives a value and turns the world. -/
theorem seq_run (ho : ops[i]? = some o) (hd : o.dst = d) (hw : Region.wanted o (yielded ops a.tmps) = true) (v : Value) (w' : World) (hrun : (execOp a.eval o).run P w = .ok (.value v) w') (hS : S w') (h : wpSeq P ops Q S r (a.put d v) w') : wpSeq P ops Q S ((i, false) :: r) a w := by
  subst hd
  refine seq_wp ho hw fun K hK => ?_
  unfold Oper.wp
  rw [hrun]
  exact hK _ _ hS h
/-- An operation that gives none. -/
theorem seq_skip (ho : ops[i]? = some o) (hd : o.dst = d) (hw : Region.wanted o (yielded ops a.tmps) = true) (w' : World) (hrun : (execOp a.eval o).run P w = .ok .skip w') (hS : S w') (h : wpSeq P ops Q S r (a.put d undef) w') : wpSeq P ops Q S ((i, false) :: r) a w := by
  subst hd
  refine seq_wp ho hw fun K hK => ?_
  unfold Oper.wp
  rw [hrun]
  exact hK _ _ hS h
/-- What a function must be to be called. -/
def Has (P : Program) (f : FuncId) : Prop := ∃ g, P.funcs[f]? = some g ∧ (g.name == "runtime.NumGoroutine") = false ∧ g.body.isNone = false
theorem run_callFunc {f : FuncId} (hf : Has P f) (vs : Array Value) (w : World) : (callFunc f vs).run P w = .ok (.enter f vs) w := by
  obtain ⟨fn, hf, hname, hb⟩ := hf
  have h1 : fn.name ≠ "runtime.NumGoroutine" := by simpa using hname
  have h2 : ¬ fn.body = none := by intro h; rw [h] at hb; cases hb
  simp [callFunc, hf, h1, h2]
theorem run_call {f : FuncId} (hf : Has P f) (fo : Operand) (args : Array Operand) (ts : Array TypeId) (hop : o.op = .call { callee := .value fo, args := args, argTypes := ts }) (hfo : a.eval fo = .func (.func f) #[] #[]) (vs : List Value) (hv : args.toList.map a.eval = vs) :
    (execOp a.eval o).run P w = .ok (.enter f vs.toArray) w := by
  have e1 : args.map a.eval = vs.toArray := by rw [← hv]; exact (by simp [← List.map_toArray])
  unfold execOp
  simp only [hop, resolve, hfo, e1, Deferred.ofValue, Sem.run_bind, Sem.run_pure, Result.andThen_ok, invoke]
  simp [run_callFunc hf]
/-- A call of a function that returns. -/
theorem seq_call (ho : ops[i]? = some o) (hd : o.dst = d) (hw : Region.wanted o (yielded ops a.tmps) = true) {f : FuncId} (hf : Has P f) (fo : Operand) (args : Array Operand) (ts : Array TypeId) (hop : o.op = .call { callee := .value fo, args := args, argTypes := ts }) (hfo : a.eval fo = .func (.func f) #[] #[]) (vs : List Value) (hv : args.toList.map a.eval = vs)
    {R : Ending → World → Prop} (hc : Calls P f vs.toArray w R) (h : ∀ e w', R e w' → ∃ v, e = .returned v ∧ S w' ∧ wpSeq P ops Q S r (a.put d v) w') : wpSeq P ops Q S ((i, false) :: r) a w := by
  subst hd
  refine seq_wp ho hw fun K hK => ?_
  unfold Oper.wp
  rw [run_call hf fo args ts hop hfo vs hv, Oper.upon_enter]
  refine hc.mono fun e w' hr => ?_
  obtain ⟨v, rfl, h1, h2⟩ := h e w' hr
  exact hK _ _ h1 h2
/-- What is needed of a method behind an interface value. -/
structure MethB (P : Program) (ty : TypeId) (v : Value) (name : String) (f : FuncId) (u : Value) : Prop where
  meth : ∀ w, (method (P.types.size + Made.depth) ty v name).run P w = .ok (f, u) w
  fn : Has P f
theorem run_invoke {ty : TypeId} {v u : Value} {name : String} {f : FuncId} (hm : MethB P ty v name f u) (ro : Operand) (args : Array Operand) (ts : Array TypeId) (hop : o.op = .call { callee := .invoke ro name, args := args, argTypes := ts }) (hr : a.eval ro = .iface ty v) (vs : List Value) (hv : args.toList.map a.eval = vs) :
    (execOp a.eval o).run P w = .ok (.enter f (u :: vs).toArray) w := by
  have hp : (program).run P w = .ok P w := rfl
  have e1 : args.map a.eval = vs.toArray := by rw [← hv]; exact (by simp [← List.map_toArray])
  unfold execOp
  simp only [hop, resolve, hr, e1, Sem.run_bind, Sem.run_pure, Result.andThen_ok, invoke]
  simp [callMethod, hp, hm.meth, run_callFunc hm.fn]
/-- A call through an interface. -/
theorem seq_invoke (ho : ops[i]? = some o) (hd : o.dst = d) (hw : Region.wanted o (yielded ops a.tmps) = true) {ty : TypeId} {v u : Value} {name : String} {f : FuncId} (hm : MethB P ty v name f u) (ro : Operand) (args : Array Operand) (ts : Array TypeId) (hop : o.op = .call { callee := .invoke ro name, args := args, argTypes := ts }) (hr : a.eval ro = .iface ty v) (vs : List Value) (hv : args.toList.map a.eval = vs)
    {R : Ending → World → Prop} (hc : Calls P f (u :: vs).toArray w R) (h : ∀ e w', R e w' → ∃ v, e = .returned v ∧ S w' ∧ wpSeq P ops Q S r (a.put d v) w') : wpSeq P ops Q S ((i, false) :: r) a w := by
  subst hd
  refine seq_wp ho hw fun K hK => ?_
  unfold Oper.wp
  rw [run_invoke hm ro args ts hop hr vs hv, Oper.upon_enter]
  refine hc.mono fun e w' hr => ?_
  obtain ⟨v, rfl, h1, h2⟩ := h e w' hr
  exact hK _ _ h1 h2
/-- The same in a plain list. -/
theorem wpList_invoke {rest : List Oper} (hgd : o.guard = none) {ty : TypeId} {v u : Value} {name : String} {f : FuncId} (hm : MethB P ty v name f u) (ro : Operand) (args : Array Operand) (ts : Array TypeId) (hop : o.op = .call { callee := .invoke ro name, args := args, argTypes := ts }) (hr : a.eval ro = .iface ty v) (vs : List Value) (hv : args.toList.map a.eval = vs)
    {R : Ending → World → Prop} (hc : Calls P f (u :: vs).toArray w R) (h : ∀ e w', R e w' → ∃ v, e = .returned v ∧ wpList P ops Q rest (a.put o.dst v) w') : wpList P ops Q (o :: rest) a w := by
  refine wpList_plain hgd fun K hK => ?_
  unfold Oper.wp
  rw [run_invoke hm ro args ts hop hr vs hv, Oper.upon_enter]
  refine hc.mono fun e w' hr => ?_
  obtain ⟨v, rfl, h2⟩ := h e w' hr
  exact hK _ _ h2
/-- The nil check of a method value of an interface. -/
theorem run_nilMethod {ty : TypeId} {v : Value} {name : String} (h : ∀ w, (nilAhead (P.types.size + Made.depth) ty v name).run P w = .ok (some false) w) (x : Operand) (hop : o.op = .nilCheck x) (hx : a.eval x = .func (.method name) #[.iface ty v] #[]) (w : World) :
    (execOp a.eval o).run P w = .ok (.value (.func (.method name) #[.iface ty v] #[])) w := by
  have hp : (program).run P w = .ok P w := rfl
  unfold execOp
  simp only [hop, hx]
  simp [hp, h]
end
end Go.Proofs.YtmmmebdgannpgaaGreatDoor
/- As Seq, but behind the last operation nothing is asked of the world: what loads must come before it. No program. -/
namespace Go.Proofs.YtmmmebdgannpgaaGreatDoor
open Go Go.RowKit

section
variable {P : Program} {ops : Array Oper} {Q : Exit → Act → World → Prop} {S : World → Prop} {L : Nat}
/-- What comes before an operation, f steps back. -/
def anc (ops : Array Oper) : Nat → Nat → List Nat
  | 0, _ => []
  | f + 1, k => match ops[k]? with
    | some o => (o.after.toList.filter (Region.binds .any)).flatMap fun e => e.on :: anc ops f e.on
    | none => []
def ClosedL (ops : Array Oper) (listed : Array Bool) : Prop := ∀ k o, ops[k]? = some o → listed.getD k false = true → ∀ e ∈ o.after, Region.binds .any e = true → listed.getD e.on false = true
theorem anc_listed {listed : Array Bool} (hc : ClosedL ops listed) : ∀ (f k : Nat) (o : Oper), ops[k]? = some o → (∀ e ∈ o.after, Region.binds .any e = true → listed.getD e.on false = true) → (hsz : listed.size = ops.size) → ∀ i ∈ anc ops f k, listed.getD i false = true
  | 0, _, _, _, _, _, i, hi => by simp [anc] at hi
  | f + 1, k, o, ho, he, hsz, i, hi => by
    rw [anc, ho] at hi
    simp only [List.mem_flatMap, List.mem_filter] at hi
    obtain ⟨e, ⟨h1, h2⟩, h3⟩ := hi
    have h4 := he e (by simpa using h1) h2
    rcases List.mem_cons.1 h3 with rfl | h3
    · exact h4
    · have hlt : e.on < ops.size := by
        rcases Nat.lt_or_ge e.on listed.size with h | h
        · omega
        · simp [Array.getElem?_eq_none h] at h4
      exact anc_listed hc f e.on ops[e.on] (Array.getElem?_eq_getElem hlt) (hc e.on _ (Array.getElem?_eq_getElem hlt) h4) hsz i h3
theorem ClosedL.set {listed : Array Bool} (hc : ClosedL ops listed) {j : Nat} (hj : j ∈ Region.ready .any ops listed) : ClosedL ops (listed.setIfInBounds j true) := by
  obtain ⟨h0, oj, hoj, hall⟩ := mem_ready.1 hj
  have mono : ∀ k, listed.getD k false = true → (listed.setIfInBounds j true).getD k false = true := fun k hk => by
    by_cases hkj : j = k
    · subst hkj
      have : j < listed.size := by
        rcases Nat.lt_or_ge j listed.size with h | h
        · exact h
        · simp [Array.getElem?_eq_none h] at hk
      simp [this]
    · rw [getD_set_ne false hkj]; exact hk
  intro k o ho hk e he hb
  by_cases hkj : j = k
  · subst hkj
    rw [hoj] at ho
    injection ho with ho
    subst ho
    exact mono _ (hall e he hb)
  · rw [getD_set_ne false hkj] at hk
    exact mono _ (hc k o ho hk e he hb)
def wpAnyL (P : Program) (ops : Array Oper) (Q : Exit → Act → World → Prop) (S : World → Prop) (L : Nat) : Nat → Array Bool → Act → World → Prop
  | 0, listed, a, w => Region.ready .any ops listed = [] ∧ Q .normal a w
  | fuel + 1, listed, a, w =>
    (Region.ready .any ops listed = [] → Q .normal a w) ∧
    ∀ i ∈ Region.ready .any ops listed, wpOp P ops Q i (fun a' w' => ((listed.setIfInBounds i true).getD L false = false → S w') ∧ wpAnyL P ops Q S L fuel (listed.setIfInBounds i true) a' w') a w
theorem wpAny_of_L : ∀ (fuel : Nat) (listed : Array Bool) (a : Act) (w : World), wpAnyL P ops Q S L fuel listed a w → wpAny P .any ops Q fuel listed a w
  | 0, _, _, _, h => h
  | fuel + 1, _, _, _, h => ⟨h.1, fun i hi => wpOp_mono (fun a' w' h' => wpAny_of_L fuel _ a' w' h'.2) (h.2 i hi)⟩
/-- Taken first: T is what the operation asks of the world; it is so until the operation comes. -/
theorem wpAnyL_first {T : World → Prop} {i : Nat} {oi : Oper} {v : Value} (hiL : i ≠ L) (hi : ops[i]? = some oi) (hsel : ∀ (j : Nat) (o : Oper) cs b, ops[j]? = some o → o.op ≠ .select cs b)
    (hQ : ∀ c a w, Q (.panic c) (a.put oi.dst v) w → Q (.panic c) a w) (hT : ∀ (j : Nat) (listed : Array Bool) (w' : World), ClosedL ops listed → listed.size = ops.size → j ∈ Region.ready .any ops listed → i ∈ Region.ready .any ops listed → j ≠ i → ((listed.setIfInBounds j true).getD L false = false → S w') → T w') :
    ∀ (fuel : Nat) (listed : Array Bool) (a : Act) (w : World),
      (∀ j oj, ops[j]? = some oj → j ≠ i → listed.getD j true = false → (∀ e ∈ oj.after, Region.binds .any e = true → e.on ≠ i) → oi.apart ops oj = true) →
      ClosedL ops listed → listed.size = ops.size → i ∈ Region.ready .any ops listed → YieldsIf P ops T oi v a → T w → ((listed.setIfInBounds i true).getD L false = false → S w) →
      wpAnyL P ops Q S L fuel (listed.setIfInBounds i true) (a.put oi.dst v) w → wpAnyL P ops Q S L (fuel + 1) listed a w := by
  intro fuel
  induction fuel with
  | zero =>
    intro listed a w _ hc hsz hr hy hTw hSw H
    refine ⟨fun h => (by rw [h] at hr; cases hr), fun j hj => ?_⟩
    by_cases hji : j = i
    · subst hji; exact hy.wpOp hi hTw ⟨hSw, H⟩
    · have := ready_mono hj hji
      rw [H.1] at this
      cases this
  | succ fuel ih =>
    intro listed a w hfree hc hsz hr hy hTw hSw H
    refine ⟨fun h => (by rw [h] at hr; cases hr), fun j hj => ?_⟩
    by_cases hji : j = i
    · subst hji; exact hy.wpOp hi hTw ⟨hSw, H⟩
    · have h1 := H.2 j (ready_mono hj hji)
      obtain ⟨hjun, oj, hoj, hall⟩ := mem_ready.1 hj
      have hnot : ∀ e ∈ oj.after, Region.binds .any e = true → e.on ≠ i := fun e he hb heq => by
        have h1 := hall e he hb
        have h0 := (mem_ready.1 hr).1
        rw [heq] at h1
        rcases Nat.lt_or_ge i listed.size with h' | h'
        · simp [h'] at h0 h1; rw [h0] at h1; cases h1
        · simp [Array.getElem?_eq_none h'] at h1
      have h2 := wpOp_putIf hoj (hfree j oj hoj hji hjun hnot) (fun cs b => hsel i oi cs b hi) (fun cs b => hsel j oj cs b hoj) hQ hy h1
      have hfree' : ∀ k ok, ops[k]? = some ok → k ≠ i → (listed.setIfInBounds j true).getD k true = false →
          (∀ e ∈ ok.after, Region.binds .any e = true → e.on ≠ i) → oi.apart ops ok = true := fun k ok hk hki hun hno => by
        refine hfree k ok hk hki ?_ hno
        by_cases hjk : j = k
        · subst hjk; exact hjun
        · rw [getD_set_ne true hjk] at hun; exact hun
      have hcomm : (listed.setIfInBounds i true).setIfInBounds j true = (listed.setIfInBounds j true).setIfInBounds i true := Array.setIfInBounds_comm _ _ (Ne.symm hji)
      have hless : ∀ k, (listed.setIfInBounds j true).getD k false = false → k ≠ i → ((listed.setIfInBounds i true).setIfInBounds j true).getD k false = false := fun k hk hki => by
        rw [hcomm, getD_set_ne false (Ne.symm hki)]; exact hk
      refine wpOp_mono (fun a' w' h3 => ⟨fun hL => ?_, ih (listed.setIfInBounds j true) a' w' hfree' (hc.set hj) (by simp [hsz]) (ready_mono hr (Ne.symm hji)) h3.1 (hT j listed w' hc hsz hj hr hji fun hL => ?_) ?_ ?_⟩) h2
      · exact h3.2.1 (hless L hL (Ne.symm hiL))
      · exact h3.2.1 (hless L hL (Ne.symm hiL))
      · intro hL
        rw [← hcomm] at hL
        exact h3.2.1 hL
      · rw [← hcomm]
        exact h3.2.2
/-- The operations one after the other. 0: yields a value in whatever world; 1: in every world that meets S; 2: any other. -/
def wpSeqL (P : Program) (ops : Array Oper) (Q : Exit → Act → World → Prop) (S : World → Prop) : List (Nat × Nat) → Act → World → Prop
  | [], a, w => Q .normal a w
  | (i, q) :: r, a, w => ∃ o, ops[i]? = some o ∧ match q with
    | 0 => ∃ v, YieldsIf P ops (fun _ => True) o v a ∧ wpSeqL P ops Q S r (a.put o.dst v) w
    | 1 => ∃ v, YieldsIf P ops S o v a ∧ wpSeqL P ops Q S r (a.put o.dst v) w
    | _ => if Region.wanted o (yielded ops a.tmps) = true then Oper.wp P o a w (fun a' w' => (r.any (fun x => x.2 == 2) = true → S w') ∧ wpSeqL P ops Q S r a' w') Q else wpSeqL P ops Q S r (a.put o.dst undef) w
def schedL (ops : Array Oper) (L : Nat) : List (Nat × Nat) → Array Bool → Bool
  | [], listed => (Region.ready .any ops listed).isEmpty
  | (i, 0) :: r, listed => i != L && Region.free .any ops listed i && (Region.ready .any ops listed).contains i && schedL ops L r (listed.setIfInBounds i true)
  | (i, 1) :: r, listed => i != L && (anc ops ops.size L).contains i && Region.free .any ops listed i && (Region.ready .any ops listed).contains i && schedL ops L r (listed.setIfInBounds i true)
  | (i, _ + 2) :: r, listed => (i == L || r.any (fun x => x.2 == 2)) && (Region.ready .any ops listed == [i]) && schedL ops L r (listed.setIfInBounds i true)
theorem wpSeqL_sound (hn : Region.noSelect ops = true) (hL : L < ops.size) (hQ : ∀ c a d v w, Q (.panic c) (Act.put a d v) w → Q (.panic c) a w) : ∀ (l : List (Nat × Nat)) (listed : Array Bool) (a : Act) (w : World), schedL ops L l listed = true → ClosedL ops listed → listed.size = ops.size → (listed.getD L false = false → S w) → wpSeqL P ops Q S l a w → wpAnyL P ops Q S L l.length listed a w
  | [], listed, a, w, hb, _, _, _, h => ⟨by simpa [schedL] using hb, h⟩
  | (i, 0) :: r, listed, a, w, hb, hc, hsz, hS, ⟨o, ho, v, hy, h⟩ => by
    simp only [schedL, Bool.and_eq_true, bne_iff_ne] at hb
    obtain ⟨⟨⟨h1, h2⟩, h3⟩, h4⟩ := hb
    have hr : i ∈ Region.ready .any ops listed := by simpa using h3
    have hno : (listed.setIfInBounds i true).getD L false = false → listed.getD L false = false := fun h => by rw [getD_set_ne false h1] at h; exact h
    exact wpAnyL_first (T := fun _ => True) h1 ho (Region.noSelect_spec hn) (fun c a w => hQ c a _ _ w) (fun _ _ _ _ _ _ _ _ _ => trivial) r.length listed a w (Region.free_spec ho h2) hc hsz hr hy trivial (fun h => hS (hno h))
      (wpSeqL_sound hn hL hQ r _ _ _ h4 (hc.set hr) (by simp [hsz]) (fun h => hS (hno h)) h)
  | (i, 1) :: r, listed, a, w, hb, hc, hsz, hS, ⟨o, ho, v, hy, h⟩ => by
    simp only [schedL, Bool.and_eq_true, bne_iff_ne] at hb
    obtain ⟨⟨⟨⟨h1, h5⟩, h2⟩, h3⟩, h4⟩ := hb
    have hr : i ∈ Region.ready .any ops listed := by simpa using h3
    have ha : i ∈ anc ops ops.size L := by simpa using h5
    have hno : (listed.setIfInBounds i true).getD L false = false → listed.getD L false = false := fun h => by rw [getD_set_ne false h1] at h; exact h
    have hun : ∀ listed : Array Bool, ClosedL ops listed → listed.size = ops.size → i ∈ Region.ready .any ops listed → listed.getD L false = false ∧ L ∉ Region.ready .any ops listed := fun listed hc hsz hi => by
      have h0 := (mem_ready.1 hi).1
      have hf : listed.getD i false = false := by
        have hlt : i < listed.size := by
          rcases Nat.lt_or_ge i listed.size with h | h
          · exact h
          · simp [Array.getElem?_eq_none h] at h0
        simp [hlt] at h0 ⊢; exact h0
      have hoL : ops[L]? = some ops[L] := Array.getElem?_eq_getElem hL
      refine ⟨?_, fun hLr => ?_⟩
      · cases hq : listed.getD L false with
        | false => rfl
        | true =>
          have := anc_listed hc ops.size L _ hoL (hc L _ hoL hq) hsz i ha
          rw [hf] at this; cases this
      · obtain ⟨_, oL, hoL', hall⟩ := mem_ready.1 hLr
        have := anc_listed hc ops.size L _ hoL' hall hsz i ha
        rw [hf] at this; cases this
    have hSw := hS (hun listed hc hsz hr).1
    exact wpAnyL_first (T := S) h1 ho (Region.noSelect_spec hn) (fun c a w => hQ c a _ _ w) (fun j listed w' hc hsz hj hi hji hS' => hS' (by
        have h6 := hun listed hc hsz hi
        have hjL : j ≠ L := fun e => h6.2 (e ▸ hj)
        rw [getD_set_ne false hjL]; exact h6.1)) r.length listed a w (Region.free_spec ho h2) hc hsz hr hy hSw (fun _ => hSw)
      (wpSeqL_sound hn hL hQ r _ _ _ h4 (hc.set hr) (by simp [hsz]) (fun _ => hSw) h)
  | (i, q + 2) :: r, listed, a, w, hb, hc, hsz, hS, ⟨o, ho, h⟩ => by
    simp only [schedL, Bool.and_eq_true, Bool.or_eq_true, beq_iff_eq] at hb
    obtain ⟨⟨h1, h2⟩, h3⟩ := hb
    have hr : i ∈ Region.ready .any ops listed := by rw [h2]; simp
    refine ⟨fun h0 => by (rw [h0] at hr; cases hr), fun j hj => ?_⟩
    obtain rfl : j = i := by rw [h2] at hj; simpa using hj
    have hLt : j = L → (listed.setIfInBounds j true).getD L false = false → False := fun e hf => by
      subst e
      have : j < listed.size := by omega
      simp [this] at hf
    unfold wpOp
    rw [ho]
    simp only
    split
    · rename_i hw
      rw [if_pos hw] at h
      refine Or.inl (Oper.wp_mono (fun a' w' h' => ?_) h)
      have hs : (listed.setIfInBounds j true).getD L false = false → S w' := fun hf => by
        rcases h1 with h1 | h1
        · exact (hLt h1 hf).elim
        · exact h'.1 h1
      exact ⟨hs, wpSeqL_sound hn hL hQ r _ _ _ h3 (hc.set hr) (by simp [hsz]) hs h'.2⟩
    · rename_i hw
      rw [if_neg hw] at h
      have hs : (listed.setIfInBounds j true).getD L false = false → S w := fun hf => hS (by
        by_cases e : j = L
        · exact (hLt e hf).elim
        · rw [getD_set_ne false e] at hf; exact hf)
      exact ⟨hs, wpSeqL_sound hn hL hQ r _ _ _ h3 (hc.set hr) (by simp [hsz]) hs h⟩
theorem wp_region_seqL {id : Nat} {a : Act} {w : World} (hm : P.follows .mixedOrders = true) (S : World → Prop) (L : Nat) (l : List (Nat × Nat)) (hb : (Region.noSelect ops && (l.length == ops.size) && decide (L < ops.size) && schedL ops L l (Array.replicate ops.size false)) = true)
    (hS : S w.drew) (h : wpSeqL P ops (NoPanic Q) S l a w.drew) : (Code.region id ops true).wp P Q a w := by
  simp only [Bool.and_eq_true, beq_iff_eq, decide_eq_true_eq] at hb
  obtain ⟨⟨⟨h1, h2⟩, h3⟩, h4⟩ := hb
  refine wp_region_noPanic (wp_region_any hm ?_)
  have hc : ClosedL ops (Array.replicate ops.size false) := fun k o ho hk => by
    have hk' := (Array.getElem?_eq_some_iff.1 ho).1
    simp [hk'] at hk
  have h5 := wpAny_of_L _ _ _ _ (wpSeqL_sound h1 h3 (fun _ _ _ _ _ h => h) l _ a _ h4 hc (by simp) (fun _ => hS) h)
  rw [h2] at h5
  exact h5
variable {r : List (Nat × Nat)} {i : Nat} {o : Oper} {d : Option Tmp} {a : Act} {w : World}
theorem sl_end (h : Q .normal a w) : wpSeqL P ops (NoPanic Q) S [] a w := h
theorem sl_q (ho : ops[i]? = some o) (hd : o.dst = d) (hw : Region.wanted o (yielded ops a.tmps) = true) (v : Value) (hy : ∀ w, (execOp a.eval o).run P w = .ok (.value v) w) (h : wpSeqL P ops Q S r (a.put d v) w) : wpSeqL P ops Q S ((i, 0) :: r) a w := by
  subst hd
  exact ⟨o, ho, v, Or.inl ⟨hw, fun w _ => hy w⟩, h⟩
theorem sl_s (ho : ops[i]? = some o) (hd : o.dst = d) (hw : Region.wanted o (yielded ops a.tmps) = true) (v : Value) (hy : ∀ w, S w → (execOp a.eval o).run P w = .ok (.value v) w) (h : wpSeqL P ops Q S r (a.put d v) w) : wpSeqL P ops Q S ((i, 1) :: r) a w := by
  subst hd
  exact ⟨o, ho, v, Or.inl ⟨hw, hy⟩, h⟩
theorem sl_off (ho : ops[i]? = some o) (hd : o.dst = d) (hw : Region.wanted o (yielded ops a.tmps) = false) (h : wpSeqL P ops Q S r (a.put d undef) w) : wpSeqL P ops Q S ((i, 0) :: r) a w := by
  subst hd
  exact ⟨o, ho, undef, Or.inr ⟨hw, rfl⟩, h⟩
theorem sl_load (ho : ops[i]? = some o) (hd : o.dst = d) (hw : Region.wanted o (yielded ops a.tmps) = true) (ty : TypeId) (x : Operand) (hop : o.op = .load ty x) (ad : Addr) (hx : a.eval x = .pointer (some ad)) (v : Value) (hy : ∀ w, S w → (loadVar ty ad).run P w = .ok v w) (h : wpSeqL P ops Q S r (a.put d v) w) : wpSeqL P ops Q S ((i, 1) :: r) a w := by
  subst hd
  exact ⟨o, ho, v, yields_load hw ty x hop ad hx hy, h⟩
theorem sl_wp (ho : ops[i]? = some o) (hw : Region.wanted o (yielded ops a.tmps) = true) (h : ∀ K : Act → World → Prop, (∀ a' w', (r.any (fun x => x.2 == 2) = true → S w') → wpSeqL P ops Q S r a' w' → K a' w') → Oper.wp P o a w K Q) : wpSeqL P ops Q S ((i, 2) :: r) a w :=
  ⟨o, ho, by rw [if_pos hw]; exact h _ (fun _ _ hs hr => ⟨hs, hr⟩)⟩
theorem sl_run (ho : ops[i]? = some o) (hd : o.dst = d) (hw : Region.wanted o (yielded ops a.tmps) = true) (v : Value) (w' : World) (hrun : (execOp a.eval o).run P w = .ok (.value v) w') (hS : r.any (fun x => x.2 == 2) = true → S w') (h : wpSeqL P ops Q S r (a.put d v) w') : wpSeqL P ops Q S ((i, 2) :: r) a w := by
  subst hd
  refine sl_wp ho hw fun K hK => ?_
  unfold Oper.wp
  rw [hrun]
  exact hK _ _ hS h
theorem sl_skip (ho : ops[i]? = some o) (hd : o.dst = d) (hw : Region.wanted o (yielded ops a.tmps) = true) (w' : World) (hrun : (execOp a.eval o).run P w = .ok .skip w') (hS : r.any (fun x => x.2 == 2) = true → S w') (h : wpSeqL P ops Q S r (a.put d undef) w') : wpSeqL P ops Q S ((i, 2) :: r) a w := by
  subst hd
  refine sl_wp ho hw fun K hK => ?_
  unfold Oper.wp
  rw [hrun]
  exact hK _ _ hS h
theorem sl_call (ho : ops[i]? = some o) (hd : o.dst = d) (hw : Region.wanted o (yielded ops a.tmps) = true) {f : FuncId} (hf : Has P f) (fo : Operand) (args : Array Operand) (ts : Array TypeId) (hop : o.op = .call { callee := .value fo, args := args, argTypes := ts }) (hfo : a.eval fo = .func (.func f) #[] #[]) (vs : List Value) (hv : args.toList.map a.eval = vs)
    {R : Ending → World → Prop} (hc : Calls P f vs.toArray w R) (h : ∀ e w', R e w' → ∃ v, e = .returned v ∧ (r.any (fun x => x.2 == 2) = true → S w') ∧ wpSeqL P ops Q S r (a.put d v) w') : wpSeqL P ops Q S ((i, 2) :: r) a w := by
  subst hd
  refine sl_wp ho hw fun K hK => ?_
  unfold Oper.wp
  rw [run_call hf fo args ts hop hfo vs hv, Oper.upon_enter]
  refine hc.mono fun e w' hr => ?_
  obtain ⟨v, rfl, h1, h2⟩ := h e w' hr
  exact hK _ _ h1 h2
theorem sl_invoke (ho : ops[i]? = some o) (hd : o.dst = d) (hw : Region.wanted o (yielded ops a.tmps) = true) {ty : TypeId} {v u : Value} {name : String} {f : FuncId} (hm : MethB P ty v name f u) (ro : Operand) (args : Array Operand) (ts : Array TypeId) (hop : o.op = .call { callee := .invoke ro name, args := args, argTypes := ts }) (hr : a.eval ro = .iface ty v) (vs : List Value) (hv : args.toList.map a.eval = vs)
    {R : Ending → World → Prop} (hc : Calls P f (u :: vs).toArray w R) (h : ∀ e w', R e w' → ∃ v, e = .returned v ∧ (r.any (fun x => x.2 == 2) = true → S w') ∧ wpSeqL P ops Q S r (a.put d v) w') : wpSeqL P ops Q S ((i, 2) :: r) a w := by
  subst hd
  refine sl_wp ho hw fun K hK => ?_
  unfold Oper.wp
  rw [run_invoke hm ro args ts hop hr vs hv, Oper.upon_enter]
  refine hc.mono fun e w' hr => ?_
  obtain ⟨v, rfl, h1, h2⟩ := h e w' hr
  exact hK _ _ h1 h2
theorem run_append (s x : Operand) (ts : Array TypeId) (ho : o.op = .call { callee := .builtin .append, args := #[s, x], argTypes := ts }) (v xv : Value) (hs : a.eval s = v) (hx : a.eval x = xv) {v' : Value} {w' : World}
    (hrun : (Builtin.append_ ts o.type #[v, xv]).run P w = .ok v' w') : (execOp a.eval o).run P w = .ok (.value v') w' := by
  unfold execOp
  simp only [ho, resolve, invoke, builtin, Sem.run_bind, Sem.run_pure, Result.andThen_ok, List.map_toArray, List.map_cons, List.map_nil, hs, hx, hrun]
end
end Go.Proofs.YtmmmebdgannpgaaGreatDoor
/- The program's clock: Date. -/
namespace Go.Proofs.YtmmmebdgannpgaaGreatDoor
open Go Go.RowKit

/-- The cells of a date. -/
def civ (y m d h mi : Nat) : List Value := [.int .i64 y, .int .i64 m, .int .i64 d, .int .i64 h, .int .i64 mi]
/-- What Date gives. -/
def DateIs (minute : Int) (w : World) (e : Ending) (w' : World) : Prop := Below w.heap.size w w' ∧
  ((inM minute = false ∧ e = .returned (.tuple #[.agg (civ 0 0 0 0 0).toArray, .int .i64 1])) ∨
    ∃ M y m d h mi : Nat, minute = M ∧ DateOf M y m d h mi ∧ e = .returned (.tuple #[.agg (civ y m d h mi).toArray, .int .i64 0]))
/-- The variable in block c, the result's block. -/
structure DtS (w : World) (c r : Nat) (cs : List Value) (wr : World) : Prop where
  x : RowAt wr c cs
  y : RowAt wr r (civ 0 0 0 0 0)
  b : Below w.heap.size w wr
  hc : w.heap.size ≤ c
  hr : w.heap.size ≤ r
  hn : c ≠ r
section
variable {w wr w' : World} {c r : Nat} {cs : List Value}
theorem DtS.set (h : DtS w c r cs wr) (j : Nat) (hj : j < cs.length) (u : Value) : DtS w c r (cs.set j u) (wr.setCell ⟨c, j, none⟩ u) :=
  ⟨h.x.set j hj u, h.y.other (by simp; exact h.hn) u, h.b.setCell (p := ⟨c, j, none⟩) h.hc u, h.hc, h.hr, h.hn⟩
theorem DtS.new (h : DtS w c r cs wr) (hb : Below wr.heap.size wr w') : DtS w c r cs w' := ⟨h.x.below hb, h.y.below hb, below_then h.b hb, h.hc, h.hr, h.hn⟩
theorem DtS.drew (h : DtS w c r cs wr) : DtS w c r cs wr.drew := h.new ((Below.refl _ _).drew)
end
theorem rowT_civ : RowT 133 5 := ⟨by kernel_rfl, _, Tryz.underlying133, rfl⟩
theorem inM_nat {m : Int} (h : inM m = true) : ∃ M : Nat, m = M ∧ M ≤ 52595999 := by
  unfold inM at h
  simp at h
  exact ⟨m.toNat, by omega, by omega⟩
theorem inM_of {M : Nat} (h : M ≤ 52595999) : inM (M : Int) = true := by unfold inM; simp; omega
theorem fst_2000 : fstY 2000 = 0 := by decide
theorem fst_2100 : fstY (2099 + 1) = 52596000 := by decide
/-- The months' lengths as a value. -/
theorem len_ix_l (i : Nat) (hi : i < 12) (w : World) : ∃ x : Int, (Instr.index 157 (.agg #[.int .i64 31, .int .i64 29, .int .i64 31, .int .i64 30, .int .i64 31, .int .i64 30, .int .i64 31, .int .i64 31, .int .i64 30, .int .i64 31, .int .i64 30, .int .i64 31]) (.int .i64 i)).run Tryz.prog w = .ok (.int .i64 x) w ∧ ∀ y, y % 4 = 0 → x = lenM y (i + 1) := by
  have : i = 0 ∨ i = 1 ∨ i = 2 ∨ i = 3 ∨ i = 4 ∨ i = 5 ∨ i = 6 ∨ i = 7 ∨ i = 8 ∨ i = 9 ∨ i = 10 ∨ i = 11 := by omega
  rcases this with rfl | rfl | rfl | rfl | rfl | rfl | rfl | rfl | rfl | rfl | rfl | rfl
  · exact ⟨31, by kernel_rfl, fun y hy => by simp [lenM, hy]⟩
  · exact ⟨29, by kernel_rfl, fun y hy => by simp [lenM, hy]⟩
  · exact ⟨31, by kernel_rfl, fun y hy => by simp [lenM, hy]⟩
  · exact ⟨30, by kernel_rfl, fun y hy => by simp [lenM, hy]⟩
  · exact ⟨31, by kernel_rfl, fun y hy => by simp [lenM, hy]⟩
  · exact ⟨30, by kernel_rfl, fun y hy => by simp [lenM, hy]⟩
  · exact ⟨31, by kernel_rfl, fun y hy => by simp [lenM, hy]⟩
  · exact ⟨31, by kernel_rfl, fun y hy => by simp [lenM, hy]⟩
  · exact ⟨30, by kernel_rfl, fun y hy => by simp [lenM, hy]⟩
  · exact ⟨31, by kernel_rfl, fun y hy => by simp [lenM, hy]⟩
  · exact ⟨30, by kernel_rfl, fun y hy => by simp [lenM, hy]⟩
  · exact ⟨31, by kernel_rfl, fun y hy => by simp [lenM, hy]⟩
theorem len_ix_n (i : Nat) (hi : i < 12) (w : World) : ∃ x : Int, (Instr.index 157 (.agg #[.int .i64 31, .int .i64 28, .int .i64 31, .int .i64 30, .int .i64 31, .int .i64 30, .int .i64 31, .int .i64 31, .int .i64 30, .int .i64 31, .int .i64 30, .int .i64 31]) (.int .i64 i)).run Tryz.prog w = .ok (.int .i64 x) w ∧ ∀ y, y % 4 ≠ 0 → x = lenM y (i + 1) := by
  have : i = 0 ∨ i = 1 ∨ i = 2 ∨ i = 3 ∨ i = 4 ∨ i = 5 ∨ i = 6 ∨ i = 7 ∨ i = 8 ∨ i = 9 ∨ i = 10 ∨ i = 11 := by omega
  rcases this with rfl | rfl | rfl | rfl | rfl | rfl | rfl | rfl | rfl | rfl | rfl | rfl
  · exact ⟨31, by kernel_rfl, fun y hy => by simp [lenM, hy]⟩
  · exact ⟨28, by kernel_rfl, fun y hy => by simp [lenM, hy]⟩
  · exact ⟨31, by kernel_rfl, fun y hy => by simp [lenM, hy]⟩
  · exact ⟨30, by kernel_rfl, fun y hy => by simp [lenM, hy]⟩
  · exact ⟨31, by kernel_rfl, fun y hy => by simp [lenM, hy]⟩
  · exact ⟨30, by kernel_rfl, fun y hy => by simp [lenM, hy]⟩
  · exact ⟨31, by kernel_rfl, fun y hy => by simp [lenM, hy]⟩
  · exact ⟨31, by kernel_rfl, fun y hy => by simp [lenM, hy]⟩
  · exact ⟨30, by kernel_rfl, fun y hy => by simp [lenM, hy]⟩
  · exact ⟨31, by kernel_rfl, fun y hy => by simp [lenM, hy]⟩
  · exact ⟨30, by kernel_rfl, fun y hy => by simp [lenM, hy]⟩
  · exact ⟨31, by kernel_rfl, fun y hy => by simp [lenM, hy]⟩
theorem lenV_is (y : Nat) : ∃ A : Array Value, lenV y = .agg A ∧ ∀ i : Nat, i < 12 → ∀ w, (Instr.index 157 (.agg A) (.int .i64 i)).run Tryz.prog w = .ok (.int .i64 (lenM y (i + 1) : Nat)) w := by
  unfold lenV
  by_cases hy : y % 4 = 0
  · rw [if_pos hy]
    refine ⟨_, rfl, fun i hi w => ?_⟩
    obtain ⟨x, h1, h2⟩ := len_ix_l i hi w
    rw [← h2 y hy]; exact h1
  · rw [if_neg hy]
    refine ⟨_, rfl, fun i hi w => ?_⟩
    obtain ⟨x, h1, h2⟩ := len_ix_n i hi w
    rw [← h2 y hy]; exact h1

theorem date_out (m : Int) (hm : inM m = false) (w : World) : Calls Tryz.prog 82 #[.int .i64 m] w (DateIs m w) := by
  go_enter Tryz.func82, Tryz.ntmps82
  go_wp2_with fail
  refine (in_any m _).mono ?_
  rintro e w1 ⟨rfl, rfl⟩
  rw [hm]
  go_wp2_with fail
  exact bodyPost_ret (v := .tuple #[.agg (civ 0 0 0 0 0).toArray, .int .i64 1]) (by simp [results, Tryz.results82, go_sem, civ]) rfl ⟨(Below.refl _ _).alloc (Nat.le_refl _) _, .inl ⟨hm, rfl⟩⟩

set_option maxHeartbeats 8000000 in
set_option maxRecDepth 100000 in
theorem date_in (M : Nat) (hM : M ≤ 52595999) (w : World) : Calls Tryz.prog 82 #[.int .i64 M] w (DateIs M w) := by
  have HI := Lib.hid (inM_of hM)
  go_enter Tryz.func82, Tryz.ntmps82
  go_wp2_with fail
  refine (in_any M _).mono ?_
  rintro e w1 ⟨rfl, rfl⟩
  rw [HI.out]
  go_wp2_with fail
  have H0 : Hid (DtS w (w.heap.size + 1) w.heap.size (civ 2000 1 0 0 0) ((w.alloc (.cells #[.int .i64 0, .int .i64 0, .int .i64 0, .int .i64 0, .int .i64 0] 133)).alloc (.cells #[.int .i64 2000, .int .i64 1, .int .i64 0, .int .i64 0, .int .i64 0] 133))) :=
    ⟨RowAt.new _ (civ 2000 1 0 0 0) (by simp [civ]) _ (by simp), (RowAt.new w (civ 0 0 0 0 0) (by simp [civ]) _ rfl).alloc _, ((Below.refl _ _).alloc (Nat.le_refl _) _).alloc (by simp) _, by omega, Nat.le_refl _, by omega⟩
  generalize ((w.alloc (.cells #[.int .i64 0, .int .i64 0, .int .i64 0, .int .i64 0, .int .i64 0] 133)).alloc (.cells #[.int .i64 2000, .int .i64 1, .int .i64 0, .int .i64 0, .int .i64 0] 133)) = wx at H0 ⊢
  generalize hr : w.heap.size = r at *
  generalize r + 1 = c at *
  clear hr
  go_loopw [22] (fun _ wr => ∃ k : Nat, 2000 ≤ k ∧ k ≤ 2099 ∧ fstY k ≤ M ∧ Hid (DtS w c r (civ k 1 0 0 0) wr)) (fun _ wr => (3000 - intOf ((wr.cell? ⟨c, 0, none⟩).getD undef)).toNat)
  case atStart => exact ⟨2000, by omega, by omega, by rw [fst_2000]; omega, H0⟩
  case round =>
    clear H0
    obtain ⟨k, k0, k1, kM, HS⟩ := hrel
    have c0 : wr.cell? ⟨c, 0, none⟩ = some (.int .i64 k) := HS.out.x.at 0 rfl
    have f0 : wr.frozen? ⟨c, 0, none⟩ = false := HS.out.x.2.2 0 (by simp [civ])
    have F1 : Hid (∀ w, Calls Tryz.prog 101 #[.int .i64 ((k : Int) + 1)] w fun e w' => e = .returned (.int .i64 (fstY (k + 1) : Nat)) ∧ w = w') := fun w => first_any (k + 1) (by omega) (by omega) w
    have F0 : Hid (∀ w, Calls Tryz.prog 101 #[.int .i64 (k : Int)] w fun e w' => e = .returned (.int .i64 (fstY k : Nat)) ∧ w = w') := fun w => first_any k (by omega) (by omega) w
    by_cases hlt : fstY (k + 1) ≤ M
    · have hk : k + 1 ≤ 2099 := by
        have := fst_2100
        rcases Nat.lt_or_ge k 2099 with h | h
        · omega
        · obtain rfl : k = 2099 := by omega
          omega
      have HL := Lib.hid hlt
      have c1 : (wr.setCell ⟨c, 0, none⟩ (.int .i64 ((k : Int) + 1))).cell? ⟨c, 0, none⟩ = some (.int .i64 ((k : Int) + 1)) := World.cell?_setCell_same _ _ _ c0
      have hfM : (fstY (k + 1) : Int) ≤ (M : Int) := by omega
      go_wp2_with fail
      refine (F1.out _).mono ?_
      rintro e w1 ⟨rfl, rfl⟩
      go_wp2_with fail
      go_roundw
      case rel => exact ⟨k + 1, by omega, hk, HL.out, HS.out.set 0 (by simp [civ]) _⟩
      case measure => simp [intOf, c0, c1]; omega
    · have hfM : ¬ ((fstY (k + 1) : Nat) : Int) ≤ (M : Int) := by omega
      have HK : Hid (fstY (k + 1) = fstY k + 1440 * lenY k) := fstY_succ k0
      have HN : Hid (¬ fstY (k + 1) ≤ M) := hlt
      obtain ⟨R, hR⟩ : ∃ R, R = M - fstY k := ⟨_, rfl⟩
      have e0 : (M : Int) - (fstY k : Nat) = (R : Nat) := by omega
      have HRl : Hid (R < 1440 * lenY k) := by have := HK.out; unfold Hid; omega
      have HR : Hid (M = fstY k + R) := by unfold Hid; omega
      have HL := Lib.hid (fun w => lengths_any k k0 (by omega) w)
      have hR0 : (R : Int) ≤ 52595999 := by omega
      generalize fstY (k + 1) = f1 at *
      generalize hf0 : fstY k = f0 at *
      have HF0 := Lib.hid hf0
      clear hlt HK HN hR hf0
      go_wp2_with fail
      refine (F1.out _).mono ?_
      rintro e w1 ⟨rfl, rfl⟩
      go_wp2_with fail
      refine (F0.out _).mono ?_
      rintro e w1 ⟨rfl, rfl⟩
      go_wp2_with fail
      refine (HL.out _).mono ?_
      rintro e w1 ⟨rfl, hb⟩
      have HS1 := Lib.hid (HS.out.new hb)
      clear hb HS c0 F0 F1
      obtain ⟨A, hA, hAi⟩ := lenV_is k
      rw [hA]
      have HAi := Lib.hid hAi
      clear hA hAi
      obtain ⟨D, hD⟩ : ∃ D, D = R / 1440 := ⟨_, rfl⟩
      have eD : (R : Int) / 1440 = (D : Nat) := by rw [hD]; rfl
      have HD : Hid (D < lenY k ∧ D = R / 1440) := by have := HRl.out; unfold Hid; omega
      have hDb : (D : Int) ≤ 40000 := by omega
      clear hD HRl e0
      go_wp2_with fail
      go_loopw [6, 34] (fun dv iv wr => ∃ j : Nat, j ≤ 11 ∧ iv = .int .i64 j ∧ dv = .int .i64 (D - cumM k j : Nat) ∧ cumM k j ≤ D ∧ Hid (DtS w c r (civ k (j + 1) 0 0 0) wr)) (fun _ iv _ => (3000 - intOf iv).toNat)
      case atStart => exact ⟨0, by omega, rfl, by simp [cumM], by simp [cumM], HS1⟩
      case round =>
        clear HS1
        obtain ⟨j, j1, rfl, rfl, jD, HS⟩ := hrel
        have hAj := HAi.out j (by omega)
        have c1 : wr.cell? ⟨c, 1, none⟩ = some (.int .i64 ((j : Int) + 1)) := HS.out.x.at 1 rfl
        have g1 : wr.frozen? ⟨c, 1, none⟩ = false := HS.out.x.2.2 1 (by simp [civ])
        have HC : Hid (cumM k (j + 1) = cumM k j + lenM k (j + 1)) := rfl
        have hlm := lenM_pos k (j + 1)
        have hcm := cumM_le (y := k) (m := j) (by omega)
        generalize hlm' : lenM k (j + 1) = ln at *
        generalize hdm : D - cumM k j = dm at *
        have hdmb : dm ≤ D := by omega
        by_cases hlt : dm < ln
        · have hlti : (dm : Int) < (ln : Int) := by omega
          have c0 : wr.cell? ⟨c, 0, none⟩ = some (.int .i64 k) := HS.out.x.at 0 rfl
          have c2 : wr.cell? ⟨c, 2, none⟩ = some (.int .i64 0) := HS.out.x.at 2 rfl
          have c3 : wr.cell? ⟨c, 3, none⟩ = some (.int .i64 0) := HS.out.x.at 3 rfl
          have c4 : wr.cell? ⟨c, 4, none⟩ = some (.int .i64 0) := HS.out.x.at 4 rfl
          have g2 : wr.frozen? ⟨c, 2, none⟩ = false := HS.out.x.2.2 2 (by simp [civ])
          have g3 : wr.frozen? ⟨c, 3, none⟩ = false := HS.out.x.2.2 3 (by simp [civ])
          have g4 : wr.frozen? ⟨c, 4, none⟩ = false := HS.out.x.2.2 4 (by simp [civ])
          have HS4 : Hid (DtS w c r [.int .i64 k, .int .i64 ((j : Int) + 1), .int .i64 ((dm : Int) + 1), .int .i64 ((R : Int) % 1440 / 60), .int .i64 ((R : Int) % 60)] (((wr.setCell ⟨c, 2, none⟩ (.int .i64 ((dm : Int) + 1))).setCell ⟨c, 3, none⟩ (.int .i64 ((R : Int) % 1440 / 60))).setCell ⟨c, 4, none⟩ (.int .i64 ((R : Int) % 60)))) :=
            ((HS.out.set 2 (by simp [civ]) _).set 3 (by simp [civ]) _).set 4 (by simp [civ]) _
          have HE : Hid (DateOf M k (j + 1) (dm + 1) (R % 1440 / 60) (R % 60)) := by
            have h1 := HD.out.2
            have h2 := HR.out
            have h3 := HF0.out
            refine ⟨k0, k1, by omega, by omega, by omega, by rw [hlm']; omega, by omega, by omega, ?_⟩
            rw [h3, h2, Nat.add_sub_cancel, Nat.add_sub_cancel]
            omega
          go_wp2_with (first
            | ((first | with_reducible refine gate_st ?_ | with_reducible refine gate_stw ?_)
               refine row_store rfl _ _ rfl r rfl (civ 0 0 0 0 0) [.int .i64 k, .int .i64 ((j : Int) + 1), .int .i64 ((dm : Int) + 1), .int .i64 ((R : Int) % 1440 / 60), .int .i64 ((R : Int) % 60)] rfl HS4.out.y rfl rowT_civ (List.all_eq_true.1 rfl) ?_
               intro wz HRow Hap)
            | fail)
          refine ret_row2 rfl _ _ (.int .i64 0) HRow rowT_civ rfl rfl rfl ⟨HS4.out.b.trans (Hap.below HS4.out.hr), .inr ⟨M, k, j + 1, dm + 1, R % 1440 / 60, R % 60, rfl, HE.out, rfl⟩⟩
        · have hge : ¬ (dm : Int) < (ln : Int) := by omega
          have HJ : Hid (j + 1 ≤ 11 ∧ cumM k (j + 1) ≤ D ∧ D - cumM k (j + 1) = dm - ln) := by
            have h1 := HC.out
            have h2 : cumM k (j + 1) ≤ D := by omega
            refine ⟨?_, h2, by omega⟩
            rcases Nat.lt_or_ge j 11 with h | h
            · omega
            · obtain rfl : j = 11 := by omega
              have h3 : cumM k (11 + 1) = lenY k := cumM_all k
              have h4 := HD.out.1
              omega
          have hsub : IntKind.i64.wrap ((dm : Int) - (ln : Int)) = ((dm - ln : Nat) : Int) := by rw [IntWalk.i64_in _ (by omega)]; omega
          have hadd : IntKind.i64.wrap ((j : Int) + 1 + 1) = (j : Int) + 1 + 1 := IntWalk.i64_in _ (by omega)
          go_wp2_with fail
          refine wp_region_seqL (by kernel_rfl) (fun w' => w'.cell? ⟨c, 1, none⟩ = some (.int .i64 ((j : Int) + 1))) 8 [(0, 0), (1, 0), (2, 0), (3, 0), (4, 1), (5, 0), (6, 0), (7, 0), (8, 2)] (by kernel_rfl) (c1) ?_
          refine sl_q (d := some 40) rfl rfl rfl (.int .i64 (dm : Nat)) (fun w => rfl) ?_
          simp only [Act.put, List.setIfInBounds_toArray, List.set_cons_zero, List.set_cons_succ]
          refine sl_q (d := some 41) rfl rfl rfl (.int .i64 (ln : Nat)) (fun w => rfl) ?_
          simp only [Act.put, List.setIfInBounds_toArray, List.set_cons_zero, List.set_cons_succ]
          refine sl_q (d := some 42) rfl rfl rfl (.int .i64 ((dm - ln : Nat) : Int)) (fun w => by simp [execOp, Act.eval, go_sem, hsub]) ?_
          simp only [Act.put, List.setIfInBounds_toArray, List.set_cons_zero, List.set_cons_succ]
          refine sl_q (d := some 43) rfl rfl rfl (.pointer (some ⟨c, 1, none⟩)) (fun w => by go_simp) ?_
          simp only [Act.put, List.setIfInBounds_toArray, List.set_cons_zero, List.set_cons_succ]
          refine sl_s (d := some 44) rfl rfl rfl (.int .i64 ((j : Int) + 1)) (fun w hw => by simp [execOp, Act.eval, go_sem, hw]) ?_
          simp only [Act.put, List.setIfInBounds_toArray, List.set_cons_zero, List.set_cons_succ]
          refine sl_q (d := some 45) rfl rfl rfl (.int .i64 ((j : Int) + 1 + 1)) (fun w => by simp [execOp, Act.eval, go_sem, hadd]) ?_
          simp only [Act.put, List.setIfInBounds_toArray, List.set_cons_zero, List.set_cons_succ]
          refine sl_q (d := some 6) rfl rfl rfl (.int .i64 ((dm - ln : Nat) : Int)) (fun w => rfl) ?_
          simp only [Act.put, List.setIfInBounds_toArray, List.set_cons_zero, List.set_cons_succ]
          refine sl_q (d := some 46) rfl rfl rfl (.pointer (some ⟨c, 1, none⟩)) (fun w => by go_simp) ?_
          simp only [Act.put, List.setIfInBounds_toArray, List.set_cons_zero, List.set_cons_succ]
          refine sl_skip (d := none) rfl rfl rfl (wr.drew.setCell ⟨c, 1, none⟩ (.int .i64 ((j : Int) + 1 + 1))) (by simp [execOp, Act.eval, go_sem, c1, g1]) (fun h => by cases h) ?_
          simp only [Act.put, List.setIfInBounds_toArray, List.set_cons_zero, List.set_cons_succ]
          refine sl_end ?_
          go_wp2_with fail
          go_roundw
          case rel => exact ⟨j + 1, HJ.out.1, by go_num, by rw [HJ.out.2.2], HJ.out.2.1, HS.out.drew.set 1 (by simp [civ]) _⟩
          case measure => simp [intOf]; omega
theorem date_any (m : Int) (w : World) : Calls Tryz.prog 82 #[.int .i64 m] w (DateIs m w) := by
  cases h : inM m with
  | false => exact date_out m h w
  | true =>
    obtain ⟨M, rfl, hM⟩ := inM_nat h
    exact date_in M hM w
end Go.Proofs.YtmmmebdgannpgaaGreatDoor
/- The monitor's reference: digits and decimal. -/
namespace Go.Proofs.YtmmmebdgannpgaaGreatDoor
open Go Go.RowKit

theorem dig_nat (x : Nat) (h : x < 10) : (UInt8.ofNat (48 + x)).toNat = 48 + x := (by decide : ∀ y : Fin 10, (UInt8.ofNat (48 + y.1)).toNat = 48 + y.1) ⟨x, h⟩
/-- The text of a number. -/
def istr (n : Int) : ByteArray := ⟨(Lib.itoa n).toArray⟩
theorem conv_one (w : World) (c : UInt8) {z : Int} (hz : z = c.toNat) : (convert 22 9 (.slice (some ⟨w.heap.size, 0, none⟩) 1 1)).run Tryz.prog (w.alloc (.cells #[.int .u8 z] 5)) = .ok (.string ⟨#[c]⟩) (w.alloc (.cells #[.int .u8 z] 5)) := by
  subst hz
  exact run_convert_bytes_back (P := Tryz.prog) _ 22 9 5 ⟨w.heap.size, 0, none⟩ 1 [c] Tryz.underlying22 Tryz.underlying5 Tryz.underlying9 (fun j hj => by
    obtain rfl : j = 0 := by simp at hj; omega
    exact World.news_of_block (cs := #[.int .u8 c.toNat]) (t := 5) (fr := (0, 0)) (heap_alloc_new w _) 0 _ rfl)

theorem one_cell (w : World) (z : Int) : ((w.alloc (.cells #[.int .u8 z] 5)).drew).cell? ⟨w.heap.size, 0, none⟩ = some (.int .u8 z) := by simp
theorem conv_then {w w' : World} {H : Nat} {c : UInt8} {z : Int} (hz : z = c.toNat) (hb : Below w.heap.size w w') (hc : w.cell? ⟨H, 0, none⟩ = some (.int .u8 z)) :
    (convert 22 9 (.slice (some ⟨H, 0, none⟩) 1 1)).run Tryz.prog w' = .ok (.string ⟨#[c]⟩) w' := by
  subst hz
  exact run_convert_bytes_back (P := Tryz.prog) _ 22 9 5 ⟨H, 0, none⟩ 1 [c] Tryz.underlying22 Tryz.underlying5 Tryz.underlying9 (fun j hj => by
    obtain rfl : j = 0 := by simp at hj; omega
    exact cell_then hb hc)

set_option maxHeartbeats 1000000 in
set_option maxRecDepth 100000 in
theorem rdigits_any (u : Nat) (hu : u < 18446744073709551616) (w : World) :
    Calls Tryz.prog 67 #[.int .u64 u] w fun e w' => e = .returned (.string ⟨(Lib.decDigits u).toArray⟩) ∧ Below w.heap.size w w' := by
  induction u using Nat.strongRecOn generalizing w with
  | ind u ih =>
    by_cases h : u < 10
    · rw [Lib.decDigits_one h]
      have hd := dig_nat u h
      generalize UInt8.ofNat (48 + u) = c at *
      have hc := conv_one w c (z := (48 : Int) + u) (by rw [hd]; omega)
      clear hd
      go_enter Tryz.func67, Tryz.ntmps67
      go_wp2_with fail
      go_ret
      exact ⟨rfl, (Below.refl _ _).alloc (Nat.le_refl _) _⟩
    · have hds : Lib.decDigits u = Lib.decDigits (u / 10) ++ [UInt8.ofNat (48 + u % 10)] := by rw [Lib.decDigits, dif_neg h]
      have hd := dig_nat (u % 10) (by omega)
      rw [hds]
      have e1 : IntKind.u64.wrap ((u : Int) / 10) = ((u / 10 : Nat) : Int) := by
        rw [IntWalk.u64_in _ (by omega)]; omega
      have hrec : ∀ w, Calls Tryz.prog 67 #[.int .u64 (IntKind.u64.wrap ((u : Int) / 10))] w fun e w' => e = .returned (.string ⟨(Lib.decDigits (u / 10)).toArray⟩) ∧ Below w.heap.size w w' := fun w => by
        rw [e1]; exact ih (u / 10) (by omega) (by omega) w
      have Hrec := Lib.hid hrec
      generalize UInt8.ofNat (48 + u % 10) = c at *
      have ez : IntKind.u8.wrap (IntKind.u64.wrap (48 + (u : Int).tmod 10)) = (c.toNat : Int) := by
        rw [Int.tmod_eq_emod_of_nonneg (by omega), IntWalk.u64_in _ (by omega), IntWalk.u8_in _ (by omega), hd]; omega
      have hc := fun w => conv_one w c ez
      have hc2 : ∀ w : World, (convert 22 9 (.slice (some ⟨w.heap.size, 0, none⟩) 1 1)).run Tryz.prog (w.alloc (.cells #[.int .u8 (IntKind.u8.wrap (IntKind.u64.wrap (48 + (u : Int).tmod 10)))] 5)).drew = .ok (.string ⟨#[c]⟩) (w.alloc (.cells #[.int .u8 (IntKind.u8.wrap (IntKind.u64.wrap (48 + (u : Int).tmod 10)))] 5)).drew := fun w => conv_then ez (Below.refl _ _) (one_cell w _)
      have Ez := Lib.hid ez
      clear hd hrec hds ih e1 ez
      have hdn : (Lib.decDigits (u / 10)).length ≤ 20 := by rw [Lib.decDigits_length]; exact Lib.nDigits_le20 _ (by omega)
      generalize Lib.decDigits (u / 10) = ds at *
      have hdl : ¬ 9223372036854775807 < ds.length + 1 := by omega
      go_enter Tryz.func67, Tryz.ntmps67
      go_wp2_with fail
      go_region_with (go_at_call 67; ((with_reducible refine (Hrec.out _).mono ?_); rintro e w' ⟨rfl, hb⟩; (first | (have hcv := conv_then (H := w.heap.size) Ez.out hb (one_cell w _); have hbF : Below w.heap.size w w' := below_then ((Below.refl _ _).alloc (Nat.le_refl _) _).drew hb) | (have hbF : Below w.heap.size w w' := below_then (Below.refl _ _).drew hb))))
      all_goals
        have hres : (⟨ds.toArray⟩ ++ ⟨#[c]⟩ : ByteArray) = ⟨(ds ++ [c]).toArray⟩ := by apply ByteArray.ext; simp [ByteArray.data_append]
        have Hres := Lib.hid hres
        clear hres
        go_wp2_with fail
        go_ret
        exact ⟨by rw [← Hres.out]; rfl, by first | exact hbF | exact hbF.alloc hbF.size _⟩
set_option maxHeartbeats 1000000 in
set_option maxRecDepth 100000 in
theorem rdecimal_any (n : Int) (hn : I64 n) (w : World) :
    Calls Tryz.prog 33 #[.int .i64 n] w fun e w' => e = .returned (.string (istr n)) ∧ Below w.heap.size w w' := by
  have hlo := hn.1
  have hhi := hn.2
  by_cases h : n < 0
  · have e1 : IntKind.u64.wrap n = n + 18446744073709551616 := by simp [IntKind.wrap, IntKind.bits, IntKind.signed]; omega
    have e2 : IntKind.u64.wrap (-(n + 18446744073709551616)) = ((n.natAbs : Nat) : Int) := by simp [IntKind.wrap, IntKind.bits, IntKind.signed]; omega
    have hs : istr n = ⟨#[45]⟩ ++ ⟨(Lib.decDigits n.natAbs).toArray⟩ := by
      unfold istr Lib.itoa
      rw [if_pos h]
      apply ByteArray.ext; simp [ByteArray.data_append]
    have hd := fun w => rdigits_any n.natAbs (by omega) w
    have Hd := Lib.hid hd
    have Hs := Lib.hid hs
    have hdn : (Lib.decDigits n.natAbs).length ≤ 20 := by rw [Lib.decDigits_length]; exact Lib.nDigits_le20 _ (by omega)
    clear hd hs
    generalize Lib.decDigits n.natAbs = ds at *
    generalize n.natAbs = m at *
    go_enter Tryz.func33, Tryz.ntmps33
    go_wp2_with fail
    refine (Hd.out _).mono ?_
    rintro e w1 ⟨rfl, hb⟩
    have hadd : ∀ w', (Op.stringOp .add ⟨#[45]⟩ ⟨ds.toArray⟩).run Tryz.prog w' = .ok (.string (⟨#[45]⟩ ++ ⟨ds.toArray⟩)) w' := fun w' => run_string_add_sum _ _ _ (by simp [ByteArray.size]; omega)
    clear e1 e2
    go_wp2_with fail
    go_ret
    exact ⟨by rw [Hs.out]; rfl, hb⟩
  · obtain ⟨u, rfl⟩ : ∃ u : Nat, n = u := ⟨n.toNat, by omega⟩
    have e1 : IntKind.u64.wrap (u : Int) = u := IntWalk.u64_in _ (by omega)
    have hs : istr (u : Int) = ⟨(Lib.decDigits u).toArray⟩ := by
      unfold istr Lib.itoa
      rw [if_neg h]; rfl
    have Hs := Lib.hid hs
    have hd := fun w => rdigits_any u (by omega) w
    have Hd := Lib.hid hd
    clear hs hd
    generalize Lib.decDigits u = ds at *
    go_enter Tryz.func33, Tryz.ntmps33
    go_wp2_with fail
    refine (Hd.out _).mono ?_
    rintro e w1 ⟨rfl, hb⟩
    clear e1
    go_wp2_with fail
    go_ret
    exact ⟨by rw [Hs.out]; rfl, hb⟩
end Go.Proofs.YtmmmebdgannpgaaGreatDoor
/- The digits of a date, of the program (written into a list of bytes) and of its reference (a string). -/
namespace Go.Proofs.YtmmmebdgannpgaaGreatDoor
open Go Go.RowKit

/-- The last digit. -/
def dg (n : Nat) : UInt8 := UInt8.ofNat (48 + n % 10)
theorem dg_nat (n : Nat) : (dg n).toNat = 48 + n % 10 := dig_nat _ (by omega)
def dgv (n : Nat) : Value := .int .u8 ((dg n).toNat : Nat)
/-- Cells o to o + k - 1 become the last k digits. -/
def putD : List Value → Nat → Nat → Nat → List Value
  | cs, _, 0, _ => cs
  | cs, o, k + 1, n => putD (cs.set (o + k) (dgv n)) o k (n / 10)
/-- k digits ahead of what is written. -/
def padA : List UInt8 → Nat → Nat → List UInt8
  | s, 0, _ => s
  | s, k + 1, n => padA (dg n :: s) k (n / 10)
theorem putD_len (o : Nat) : ∀ (k : Nat) (cs : List Value) (n : Nat), (putD cs o k n).length = cs.length
  | 0, _, _ => rfl
  | k + 1, cs, n => by rw [putD, putD_len o k]; simp
/-- What the program's digits do: the cells of block g are turned. -/
structure Dgs (w : World) (g : Nat) (cs : List Value) (wr : World) : Prop where
  row : RowAt wr g cs
  ap : ApartR g w wr
theorem ApartR.refl (g : Nat) (w : World) : ApartR g w w := ⟨rfl, rfl, rfl, rfl, fun _ _ => rfl⟩
theorem ApartR.setCell {g : Nat} {w wr : World} (h : ApartR g w wr) (j : Nat) (u : Value) : ApartR g w (wr.setCell ⟨g, j, none⟩ u) := by
  obtain ⟨h1, h2, h3, h4, h5⟩ := h
  refine ⟨h1, h2, h3, by rw [← h4]; simp [World.setCell], fun k hk => ?_⟩
  rw [Below.heap_setCell _ _ _ _ (fun e => hk e)]; exact h5 k hk
theorem Dgs.set {w wr : World} {g : Nat} {cs : List Value} (h : Dgs w g cs wr) (j : Nat) (hj : j < cs.length) (u : Value) : Dgs w g (cs.set j u) (wr.setCell ⟨g, j, none⟩ u) := ⟨h.row.set j hj u, h.ap.setCell j u⟩

set_option maxHeartbeats 8000000 in
set_option maxRecDepth 100000 in
theorem digits_any (g o k c n : Nat) (cs : List Value) (w : World) (h : RowAt w g cs) (hk : o + k ≤ cs.length) (hk9 : cs.length ≤ 100) (hn : n ≤ 1000000) (hko : 1 ≤ k) :
    Calls Tryz.prog 83 #[.slice (some ⟨g, o, none⟩) k c, .int .i64 n] w fun e w' => e = .returned (.tuple #[]) ∧ Dgs w g (putD cs o k n) w' := by
  have H0 : Hid (Dgs w g cs w) := ⟨h, ApartR.refl _ _⟩
  obtain ⟨N, hN⟩ : ∃ N, N = cs.length := ⟨_, rfl⟩
  rw [← hN] at hk hk9
  have HN : Hid (N = cs.length) := hN
  clear h hN
  go_enter Tryz.func83, Tryz.ntmps83
  go_wp2_with fail
  go_loopw [1, 4] (fun nv iv wr => ∃ (j m : Nat) (ds : List Value), j ≤ k ∧ m ≤ 1000000 ∧ iv = .int .i64 ((j : Int) - 1) ∧ nv = .int .i64 m ∧ Hid (putD ds o j m = putD cs o k n ∧ ds.length = N) ∧ Hid (Dgs w g ds wr)) (fun _ iv _ => (intOf iv + 1).toNat)
  case atStart => exact ⟨k, n, cs, by omega, hn, rfl, rfl, ⟨rfl, HN.out.symm⟩, H0⟩
  case round =>
    clear H0
    obtain ⟨j, m, ds, hj, hm, rfl, rfl, HP, HS⟩ := hrel
    rcases Nat.eq_zero_or_pos j with hz | hz
    · subst hz
      go_wp2_with fail
      go_end0
      exact ⟨rfl, by rw [← HP.out.1]; exact HS.out⟩
    · obtain ⟨i, rfl⟩ := Nat.exists_eq_add_of_le' hz
      have hi : ((i + 1 : Nat) : Int) - 1 = (i : Int) := by omega
      rw [hi]
      have hl := HP.out.2
      have cc : wr.cell? ⟨g, o + i, none⟩ = some (ds.getD (o + i) undef) := HS.out.row.at (o + i) (by rw [List.getElem?_eq_getElem (by omega)]; simp [List.getD_eq_getElem?_getD, show o + i < ds.length by omega])
      have ff : wr.frozen? ⟨g, o + i, none⟩ = false := HS.out.row.2.2 (o + i) (by omega)
      have e0 : (i : Int) ≥ 0 := by omega
      have e1 : (i : Int) < (k : Int) := by omega
      have HD : Hid (dgv m = .int .u8 (48 + (m : Int) % 10)) := by unfold Hid dgv; rw [dg_nat]; congr 1
      have hw8 : IntKind.u8.wrap (48 + (m : Int) % 10) = 48 + (m : Int) % 10 := IntWalk.u8_in _ (by omega)
      clear hl
      go_wp2_with fail
      go_roundw
      case rel => exact ⟨i, m / 10, ds.set (o + i) (dgv m), by omega, by omega, rfl, rfl, ⟨HP.out.1, by rw [List.length_set]; exact HP.out.2⟩, by rw [HD.out]; exact HS.out.set (o + i) (by have := HP.out.2; omega) _⟩
      case measure => simp [intOf]

set_option maxHeartbeats 8000000 in
set_option maxRecDepth 100000 in
theorem rdig_any (n k : Nat) (hk : k ≤ 10) (hn : n ≤ 1000000) (w : World) :
    Calls Tryz.prog 87 #[.int .i64 n, .int .i64 k] w fun e w' => e = .returned (.string ⟨(padA [] k n).toArray⟩) ∧ Below w.heap.size w w' := by
  have HB : Hid (Below w.heap.size w w) := Below.refl _ _
  obtain ⟨wo, rfl⟩ : ∃ wo : World, wo = w := ⟨_, rfl⟩
  go_enter Tryz.func87, Tryz.ntmps87
  go_wp2_with fail
  go_loopw [0, 5, 6] (fun nv sv iv wr => ∃ (j m : Nat) (s : List UInt8), j ≤ k ∧ m ≤ 1000000 ∧ iv = .int .i64 j ∧ nv = .int .i64 m ∧ sv = .string ⟨s.toArray⟩ ∧ Hid (padA s (k - j) m = padA [] k n ∧ s.length = j) ∧ Hid (Below wo.heap.size wo wr)) (fun _ _ iv _ => (100 - intOf iv).toNat)
  case atStart => exact ⟨0, n, [], by omega, hn, rfl, rfl, rfl, ⟨rfl, rfl⟩, HB⟩
  case round =>
    clear HB
    obtain ⟨j, m, s, hj, hm, rfl, rfl, rfl, HP, HS⟩ := hrel
    by_cases hlt : j < k
    · have hi : (j : Int) < (k : Int) := by omega
      obtain ⟨i, hi2⟩ : ∃ i, k - j = i + 1 := ⟨k - j - 1, by omega⟩
      have HP2 : Hid (padA (dg m :: s) (k - (j + 1)) (m / 10) = padA [] k n ∧ (dg m :: s).length = j + 1) := by
        have h1 := HP.out.1
        rw [hi2, padA] at h1
        refine ⟨by rw [show k - (j + 1) = i by omega]; exact h1, by rw [List.length_cons, HP.out.2]⟩
      have hsl := HP.out.2
      have hw8 : IntKind.u8.wrap (48 + (m : Int) % 10) = 48 + (m : Int) % 10 := IntWalk.u8_in _ (by omega)
      have hc := conv_one wr (dg m) (z := 48 + (m : Int) % 10) (by rw [dg_nat]; omega)
      have HA : Hid ((⟨#[dg m]⟩ ++ ⟨s.toArray⟩ : ByteArray) = ⟨(dg m :: s).toArray⟩) := by unfold Hid; apply ByteArray.ext; simp [ByteArray.data_append]
      have hs9 : s.length ≤ 10 := by omega
      generalize dg m = d at *
      have hadd : ∀ w', (Op.stringOp .add ⟨#[d]⟩ ⟨s.toArray⟩).run Tryz.prog w' = .ok (.string (⟨#[d]⟩ ++ ⟨s.toArray⟩)) w' := fun w' => run_string_add_sum _ _ _ (by simp [ByteArray.size]; omega)
      clear hi2 hsl HP
      go_wp2_with fail
      go_roundw
      case rel => exact ⟨j + 1, m / 10, d :: s, by omega, by omega, by go_num, rfl, by rw [← HA.out], HP2, HS.out.alloc HS.out.size _⟩
      case measure => simp [intOf]; omega
    · obtain rfl : j = k := by omega
      have HR : Hid (s = padA [] j n) := by unfold Hid; rw [← HP.out.1, Nat.sub_self]; rfl
      go_wp2_with fail
      go_ret
      exact ⟨by rw [← HR.out]; rfl, HS.out⟩
end Go.Proofs.YtmmmebdgannpgaaGreatDoor
/- The text of a minute: Format of the program. -/
namespace Go.Proofs.YtmmmebdgannpgaaGreatDoor
open Go Go.RowKit

/-- The text of a date. -/
def dtext (y m d h mi : Nat) : List UInt8 := [dg (y / 10 / 10 / 10), dg (y / 10 / 10), dg (y / 10), dg y, 45, dg (m / 10), dg m, 45, dg (d / 10), dg d, 32, dg (h / 10), dg h, 58, dg (mi / 10), dg mi]
/-- What Format gives. -/
def FmtIs (minute : Int) (w : World) (e : Ending) (w' : World) : Prop := Below w.heap.size w w' ∧
  ((inM minute = false ∧ e = .returned (.tuple #[.string ⟨#[]⟩, .int .i64 1])) ∨
    ∃ M y m d h mi : Nat, minute = M ∧ DateOf M y m d h mi ∧ e = .returned (.tuple #[.string ⟨(dtext y m d h mi).toArray⟩, .int .i64 0]))
/-- The pattern's bytes. -/
def pat : List Value := [.int .u8 48, .int .u8 48, .int .u8 48, .int .u8 48, .int .u8 45, .int .u8 48, .int .u8 48, .int .u8 45, .int .u8 48, .int .u8 48, .int .u8 32, .int .u8 48, .int .u8 48, .int .u8 58, .int .u8 48, .int .u8 48]
/-- The date's variable and the bytes. -/
structure FS (w : World) (c g : Nat) (ds cs : List Value) (wr : World) : Prop where
  x : RowAt wr c ds
  y : RowAt wr g cs
  b : Below w.heap.size w wr
  hg : w.heap.size ≤ g
  hn : c ≠ g
theorem FS.drew {w wr : World} {c g : Nat} {ds cs : List Value} (h : FS w c g ds cs wr) : FS w c g ds cs wr.drew := ⟨h.x.drew, h.y.drew, h.b.drew, h.hg, h.hn⟩
theorem FS.put {w wr w' : World} {c g : Nat} {ds cs cs' : List Value} (h : FS w c g ds cs wr) (k : Dgs wr g cs' w') : FS w c g ds cs' w' :=
  ⟨h.x.apart k.ap h.hn, k.row, h.b.trans (k.ap.below h.hg), h.hg, h.hn⟩
theorem DateOf.small {M y m d h mi : Nat} (g : DateOf M y m d h mi) : y ≤ 1000000 ∧ m ≤ 1000000 ∧ d ≤ 1000000 ∧ h ≤ 1000000 ∧ mi ≤ 1000000 := by
  have h1 := g.y1; have h2 := g.m1; have h3 := g.d1; have h4 := g.h1; have h5 := g.i1
  have := (lenM_pos y m).2
  omega
theorem pat_put (y m d h mi : Nat) : putD (putD (putD (putD (putD pat 0 4 y) 5 2 m) 8 2 d) 11 2 h) 14 2 mi = (dtext y m d h mi).map (fun b => .int .u8 (b.toNat : Nat)) := rfl

/-- A row whose block has a mark behind its end. -/
theorem row_marked (w : World) (cs : List Value) (hl : 0 < cs.length) (t : TypeId) {H : Nat} (hH : w.heap.size = H) : RowAt (w.alloc (.cells cs.toArray t (cs.length, cs.length + 1))) H cs := by
  subst hH
  have hh : (w.alloc (.cells cs.toArray t (cs.length, cs.length + 1))).heap[w.heap.size]? = some (.cells cs.toArray t (cs.length, cs.length + 1)) := heap_alloc_new w _
  refine ⟨hl, fun i hi => ?_, fun i hi => ?_⟩
  · simp only [World.cell?, hh]
    simp
  · simp only [World.frozen?, hh]
    simp
    omega
set_option maxHeartbeats 8000000 in
set_option maxRecDepth 100000 in
theorem format_any (minute : Int) (w : World) : Calls Tryz.prog 68 #[.int .i64 minute] w (FmtIs minute w) := by
  go_enter Tryz.func68, Tryz.ntmps68
  go_wp2_with fail
  refine (date_any minute w).mono ?_
  rintro e w1 ⟨hb, ⟨hi, rfl⟩ | ⟨M, y, m, d, h, mi, rfl, hd, rfl⟩⟩
  · have HB := Lib.hid hb
    have HI := Lib.hid hi
    clear hb hi
    simp only [civ]
    go_wp2_with fail
    exact bodyPost_ret (v := .tuple #[.string ⟨#[]⟩, .int .i64 1]) (by simp [results, Tryz.results68, go_sem]) rfl ⟨HB.out.alloc HB.out.size _, .inl ⟨HI.out, rfl⟩⟩
  · have HB := Lib.hid hb
    have HD := Lib.hid hd
    clear hb hd
    have HS : Hid (FS w w1.heap.size (w1.heap.size + 1) (civ y m d h mi) pat ((w1.alloc (.cells #[.int .i64 y, .int .i64 m, .int .i64 d, .int .i64 h, .int .i64 mi] 133)).alloc (.cells #[.int .u8 48, .int .u8 48, .int .u8 48, .int .u8 48, .int .u8 45, .int .u8 48, .int .u8 48, .int .u8 45, .int .u8 48, .int .u8 48, .int .u8 32, .int .u8 48, .int .u8 48, .int .u8 58, .int .u8 48, .int .u8 48] 5 (16, 17)))) :=
      ⟨(RowAt.new w1 (civ y m d h mi) (by simp [civ]) _ rfl).alloc _, row_marked _ pat (by simp [pat]) _ (by simp), ((below_then HB.out ((Below.refl _ _).alloc (Nat.le_refl _) _)).alloc (by have := HB.out.size; simp; omega) _), by have := HB.out.size; omega, by omega⟩
    simp only [civ]
    have hcv : (convert 22 22 (.slice (some ⟨w1.heap.size + 1, 0, none⟩) 16 16)).run Tryz.prog ((w1.alloc (.cells #[.int .i64 y, .int .i64 m, .int .i64 d, .int .i64 h, .int .i64 mi] 133)).alloc (.cells #[.int .u8 48, .int .u8 48, .int .u8 48, .int .u8 48, .int .u8 45, .int .u8 48, .int .u8 48, .int .u8 45, .int .u8 48, .int .u8 48, .int .u8 32, .int .u8 48, .int .u8 48, .int .u8 58, .int .u8 48, .int .u8 48] 5)) = .ok (.slice (some ⟨w1.heap.size + 1, 0, none⟩) 16 16) ((w1.alloc (.cells #[.int .i64 y, .int .i64 m, .int .i64 d, .int .i64 h, .int .i64 mi] 133)).alloc (.cells #[.int .u8 48, .int .u8 48, .int .u8 48, .int .u8 48, .int .u8 45, .int .u8 48, .int .u8 48, .int .u8 45, .int .u8 48, .int .u8 48, .int .u8 32, .int .u8 48, .int .u8 48, .int .u8 58, .int .u8 48, .int .u8 48] 5 (16, 17))) := by
      have := Lib.run_convert_bytes_const (P := Tryz.prog) (w1.alloc (.cells #[.int .i64 y, .int .i64 m, .int .i64 d, .int .i64 h, .int .i64 mi] 133)) 22 5 #[.int .u8 48, .int .u8 48, .int .u8 48, .int .u8 48, .int .u8 45, .int .u8 48, .int .u8 48, .int .u8 45, .int .u8 48, .int .u8 48, .int .u8 32, .int .u8 48, .int .u8 48, .int .u8 58, .int .u8 48, .int .u8 48] 16 16 Tryz.underlying22 Tryz.underlying5
      simpa using this
    go_wp2_with fail
    generalize hg : w1.heap.size + 1 = g at *
    generalize hc : w1.heap.size = c at *
    clear hcv hg hc
    generalize (w1.alloc _).alloc _ = w2 at HS ⊢
    have HS5 : Hid (FS w c g (civ y m d h mi) pat w2.drew) := HS.out.drew
    refine wp_region_seqL (by kernel_rfl) (fun w' => w'.cell? ⟨c, 0, none⟩ = some (.int .i64 y)) 4 [(0, 0), (1, 0), (2, 0), (3, 1), (4, 2)] (by kernel_rfl) (HS5.out.x.at 0 rfl) ?_
    refine sl_q (d := some 17) rfl rfl rfl (.slice (some ⟨g, 0, none⟩) 16 16) (fun w => rfl) ?_
    simp only [Act.put, List.setIfInBounds_toArray, List.set_cons_zero, List.set_cons_succ]
    refine sl_q (d := some 18) rfl rfl rfl (.slice (some ⟨g, 0, none⟩) 4 16) (fun w => by simp [execOp, Act.eval, go_sem, Instr.slice]) ?_
    simp only [Act.put, List.setIfInBounds_toArray, List.set_cons_zero, List.set_cons_succ]
    refine sl_q (d := some 19) rfl rfl rfl (.pointer (some ⟨c, 0, none⟩)) (fun w => by go_simp) ?_
    simp only [Act.put, List.setIfInBounds_toArray, List.set_cons_zero, List.set_cons_succ]
    refine sl_s (d := some 20) rfl rfl rfl (.int .i64 y) (fun w hw => by simp [execOp, Act.eval, go_sem, hw]) ?_
    simp only [Act.put, List.setIfInBounds_toArray, List.set_cons_zero, List.set_cons_succ]
    refine sl_call (d := some 21) rfl rfl rfl ⟨_, Tryz.func83, by kernel_rfl, by kernel_rfl⟩ _ _ _ rfl rfl [.slice (some ⟨g, 0, none⟩) 4 16, .int .i64 y] rfl (digits_any g 0 4 16 y pat w2.drew HS5.out.y (by simp [putD_len, pat]) (by simp [putD_len, pat]) HD.out.small.1 (by omega)) ?_
    rintro e w3 ⟨rfl, hD⟩
    refine ⟨_, rfl, (fun h => by cases h), ?_⟩
    simp only [Act.put, List.setIfInBounds_toArray, List.set_cons_zero, List.set_cons_succ]
    refine sl_end ?_
    have HSp : Hid (FS w c g (civ y m d h mi) (putD pat 0 4 y) w3) := HS5.out.put hD
    clear hD HS5 HS
    go_wp2_with fail
    have HS6 : Hid (FS w c g (civ y m d h mi) (putD pat 0 4 y) w3.drew) := HSp.out.drew
    refine wp_region_seqL (by kernel_rfl) (fun w' => w'.cell? ⟨c, 1, none⟩ = some (.int .i64 m)) 4 [(0, 0), (1, 0), (2, 0), (3, 1), (4, 2)] (by kernel_rfl) (HS6.out.x.at 1 rfl) ?_
    refine sl_q (d := some 22) rfl rfl rfl (.slice (some ⟨g, 0, none⟩) 16 16) (fun w => rfl) ?_
    simp only [Act.put, List.setIfInBounds_toArray, List.set_cons_zero, List.set_cons_succ]
    refine sl_q (d := some 23) rfl rfl rfl (.slice (some ⟨g, 5, none⟩) 2 11) (fun w => by simp [execOp, Act.eval, go_sem, Instr.slice]) ?_
    simp only [Act.put, List.setIfInBounds_toArray, List.set_cons_zero, List.set_cons_succ]
    refine sl_q (d := some 24) rfl rfl rfl (.pointer (some ⟨c, 1, none⟩)) (fun w => by go_simp) ?_
    simp only [Act.put, List.setIfInBounds_toArray, List.set_cons_zero, List.set_cons_succ]
    refine sl_s (d := some 25) rfl rfl rfl (.int .i64 m) (fun w hw => by simp [execOp, Act.eval, go_sem, hw]) ?_
    simp only [Act.put, List.setIfInBounds_toArray, List.set_cons_zero, List.set_cons_succ]
    refine sl_call (d := some 26) rfl rfl rfl ⟨_, Tryz.func83, by kernel_rfl, by kernel_rfl⟩ _ _ _ rfl rfl [.slice (some ⟨g, 5, none⟩) 2 11, .int .i64 m] rfl (digits_any g 5 2 11 m (putD pat 0 4 y) w3.drew HS6.out.y (by simp [putD_len, pat]) (by simp [putD_len, pat]) HD.out.small.2.1 (by omega)) ?_
    rintro e w4 ⟨rfl, hD⟩
    refine ⟨_, rfl, (fun h => by cases h), ?_⟩
    simp only [Act.put, List.setIfInBounds_toArray, List.set_cons_zero, List.set_cons_succ]
    refine sl_end ?_
    have HSp : Hid (FS w c g (civ y m d h mi) (putD (putD pat 0 4 y) 5 2 m) w4) := HS6.out.put hD
    clear hD HS6
    go_wp2_with fail
    have HS7 : Hid (FS w c g (civ y m d h mi) (putD (putD pat 0 4 y) 5 2 m) w4.drew) := HSp.out.drew
    refine wp_region_seqL (by kernel_rfl) (fun w' => w'.cell? ⟨c, 2, none⟩ = some (.int .i64 d)) 4 [(0, 0), (1, 0), (2, 0), (3, 1), (4, 2)] (by kernel_rfl) (HS7.out.x.at 2 rfl) ?_
    refine sl_q (d := some 27) rfl rfl rfl (.slice (some ⟨g, 0, none⟩) 16 16) (fun w => rfl) ?_
    simp only [Act.put, List.setIfInBounds_toArray, List.set_cons_zero, List.set_cons_succ]
    refine sl_q (d := some 28) rfl rfl rfl (.slice (some ⟨g, 8, none⟩) 2 8) (fun w => by simp [execOp, Act.eval, go_sem, Instr.slice]) ?_
    simp only [Act.put, List.setIfInBounds_toArray, List.set_cons_zero, List.set_cons_succ]
    refine sl_q (d := some 29) rfl rfl rfl (.pointer (some ⟨c, 2, none⟩)) (fun w => by go_simp) ?_
    simp only [Act.put, List.setIfInBounds_toArray, List.set_cons_zero, List.set_cons_succ]
    refine sl_s (d := some 30) rfl rfl rfl (.int .i64 d) (fun w hw => by simp [execOp, Act.eval, go_sem, hw]) ?_
    simp only [Act.put, List.setIfInBounds_toArray, List.set_cons_zero, List.set_cons_succ]
    refine sl_call (d := some 31) rfl rfl rfl ⟨_, Tryz.func83, by kernel_rfl, by kernel_rfl⟩ _ _ _ rfl rfl [.slice (some ⟨g, 8, none⟩) 2 8, .int .i64 d] rfl (digits_any g 8 2 8 d (putD (putD pat 0 4 y) 5 2 m) w4.drew HS7.out.y (by simp [putD_len, pat]) (by simp [putD_len, pat]) HD.out.small.2.2.1 (by omega)) ?_
    rintro e w5 ⟨rfl, hD⟩
    refine ⟨_, rfl, (fun h => by cases h), ?_⟩
    simp only [Act.put, List.setIfInBounds_toArray, List.set_cons_zero, List.set_cons_succ]
    refine sl_end ?_
    have HSp : Hid (FS w c g (civ y m d h mi) (putD (putD (putD pat 0 4 y) 5 2 m) 8 2 d) w5) := HS7.out.put hD
    clear hD HS7
    go_wp2_with fail
    have HS8 : Hid (FS w c g (civ y m d h mi) (putD (putD (putD pat 0 4 y) 5 2 m) 8 2 d) w5.drew) := HSp.out.drew
    refine wp_region_seqL (by kernel_rfl) (fun w' => w'.cell? ⟨c, 3, none⟩ = some (.int .i64 h)) 4 [(0, 0), (1, 0), (2, 0), (3, 1), (4, 2)] (by kernel_rfl) (HS8.out.x.at 3 rfl) ?_
    refine sl_q (d := some 32) rfl rfl rfl (.slice (some ⟨g, 0, none⟩) 16 16) (fun w => rfl) ?_
    simp only [Act.put, List.setIfInBounds_toArray, List.set_cons_zero, List.set_cons_succ]
    refine sl_q (d := some 33) rfl rfl rfl (.slice (some ⟨g, 11, none⟩) 2 5) (fun w => by simp [execOp, Act.eval, go_sem, Instr.slice]) ?_
    simp only [Act.put, List.setIfInBounds_toArray, List.set_cons_zero, List.set_cons_succ]
    refine sl_q (d := some 34) rfl rfl rfl (.pointer (some ⟨c, 3, none⟩)) (fun w => by go_simp) ?_
    simp only [Act.put, List.setIfInBounds_toArray, List.set_cons_zero, List.set_cons_succ]
    refine sl_s (d := some 35) rfl rfl rfl (.int .i64 h) (fun w hw => by simp [execOp, Act.eval, go_sem, hw]) ?_
    simp only [Act.put, List.setIfInBounds_toArray, List.set_cons_zero, List.set_cons_succ]
    refine sl_call (d := some 36) rfl rfl rfl ⟨_, Tryz.func83, by kernel_rfl, by kernel_rfl⟩ _ _ _ rfl rfl [.slice (some ⟨g, 11, none⟩) 2 5, .int .i64 h] rfl (digits_any g 11 2 5 h (putD (putD (putD pat 0 4 y) 5 2 m) 8 2 d) w5.drew HS8.out.y (by simp [putD_len, pat]) (by simp [putD_len, pat]) HD.out.small.2.2.2.1 (by omega)) ?_
    rintro e w6 ⟨rfl, hD⟩
    refine ⟨_, rfl, (fun h => by cases h), ?_⟩
    simp only [Act.put, List.setIfInBounds_toArray, List.set_cons_zero, List.set_cons_succ]
    refine sl_end ?_
    have HSp : Hid (FS w c g (civ y m d h mi) (putD (putD (putD (putD pat 0 4 y) 5 2 m) 8 2 d) 11 2 h) w6) := HS8.out.put hD
    clear hD HS8
    go_wp2_with fail
    have HS9 : Hid (FS w c g (civ y m d h mi) (putD (putD (putD (putD pat 0 4 y) 5 2 m) 8 2 d) 11 2 h) w6.drew) := HSp.out.drew
    refine wp_region_seqL (by kernel_rfl) (fun w' => w'.cell? ⟨c, 4, none⟩ = some (.int .i64 mi)) 4 [(0, 0), (1, 0), (2, 0), (3, 1), (4, 2)] (by kernel_rfl) (HS9.out.x.at 4 rfl) ?_
    refine sl_q (d := some 37) rfl rfl rfl (.slice (some ⟨g, 0, none⟩) 16 16) (fun w => rfl) ?_
    simp only [Act.put, List.setIfInBounds_toArray, List.set_cons_zero, List.set_cons_succ]
    refine sl_q (d := some 38) rfl rfl rfl (.slice (some ⟨g, 14, none⟩) 2 2) (fun w => by simp [execOp, Act.eval, go_sem, Instr.slice]) ?_
    simp only [Act.put, List.setIfInBounds_toArray, List.set_cons_zero, List.set_cons_succ]
    refine sl_q (d := some 39) rfl rfl rfl (.pointer (some ⟨c, 4, none⟩)) (fun w => by go_simp) ?_
    simp only [Act.put, List.setIfInBounds_toArray, List.set_cons_zero, List.set_cons_succ]
    refine sl_s (d := some 40) rfl rfl rfl (.int .i64 mi) (fun w hw => by simp [execOp, Act.eval, go_sem, hw]) ?_
    simp only [Act.put, List.setIfInBounds_toArray, List.set_cons_zero, List.set_cons_succ]
    refine sl_call (d := some 41) rfl rfl rfl ⟨_, Tryz.func83, by kernel_rfl, by kernel_rfl⟩ _ _ _ rfl rfl [.slice (some ⟨g, 14, none⟩) 2 2, .int .i64 mi] rfl (digits_any g 14 2 2 mi (putD (putD (putD (putD pat 0 4 y) 5 2 m) 8 2 d) 11 2 h) w6.drew HS9.out.y (by simp [putD_len, pat]) (by simp [putD_len, pat]) HD.out.small.2.2.2.2 (by omega)) ?_
    rintro e w7 ⟨rfl, hD⟩
    refine ⟨_, rfl, (fun h => by cases h), ?_⟩
    simp only [Act.put, List.setIfInBounds_toArray, List.set_cons_zero, List.set_cons_succ]
    refine sl_end ?_
    have HSp : Hid (FS w c g (civ y m d h mi) (putD (putD (putD (putD (putD pat 0 4 y) 5 2 m) 8 2 d) 11 2 h) 14 2 mi) w7) := HS9.out.put hD
    clear hD HS9
    have hconv : (convert 22 9 (.slice (some ⟨g, 0, none⟩) 16 16)).run Tryz.prog w7 = .ok (.string ⟨(dtext y m d h mi).toArray⟩) w7 :=
      run_convert_bytes_back (P := Tryz.prog) _ 22 9 5 ⟨g, 0, none⟩ 16 (dtext y m d h mi) Tryz.underlying22 Tryz.underlying5 Tryz.underlying9 (fun j hj => by
        have hr := HSp.out.y
        rw [pat_put] at hr
        have h2 := hr.at j (v := .int .u8 ((dtext y m d h mi)[j].toNat : Nat)) (by simp [hj])
        rw [show (⟨g, 0, none⟩ : Addr).add j = ⟨g, j, none⟩ by unfold Addr.add; split <;> simp_all]
        exact h2)
    have HF : Hid (FmtIs M w (.returned (.tuple #[.string ⟨(dtext y m d h mi).toArray⟩, .int .i64 0])) w7) := ⟨HSp.out.b, .inr ⟨M, y, m, d, h, mi, rfl, HD.out, rfl⟩⟩
    generalize (⟨(dtext y m d h mi).toArray⟩ : ByteArray) = res at *
    clear HSp
    go_wp2_with fail
    exact bodyPost_ret (v := .tuple #[.string res, .int .i64 0]) (by simp [results, Tryz.results68, go_sem]) rfl HF.out
end Go.Proofs.YtmmmebdgannpgaaGreatDoor
