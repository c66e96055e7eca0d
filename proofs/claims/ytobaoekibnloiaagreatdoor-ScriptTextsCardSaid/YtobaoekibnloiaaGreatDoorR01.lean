/- Part 1 of the proof: laws on memory and what functions of the program return. No conditions but those that each theorem names. -/
import Derived.WalkKit
import Derived.WalkLawsBesides
import Derived.Deep.Draws
import Derived.Lib.Hide
import Derived.Test.YtobaoekibnloiaaGreatDoorChecked
import Derived.Outline
import Derived.Deep.QuietTactic
import Derived.BigQuiet
import Derived.IntWalk
import Derived.Lib.ItoaNum
import Derived.Lib.AtoiAll
import Derived.Lib.AtoiAllCases
import Derived.Lib.Strings
import Derived.Test.YtobaoekibnloiaaGreatDoorShelf
import Derived.Lib.ItoaLen
import Derived.Lib.AppendIntMem
import Derived.Lib.SmallJoins
import Derived.WalkSmall
import Derived.Lib.ConvBytes
import Derived.Deep.AppendLies
import Derived.Laws.IdiomStrings
import Derived.Deep.RegionHeld3
set_option linter.unusedVariables false
set_option linter.unusedSimpArgs false
/- Small laws on worlds: what stays as it was when one block and new blocks are written. No conditions, no program. -/
namespace Go.Proofs.YtobaoekibnloiaaGreatDoor
open Go Go.RowKit

/-- An int of Go is in its range. -/
def I64 (x : Int) : Prop := -9223372036854775808 ≤ x ∧ x ≤ 9223372036854775807
theorem I64.lo {x : Int} (h : I64 x) : -9223372036854775808 ≤ x := h.1
theorem I64.hi {x : Int} (h : I64 x) : x ≤ 9223372036854775807 := h.2
theorem I64.zero : I64 0 := by unfold I64; omega

/-- Below block number B, and but for block b, the world is as it was. -/
structure But (B b : Nat) (w w' : World) : Prop where
  os : w'.os = w.os
  tape : w'.tape = w.tape
  output : w'.output = w.output
  size : w.heap.size ≤ w'.heap.size
  block : ∀ k, k < B → k ≠ b → w'.heap[k]? = w.heap[k]?

theorem But.refl (B b : Nat) (w : World) : But B b w w := ⟨rfl, rfl, rfl, Nat.le_refl _, fun _ _ _ => rfl⟩
theorem But.trans {B b : Nat} {x y z : World} (h : But B b x y) (k : But B b y z) : But B b x z :=
  ⟨k.os.trans h.os, k.tape.trans h.tape, k.output.trans h.output, Nat.le_trans h.size k.size, fun i hi hn => (k.block i hi hn).trans (h.block i hi hn)⟩
theorem But.mono {B B' b : Nat} {w w' : World} (h : But B b w w') (hB : B' ≤ B) : But B' b w w' :=
  ⟨h.os, h.tape, h.output, h.size, fun k hk => h.block k (Nat.lt_of_lt_of_le hk hB)⟩
theorem But.of_below {B b : Nat} {w w' : World} (h : Below B w w') : But B b w w' := ⟨h.os, h.tape, h.output, h.size, fun k hk _ => h.block k hk⟩
/-- Where the one block lies at B or behind it, all below B is as it was. -/
theorem But.below {B b : Nat} {w w' : World} (h : But B b w w') (hb : B ≤ b) : Below B w w' := ⟨h.os, h.tape, h.output, h.size, fun k hk => h.block k hk (by omega)⟩
theorem But.drewN {B b : Nat} {a w : World} (h : But B b a w) (n : Nat) : But B b a (w.drewN n) := ⟨h.os, h.tape, h.output, h.size, h.block⟩
theorem But.drew {B b : Nat} {a w : World} (h : But B b a w) : But B b a w.drew := ⟨h.os, h.tape, h.output, h.size, h.block⟩
theorem But.alloc {B b : Nat} {a w : World} (h : But B b a w) (hB : B ≤ w.heap.size) (o : Obj) : But B b a (w.alloc o) :=
  h.trans ⟨rfl, rfl, rfl, by simp, fun k hk _ => Below.heap_alloc _ _ _ (by omega)⟩
theorem But.setCell {B b : Nat} {a w : World} (h : But B b a w) {p : Addr} (hp : B ≤ p.block ∨ p.block = b) (u : Value) : But B b a (w.setCell p u) :=
  h.trans ⟨rfl, rfl, rfl, by simp [World.setCell], fun k hk hn => Below.heap_setCell _ _ _ _ (by omega)⟩
theorem But.cell {B b : Nat} {w w' : World} (h : But B b w w') {p : Addr} (hp : p.block < B) (hn : p.block ≠ b) : w'.cell? p = w.cell? p :=
  World.cell?_of_block (w := w) (h.block p.block hp hn)
theorem But.frozen {B b : Nat} {w w' : World} (h : But B b w w') {p : Addr} (hp : p.block < B) (hn : p.block ≠ b) : w'.frozen? p = w.frozen? p :=
  World.frozen?_of_block (w := w) (h.block p.block hp hn)

theorem below_then {w wx w' : World} (h : Below w.heap.size w wx) (hb : Below wx.heap.size wx w') : Below w.heap.size w w' := h.trans (hb.mono h.size)
theorem cell_then {wx w' : World} {a : Addr} {v : Value} (hb : Below wx.heap.size wx w') (h : wx.cell? a = some v) : w'.cell? a = some v := by
  rw [hb.cell (World.block_lt_of_cell? _ _ h)]; exact h
/-- The rules that a walk needs behind a contract that ends in Below. -/
theorem bcell {W w1 : World} (hb : Below W.heap.size W w1) : (∀ b o, b < W.heap.size → w1.cell? ⟨b, o, none⟩ = W.cell? ⟨b, o, none⟩) ∧ (∀ b o, b < W.heap.size → w1.frozen? ⟨b, o, none⟩ = W.frozen? ⟨b, o, none⟩) :=
  ⟨fun b o h => hb.cell (p := ⟨b, o, none⟩) h, fun b o h => hb.frozen (p := ⟨b, o, none⟩) h⟩
/-- The rules that a walk needs behind a contract that ends in But. -/
theorem ucell {b : Nat} {W w1 : World} (hb : But W.heap.size b W w1) : (∀ k o, k < W.heap.size → k ≠ b → w1.cell? ⟨k, o, none⟩ = W.cell? ⟨k, o, none⟩) ∧ (∀ k o, k < W.heap.size → k ≠ b → w1.frozen? ⟨k, o, none⟩ = W.frozen? ⟨k, o, none⟩) :=
  ⟨fun k o h hn => hb.cell (p := ⟨k, o, none⟩) h hn, fun k o h hn => hb.frozen (p := ⟨k, o, none⟩) h hn⟩

end Go.Proofs.YtobaoekibnloiaaGreatDoor
/- The choices of synopticfield: New, Left, Next, Int and Place. What they return lies in its range, and only the list's own place is written. No conditions. -/
namespace Go.Proofs.YtobaoekibnloiaaGreatDoor
open Go Go.RowKit

theorem but_cell {wx w' : World} {b : Nat} {a : Addr} {v : Value} (hb : But wx.heap.size b wx w') (hn : a.block ≠ b) (h : wx.cell? a = some v) : w'.cell? a = some v := by
  rw [hb.cell (World.block_lt_of_cell? _ _ h) hn]; exact h
theorem bdrewN {B : Nat} {w w' : World} (h : Below B w w') (n : Nat) : Below B w (w'.drewN n) := ⟨h.os, h.tape, h.output, h.size, h.block⟩

/-- Block b is a list of choices; the bytes lie below block B. -/
def CodesIs (w : World) (B b : Nat) : Prop :=
  ∃ (a : Option Addr) (len cap k : Nat), B ≤ b ∧ w.cell? ⟨b, 0, none⟩ = some (.slice a len cap) ∧ w.cell? ⟨b, 1, none⟩ = some (.int .i64 k) ∧ w.frozen? ⟨b, 1, none⟩ = false ∧ k ≤ len ∧ len ≤ 1000 ∧
    (∀ i, k ≤ i → i < len → ∃ ab ao : Nat, a = some ⟨ab, ao, none⟩ ∧ ab < B ∧ ∃ z : Int, 0 ≤ z ∧ z ≤ 255 ∧ w.cell? ⟨ab, ao + i, none⟩ = some (.int .u8 z))
theorem CodesIs.lt {w : World} {B b : Nat} (h : CodesIs w B b) : b < w.heap.size := by
  obtain ⟨a, len, cap, k, h0, h1, _⟩ := h
  exact World.block_lt_of_cell? (a := ⟨b, 0, none⟩) _ h1
theorem CodesIs.le {w : World} {B b : Nat} (h : CodesIs w B b) : B ≤ b := by obtain ⟨_, _, _, _, h0, _⟩ := h; exact h0
theorem CodesIs.of_same {w w' : World} {B b : Nat} (h : CodesIs w B b) (hb : w'.heap[b]? = w.heap[b]?) (hB : ∀ k, k < B → k < w.heap.size → w'.heap[k]? = w.heap[k]?) : CodesIs w' B b := by
  obtain ⟨a, len, cap, k, h0, h1, h2, h3, h4, h5, h6⟩ := h
  refine ⟨a, len, cap, k, h0, ?_, ?_, ?_, h4, h5, ?_⟩
  · rw [World.cell?_of_block (w := w) hb]; exact h1
  · rw [World.cell?_of_block (w := w) hb]; exact h2
  · rw [World.frozen?_of_block (w := w) hb]; exact h3
  · intro i hi hl
    obtain ⟨ab, ao, ha, hlt, z, z0, z1, hc⟩ := h6 i hi hl
    have hb' := hB _ hlt (World.block_lt_of_cell? (a := ⟨ab, ao + i, none⟩) _ hc)
    refine ⟨ab, ao, ha, hlt, z, z0, z1, ?_⟩
    have e : w'.cell? ⟨ab, ao + i, none⟩ = w.cell? ⟨ab, ao + i, none⟩ := World.cell?_of_block (w := w) hb'
    rw [e]; exact hc
theorem CodesIs.below {w w' : World} {B b C : Nat} (h : CodesIs w B b) (hw : Below C w w') (hC : b < C) : CodesIs w' B b :=
  h.of_same (hw.block _ hC) (fun k hk _ => hw.block k (by have := h.le; omega))
theorem CodesIs.setCell {w : World} {B b : Nat} (h : CodesIs w B b) {p : Addr} (hp : p.block ≠ b) (hB : B ≤ p.block) (u : Value) : CodesIs (w.setCell p u) B b :=
  h.of_same (Below.heap_setCell _ _ _ _ (by omega)) (fun k hk _ => Below.heap_setCell _ _ _ _ (by omega))
theorem CodesIs.alloc {w : World} {B b : Nat} (h : CodesIs w B b) (o : Obj) : CodesIs (w.alloc o) B b :=
  h.of_same (Below.heap_alloc _ _ _ h.lt) (fun _ _ hk => Below.heap_alloc _ _ _ hk)
theorem CodesIs.drewN {w : World} {B b : Nat} (h : CodesIs w B b) (n : Nat) : CodesIs (w.drewN n) B b := h.of_same rfl (fun _ _ _ => rfl)
theorem CodesIs.drew {w : World} {B b : Nat} (h : CodesIs w B b) : CodesIs w.drew B b := h.of_same rfl (fun _ _ _ => rfl)

/-- Since world w0 nothing has turned but the choices in block b. -/
def St (w0 : World) (B b : Nat) (w : World) : Prop := CodesIs w B b ∧ But w0.heap.size b w0 w
theorem St.start {w : World} {B b : Nat} (h : CodesIs w B b) : St w B b w := ⟨h, But.refl _ _ _⟩
theorem St.size {w0 w : World} {B b : Nat} (h : St w0 B b w) : w0.heap.size ≤ w.heap.size := h.2.size
theorem St.lt {w0 w : World} {B b : Nat} (h : St w0 B b w) : b < w.heap.size := h.1.lt
theorem St.alloc {w0 w : World} {B b : Nat} (h : St w0 B b w) (o : Obj) : St w0 B b (w.alloc o) := ⟨h.1.alloc o, h.2.alloc h.2.size o⟩
theorem St.drewN {w0 w : World} {B b : Nat} (h : St w0 B b w) (n : Nat) : St w0 B b (w.drewN n) := ⟨h.1.drewN n, h.2.drewN n⟩
theorem St.drew {w0 w : World} {B b : Nat} (h : St w0 B b w) : St w0 B b w.drew := ⟨h.1.drew, h.2.drew⟩
theorem St.below {w0 w w' : World} {B b : Nat} (h : St w0 B b w) (hw : Below w.heap.size w w') : St w0 B b w' := ⟨h.1.below hw h.1.lt, h.2.trans (But.of_below (hw.mono h.2.size))⟩
theorem St.setCell {w0 w : World} {B b : Nat} (h : St w0 B b w) {p : Addr} (hp : w0.heap.size ≤ p.block) (hn : p.block ≠ b) (hB : B ≤ p.block) (u : Value) : St w0 B b (w.setCell p u) := ⟨h.1.setCell hn hB u, h.2.setCell (Or.inl hp) u⟩
theorem St.then {w0 w w' : World} {B b : Nat} (h : St w0 B b w) (hs : St w B b w') : St w0 B b w' := ⟨hs.1, h.2.trans (hs.2.mono h.2.size)⟩
theorem St.grown {w0 w w' : World} {B b base : Nat} (h : St w0 B b w) (hb : Below base w w') (hbb : b < base) (h0 : w0.heap.size ≤ base) : St w0 B b w' := ⟨h.1.below hb hbb, h.2.trans (But.of_below (hb.mono h0))⟩

/-- A call that returns a number of a range, and writes the choices at most. -/
def IntIn (lo hi : Int) (B b : Nat) (w : World) (e : Ending) (w' : World) : Prop := ∃ x : Int, lo ≤ x ∧ x ≤ hi ∧ e = .returned (.int .i64 x) ∧ St w B b w'
def BoolIn (q : Bool) (w : World) (e : Ending) (w' : World) : Prop := e = .returned (.bool q) ∧ ∃ n, w' = w.drewN n

theorem left_raw (b k len cap : Nat) (a : Option Addr) (w : World) (h0 : w.cell? ⟨b, 0, none⟩ = some (.slice a len cap)) (h1 : w.cell? ⟨b, 1, none⟩ = some (.int .i64 k)) (q : Bool) (hq : decide (k < len) = q) :
    Calls Tryz.prog 18 #[.pointer (some ⟨b, 0, none⟩)] w (BoolIn q w) := by
  go_enter Tryz.func18, Tryz.ntmps18
  go_wp2
  go_quiet (fail)
  go_wp2
  go_ret
  exact ⟨by rw [← hq]; rfl, _, rfl⟩

set_option maxHeartbeats 1000000 in
theorem next_ok (B b : Nat) (n : Int) (w : World) (h : CodesIs w B b) (h1 : 1 ≤ n) (h2 : n ≤ 1000000000) :
    Calls Tryz.prog 7 #[.pointer (some ⟨b, 0, none⟩), .int .i64 n] w (IntIn 0 (n - 1) B b w) := by
  have H := Lib.hid h
  obtain ⟨a, len, cap, k, q0, q1, q2, q3, q4, q5, q6⟩ := h
  have H6 := Lib.hid q6
  rcases Nat.lt_or_ge k len with hk | hk
  · obtain ⟨ab, ao, rfl, hab, z, z0, z1, hz⟩ := H6.out k (Nat.le_refl _) hk
    have L := Lib.hid (left_raw b k len cap (some ⟨ab, ao, none⟩) w q1 q2 true (by simpa using hk))
    have hne : ab ≠ b := by omega
    have Hfin : Hid (∀ (m p : Nat), St w B b (((w.drewN m).setCell ⟨b, 1, none⟩ (.int .i64 ((k : Int) + 1))).drewN p)) := by
      intro m p
      refine ⟨?_, ((But.refl _ b _).drewN m |>.setCell (p := ⟨b, 1, none⟩) (Or.inr rfl) _).drewN p⟩
      refine ⟨some ⟨ab, ao, none⟩, len, cap, k + 1, q0, ?_, ?_, ?_, hk, q5, ?_⟩
      · simp only [World.cell?_drewN]
        rw [World.cell?_setCell_other _ _ _ _ (by simp)]; exact q1
      · simp only [World.cell?_drewN]
        exact World.cell?_setCell_same _ _ _ (by simp only [World.cell?_drewN]; exact q2)
      · rw [← q3]; simp
      · intro i hi hl
        obtain ⟨ab', ao', e', hlt', z', z0', z1', hc'⟩ := H6.out i (by omega) hl
        obtain ⟨rfl, rfl⟩ : ab = ab' ∧ ao = ao' := by simpa using e'
        refine ⟨ab, ao, rfl, hlt', z', z0', z1', ?_⟩
        simp only [World.cell?_drewN]
        rw [World.cell?_setCell_other _ _ _ _ (by simp)]; exact hc'
    have hm0 : 0 ≤ z % n := Int.emod_nonneg _ (by omega)
    have hm1 : z % n < n := Int.emod_lt_of_pos _ (by omega)
    clear q6
    go_enter Tryz.func7, Tryz.ntmps7
    go_wp2_with fail
    refine L.out.mono ?_
    rintro e w1 ⟨rfl, m, rfl⟩
    have e1 : IntKind.i64.wrap (k : Int) = k := IntWalk.i64_in _ (by omega)
    go_wp2_with fail
    have e2 : (0 : Int) ≤ (k : Int) := by omega
    have e3 : (k : Int) < len := by omega
    go_quiet (fail)
    clear e1 e2 e3
    go_wp2_with fail
    go_ret
    exact ⟨_, hm0, by omega, rfl, Hfin.out _ _⟩
  · have L := Lib.hid (left_raw b k len cap a w q1 q2 false (by simp; omega))
    clear q6
    go_enter Tryz.func7, Tryz.ntmps7
    go_wp2_with fail
    refine L.out.mono ?_
    rintro e w1 ⟨rfl, m, rfl⟩
    go_wp2_with fail
    go_ret
    exact ⟨0, by omega, by omega, rfl, (St.start H.out).drewN _⟩

/-- A call that returns an int, and writes the choices at most. -/
def IntAny (B b : Nat) (w : World) (e : Ending) (w' : World) : Prop := ∃ x : Int, I64 x ∧ e = .returned (.int .i64 x) ∧ St w B b w'

def greats : List Int := [9223372036854775807, -9223372036854775808, 144115188075855872, 144115188075855873, -1, 4294967296, 1048576, 1048577, 4194304, 1000001, 0, 17]
theorem greats_I64 : ∀ z ∈ greats, I64 z := by unfold greats I64; intro z hz; simp at hz; omega

set_option maxHeartbeats 1000000 in
set_option maxRecDepth 100000 in
theorem int_ok (B b : Nat) (w : World) (h : CodesIs w B b) :
    Calls Tryz.prog 20 #[.pointer (some ⟨b, 0, none⟩)] w (IntAny B b w) := by
  have hlt := h.lt
  have hs0 := Lib.hid ((St.start h).alloc (.cells #[.int .i64 9223372036854775807, .int .i64 (-9223372036854775808), .int .i64 144115188075855872, .int .i64 144115188075855873, .int .i64 (-1), .int .i64 4294967296, .int .i64 1048576, .int .i64 1048577, .int .i64 4194304, .int .i64 1000001, .int .i64 0, .int .i64 17] 3))
  have hcells : Hid (∀ i, i < 12 → ∃ z : Int, I64 z ∧ (w.alloc (.cells #[.int .i64 9223372036854775807, .int .i64 (-9223372036854775808), .int .i64 144115188075855872, .int .i64 144115188075855873, .int .i64 (-1), .int .i64 4294967296, .int .i64 1048576, .int .i64 1048577, .int .i64 4194304, .int .i64 1000001, .int .i64 0, .int .i64 17] 3)).cell? ⟨w.heap.size, i, none⟩ = some (.int .i64 z)) := by
    intro i hi
    refine ⟨greats.getD i 0, ?_, ?_⟩
    · refine greats_I64 _ ?_
      have : greats.getD i 0 = greats[i]'(by simpa [greats] using hi) := by simp [List.getD_eq_getElem?_getD, show i < greats.length by simpa [greats] using hi]
      rw [this]; exact List.getElem_mem _
    · have : i = 0 ∨ i = 1 ∨ i = 2 ∨ i = 3 ∨ i = 4 ∨ i = 5 ∨ i = 6 ∨ i = 7 ∨ i = 8 ∨ i = 9 ∨ i = 10 ∨ i = 11 := by omega
      rcases this with rfl | rfl | rfl | rfl | rfl | rfl | rfl | rfl | rfl | rfl | rfl | rfl <;> simp [greats]
  clear h
  go_enter Tryz.func20, Tryz.ntmps20
  go_wp2_with fail
  generalize w.alloc (.cells #[.int .i64 9223372036854775807, .int .i64 (-9223372036854775808), .int .i64 144115188075855872, .int .i64 144115188075855873, .int .i64 (-1), .int .i64 4294967296, .int .i64 1048576, .int .i64 1048577, .int .i64 4194304, .int .i64 1000001, .int .i64 0, .int .i64 17] 3) = w0 at *
  refine (next_ok B b 4 w0 hs0.out.1 (by omega) (by omega)).mono ?_
  rintro e w1 ⟨x, x0, x1, rfl, hs⟩
  have Hs1 := Lib.hid (hs0.out.then hs)
  have hk1 := hs.2
  by_cases hx : x = 3
  · subst hx
    go_wp2_with fail
    refine (next_ok B b 12 w1 Hs1.out.1 (by omega) (by omega)).mono ?_
    rintro e w2 ⟨y, y0, y1, rfl, hs2⟩
    obtain ⟨j, rfl⟩ : ∃ j : Nat, y = j := ⟨y.toNat, by omega⟩
    have hj : j < 12 := by omega
    obtain ⟨z, hz, hc⟩ := hcells.out j hj
    have hc2 := but_cell hs2.2 (by simp; omega) (but_cell hk1 (by simp; omega) hc)
    have Hs2 := Lib.hid (Hs1.out.then hs2)
    have Hz := Lib.hid hz
    clear hs hs2 hk1 hc hz
    go_wp2_with fail
    go_ret
    exact ⟨z, Hz.out, rfl, Hs2.out⟩
  · have hxb : (x == 3) = false := by simpa using hx
    clear hx hs hk1
    go_wp2_with fail
    refine (next_ok B b 256 w1 Hs1.out.1 (by omega) (by omega)).mono ?_
    rintro e w2 ⟨y, y0, y1, rfl, hs2⟩
    have Hs2 := Lib.hid (Hs1.out.then hs2)
    clear hs2
    go_wp2_with fail
    go_ret
    exact ⟨_, by unfold I64; omega, rfl, Hs2.out⟩

/-- A place whose parts are small. -/
def PlaceSmall (B b : Nat) (w : World) (e : Ending) (w' : World) : Prop := ∃ f p q r : Int, 0 ≤ f ∧ f ≤ 20 ∧ 0 ≤ p ∧ p ≤ 840 ∧ 0 ≤ q ∧ q ≤ 840 ∧ 0 ≤ r ∧ r ≤ 840 ∧ e = .returned (.agg #[.int .i64 f, .int .i64 p, .int .i64 q, .int .i64 r]) ∧ St w B b w'

set_option maxHeartbeats 1000000 in
set_option maxRecDepth 100000 in
theorem place_ok (B b : Nat) (w : World) (h : CodesIs w B b) :
    Calls Tryz.prog 21 #[.pointer (some ⟨b, 0, none⟩)] w (PlaceSmall B b w) := by
  have hlt := h.lt
  have hle := h.le
  have hs0 := Lib.hid ((St.start h).alloc (.cells #[.int .i64 0, .int .i64 0, .int .i64 0, .int .i64 0] 31))
  clear h
  go_enter Tryz.func21, Tryz.ntmps21
  go_wp2_with fail
  refine (next_ok B b 121 _ hs0.out.1 (by omega) (by omega)).mono ?_
  rintro e w1 ⟨x, x0, x1, rfl, hs⟩
  have c0 : w1.cell? ⟨w.heap.size, 0, none⟩ = some (.int .i64 0) := but_cell hs.2 (by simp; omega) (by simp)
  have c1 : w1.cell? ⟨w.heap.size, 1, none⟩ = some (.int .i64 0) := but_cell hs.2 (by simp; omega) (by simp)
  have c2 : w1.cell? ⟨w.heap.size, 2, none⟩ = some (.int .i64 0) := but_cell hs.2 (by simp; omega) (by simp)
  have c3 : w1.cell? ⟨w.heap.size, 3, none⟩ = some (.int .i64 0) := but_cell hs.2 (by simp; omega) (by simp)
  have f0 : ∀ i, w1.frozen? ⟨w.heap.size, i, none⟩ = false := fun i => by rw [hs.2.frozen (by simp) (by simp; omega)]; simp
  have Hs1 := Lib.hid (hs0.out.then hs)
  have hd : (840 - 7 * x) / 7 + 1 ≤ 121 ∧ 1 ≤ (840 - 7 * x) / 7 + 1 := by omega
  clear hs
  go_wp2_with fail
  refine (next_ok B b ((840 - 7 * x) / 7 + 1) w1 Hs1.out.1 (by omega) (by omega)).mono ?_
  rintro e w2 ⟨y, y0, y1, rfl, hs⟩
  have d0 := but_cell hs.2 (by simp; omega) c0
  have d1 := but_cell hs.2 (by simp; omega) c1
  have d2 := but_cell hs.2 (by simp; omega) c2
  have d3 := but_cell hs.2 (by simp; omega) c3
  have hz1 : w.heap.size < w1.heap.size := World.block_lt_of_cell? (a := ⟨w.heap.size, 0, none⟩) _ c0
  have f1 : ∀ i, w2.frozen? ⟨w.heap.size, i, none⟩ = false := fun i => by rw [hs.2.frozen (by simp; omega) (by simp; omega)]; exact f0 i
  have Hs2 := Lib.hid (Hs1.out.then hs)
  clear hs c0 c1 c2 c3 f0
  go_wp2_with fail
  refine (next_ok B b 20 w2 Hs2.out.1 (by omega) (by omega)).mono ?_
  rintro e w3 ⟨z, z0, z1, rfl, hs⟩
  have c0 := but_cell hs.2 (by simp; omega) d0
  have c1 := but_cell hs.2 (by simp; omega) d1
  have c2 := but_cell hs.2 (by simp; omega) d2
  have c3 := but_cell hs.2 (by simp; omega) d3
  have hz2 : w.heap.size < w2.heap.size := World.block_lt_of_cell? (a := ⟨w.heap.size, 0, none⟩) _ d0
  have f2 : ∀ i, w3.frozen? ⟨w.heap.size, i, none⟩ = false := fun i => by rw [hs.2.frozen (by simp; omega) (by simp; omega)]; exact f1 i
  have g0 := f2 0
  have g1 := f2 1
  have g2 := f2 2
  have g3 := f2 3
  have Hs3 := Lib.hid (Hs2.out.then hs)
  clear hs d0 d1 d2 d3 f1 f2
  go_wp2_with fail
  have hne : w.heap.size ≠ b := by omega
  have hBw : B ≤ w.heap.size := by omega
  exact bodyPost_ret (v := .agg #[.int .i64 z, .int .i64 (7 * x), .int .i64 (7 * y), .int .i64 (840 - 7 * x - 7 * y)]) (by simp [results, Tryz.results21, go_sem, c0, c1, c2, c3]) rfl
    ⟨z, 7 * x, 7 * y, 840 - 7 * x - 7 * y, z0, by omega, by omega, by omega, by omega, by omega, by omega, by omega, rfl,
      (((Hs3.out.setCell (p := ⟨w.heap.size, 0, none⟩) (Nat.le_refl _) hne hBw _).setCell (p := ⟨w.heap.size, 1, none⟩) (Nat.le_refl _) hne hBw _).setCell (p := ⟨w.heap.size, 2, none⟩) (Nat.le_refl _) hne hBw _).setCell (p := ⟨w.heap.size, 3, none⟩) (Nat.le_refl _) hne hBw _⟩
end Go.Proofs.YtobaoekibnloiaaGreatDoor
/- Numbers as words, plain: the numeral of a number that is not long, and what reads back. No walk. -/
namespace Go.Proofs.YtobaoekibnloiaaGreatDoor
open Go

def isD (b : UInt8) : Bool := 48 ≤ b.toNat && b.toNat ≤ 57
def valL (l : List UInt8) : Nat := l.foldl (fun a b => 10 * a + (b.toNat - 48)) 0
theorem valL_snoc (l : List UInt8) (b : UInt8) : valL (l ++ [b]) = 10 * valL l + (b.toNat - 48) := by simp [valL, List.foldl_append]
theorem valL_lt : ∀ (k : Nat) (l : List UInt8), l.length = k → (∀ b ∈ l, isD b = true) → valL l < 10 ^ k
  | 0, l, h, _ => by
    have : l = [] := List.eq_nil_of_length_eq_zero h
    subst this; simp [valL]
  | k + 1, l, h, hd => by
    obtain ⟨l', b, rfl⟩ : ∃ l' b, l = l' ++ [b] := ⟨l.dropLast, l.getLast (by intro e; subst e; simp at h), (List.dropLast_concat_getLast _).symm⟩
    have ih := valL_lt k l' (by simp at h; exact h) (fun x hx => hd x (by simp [hx]))
    have hb := hd b (by simp)
    simp [isD] at hb
    rw [valL_snoc, Nat.pow_succ]
    omega

theorem dig_nat (x : Nat) (h : x < 10) : (UInt8.ofNat (48 + x)).toNat = 48 + x := (by decide : ∀ y : Fin 10, (UInt8.ofNat (48 + y.1)).toNat = 48 + y.1) ⟨x, h⟩
theorem decDigits_isD (u : Nat) : ∀ b ∈ Lib.decDigits u, isD b = true := by
  induction u using Nat.strongRecOn with
  | ind u ih =>
    have dig : ∀ x, x < 10 → isD (UInt8.ofNat (48 + x)) = true := fun x hx => by simp only [isD, dig_nat x hx]; simp; omega
    unfold Lib.decDigits
    split
    · next h => intro b hb; obtain rfl := List.mem_singleton.1 hb; exact dig u h
    · next h =>
      intro b hb
      rw [List.mem_append] at hb
      rcases hb with hb | hb
      · exact ih (u / 10) (by omega) b hb
      · obtain rfl := List.mem_singleton.1 hb; exact dig (u % 10) (by omega)
theorem decDigits_val (u : Nat) : valL (Lib.decDigits u) = u := by
  induction u using Nat.strongRecOn with
  | ind u ih =>
    unfold Lib.decDigits
    split
    · next h =>
      have := dig_nat u h
      simp only [valL, List.foldl, this]; omega
    · next h => rw [valL_snoc, ih (u / 10) (by omega), dig_nat _ (by omega)]; omega
theorem decDigits_inj {u v : Nat} (h : Lib.decDigits u = Lib.decDigits v) : u = v := by rw [← decDigits_val u, h, decDigits_val v]
theorem decDigits_ne (u : Nat) : Lib.decDigits u ≠ [] := by
  intro h
  have h1 := Lib.decDigits_length u
  have h2 := Lib.nDigits_pos u
  rw [h] at h1; simp at h1; omega
/-- A row of digits with no needless nought ahead is a numeral. -/
theorem digits_numeral (l : List UInt8) (hd : ∀ b ∈ l, isD b = true) (h0 : l ≠ []) (hz : l.head? = some 48 → l = [48]) : Lib.decDigits (valL l) = l := by
  have key : ∀ (k : Nat) (l : List UInt8), l.length = k + 1 → (∀ b ∈ l, isD b = true) → (l.head? = some 48 → l = [48]) → Lib.decDigits (valL l) = l ∧ (2 ≤ l.length → 1 ≤ valL l) := by
    intro k
    induction k with
    | zero =>
      intro l hl hd hz
      obtain ⟨b, rfl⟩ := List.length_eq_one_iff.1 hl
      have hb := hd b (by simp)
      simp [isD] at hb
      have hv : valL [b] = b.toNat - 48 := by simp [valL]
      rw [hv, Lib.decDigits_one (by omega), show 48 + (b.toNat - 48) = b.toNat by omega]
      simp
    | succ k ih =>
      intro l hl hd hz
      obtain ⟨l', b, rfl⟩ : ∃ l' b, l = l' ++ [b] := ⟨l.dropLast, l.getLast (by intro e; subst e; simp at hl), (List.dropLast_concat_getLast _).symm⟩
      have hl' : l'.length = k + 1 := by simp at hl; exact hl
      obtain ⟨a, t, rfl⟩ : ∃ a t, l' = a :: t := by
        cases l' with
        | nil => simp at hl'
        | cons a t => exact ⟨a, t, rfl⟩
      have ha : a ≠ 48 := by
        intro e; subst e
        have := hz (by simp)
        simp at this
      have hI := ih (a :: t) hl' (fun x hx => hd x (List.mem_append_left _ hx)) (fun e => by simp at e; exact absurd e ha)
      have hb := hd b (by simp)
      simp [isD] at hb
      have hv1 : 1 ≤ valL (a :: t) := by
        by_cases h2 : 2 ≤ (a :: t).length
        · exact hI.2 h2
        · have : t = [] := by
            cases t with
            | nil => rfl
            | cons x y => simp at h2
          subst this
          have hda := hd a (by simp)
          simp [isD] at hda
          have : a.toNat ≠ 48 := fun e => ha (UInt8.toNat_inj.1 (by simpa using e))
          simp [valL]; omega
      have hv := valL_snoc (a :: t) b
      refine ⟨?_, fun _ => by rw [hv]; omega⟩
      rw [hv, Lib.decDigits, dif_neg (by omega), show (10 * valL (a :: t) + (b.toNat - 48)) / 10 = valL (a :: t) by omega, hI.1, show 48 + (10 * valL (a :: t) + (b.toNat - 48)) % 10 = b.toNat by omega]
      simp
  have hl : l.length = (l.length - 1) + 1 := by
    have : l.length ≠ 0 := fun e => h0 (List.eq_nil_of_length_eq_zero e)
    omega
  exact (key (l.length - 1) l hl hd hz).1
theorem decDigits_head (u : Nat) (h : (Lib.decDigits u).head? = some 48) : Lib.decDigits u = [48] := by
  have key : ∀ u, 1 ≤ u → (Lib.decDigits u).head? ≠ some 48 := by
    intro u
    induction u using Nat.strongRecOn with
    | ind u ih =>
      intro h1 hh
      unfold Lib.decDigits at hh
      split at hh
      · next h =>
        have := congrArg UInt8.toNat (Option.some.inj hh)
        rw [dig_nat u h] at this
        have h48 : (48 : UInt8).toNat = 48 := rfl
        omega
      · next h =>
        have e : (Lib.decDigits (u / 10) ++ [UInt8.ofNat (48 + u % 10)]).head? = (Lib.decDigits (u / 10)).head? := by
          cases hq : Lib.decDigits (u / 10) with
          | nil => exact absurd hq (decDigits_ne _)
          | cons a t => rfl
        rw [e] at hh
        exact ih (u / 10) (by omega) (by omega) hh
  by_cases h1 : 1 ≤ u
  · exact absurd h (key u h1)
  · have : u = 0 := by omega
    subst this; rw [Lib.decDigits_one (by omega)]; rfl

/-- A number of more than 18 digits. -/
def longI (n : Int) : Prop := 999999999999999999 < n ∨ n < -999999999999999999
instance (n : Int) : Decidable (longI n) := by unfold longI; infer_instance

theorem nDigits_18 (u : Nat) : Lib.nDigits u ≤ 18 ↔ u ≤ 999999999999999999 := by
  constructor
  · intro h
    have h1 := Lib.lt_pow_nDigits u
    have h2 : 10 ^ Lib.nDigits u ≤ 10 ^ 18 := Nat.pow_le_pow_right (by omega) h
    have h3 : (10 : Nat) ^ 18 = 1000000000000000000 := by decide
    omega
  · intro h
    rcases Nat.lt_or_ge 18 (Lib.nDigits u) with hl | hl
    · exfalso
      have key : ∀ (k u : Nat), u < 10 ^ (k + 1) → Lib.nDigits u ≤ k + 1 := by
        intro k
        induction k with
        | zero => intro u hu; rw [Lib.nDigits_small (by simpa using hu)]; omega
        | succ k ih =>
          intro u hu
          by_cases h10 : u < 10
          · rw [Lib.nDigits_small h10]; omega
          · rw [Lib.nDigits_big h10]
            have := ih (u / 10) (by rw [Nat.pow_succ] at hu; omega)
            omega
      have := key 17 u (by have h3 : (10 : Nat) ^ (17 + 1) = 1000000000000000000 := by decide
                           omega)
      omega
    · exact hl

theorem trim_itoa (n : Int) : Lib.trimPrefix (Lib.itoa n) [45] = Lib.decDigits n.natAbs := by
  have hne : ∀ u, Lib.trimPrefix (Lib.decDigits u) [45] = Lib.decDigits u := by
    intro u
    unfold Lib.trimPrefix
    rw [if_neg]
    cases hq : Lib.decDigits u with
    | nil => simp [Lib.hasPrefix]
    | cons a t =>
      have ha := decDigits_isD u a (by rw [hq]; simp)
      simp [Lib.hasPrefix, List.isPrefixOf]
      intro e; subst e
      revert ha; decide
  unfold Lib.itoa
  split
  · simp [Lib.trimPrefix, Lib.hasPrefix, List.isPrefixOf]
  · have : n.toNat = n.natAbs := by omega
    rw [this]; exact hne _
theorem long_len (n : Int) : 18 < (Lib.trimPrefix (Lib.itoa n) [45]).length ↔ longI n := by
  rw [trim_itoa, Lib.decDigits_length]
  have := nDigits_18 n.natAbs
  unfold longI
  omega

theorem parse_digits (u : Nat) (hu : u ≤ 999999999999999999) (r : List UInt8) : Lib.parseUint10 0 (Lib.decDigits u ++ r) = Lib.parseUint10 u r := by
  induction u using Nat.strongRecOn generalizing r with
  | ind u ih =>
    by_cases h : u < 10
    · rw [Lib.decDigits_one h]
      simp only [List.singleton_append, Lib.parseUint10, dig_nat u h]
      rw [if_pos (by omega), if_neg (by omega), if_neg (by omega)]
      congr 1; omega
    · rw [Lib.decDigits, dif_neg h, List.append_assoc, ih (u / 10) (by omega) (by omega)]
      simp only [List.singleton_append, Lib.parseUint10, dig_nat (u % 10) (by omega)]
      rw [if_pos (by omega), if_neg (by omega), if_neg (by omega)]
      congr 1; omega
theorem mag_digits (u : Nat) (hu : u ≤ 999999999999999999) : Lib.parseMag (Lib.decDigits u) = .ok u := by
  unfold Lib.parseMag
  rw [if_neg (decDigits_ne u)]
  have := parse_digits u hu []
  rw [List.append_nil] at this
  rw [this]; rfl
theorem atoi_itoa (n : Int) (h : ¬ longI n) : Lib.atoiAll (Lib.itoa n) = .ok n := by
  unfold longI at h
  unfold Lib.itoa
  split
  · next hn =>
    simp only [Lib.atoiAll]
    rw [if_pos (by decide), mag_digits _ (by omega)]
    have h45 : (45 : UInt8).toNat = 45 := rfl
    have e : (-(n.natAbs : Int)) = n := by omega
    simp only [h45, not_true_eq_false, false_and, if_false, true_and, if_true, e]
    rw [if_neg (by omega)]
  · next hn =>
    cases hq : Lib.decDigits n.toNat with
    | nil => exact absurd hq (decDigits_ne _)
    | cons a t =>
      have ha := decDigits_isD n.toNat a (by rw [hq]; simp)
      simp [isD] at ha
      simp only [Lib.atoiAll]
      rw [if_neg (by omega), ← hq, mag_digits _ (by omega)]
      simp
      rw [if_neg (by omega), if_neg (by omega)]
      simp; omega
theorem itoa_inj {m n : Int} (h : Lib.itoa m = Lib.itoa n) : m = n := by
  have ha : m.natAbs = n.natAbs := by
    apply decDigits_inj; rw [← trim_itoa, ← trim_itoa, h]
  have hneg : ∀ u t, Lib.decDigits u ≠ 45 :: t := by
    intro u t e
    have := decDigits_isD u 45 (by rw [e]; simp)
    revert this; decide
  unfold Lib.itoa at h
  split at h <;> split at h
  · omega
  · exact absurd h.symm (hneg _ _)
  · exact absurd h (hneg _ _)
  · omega
/-- The numeral as a string. -/
def istr (n : Int) : ByteArray := ⟨(Lib.itoa n).toArray⟩
theorem istr_inj {m n : Int} (h : istr m = istr n) : m = n := itoa_inj (by have := congrArg (fun s => s.data.toList) h; simpa [istr] using this)
/-- The number that a word is. -/
def NumOf (s : ByteArray) : Option Int → Prop
  | some n => ¬ longI n ∧ s = istr n
  | none => ∀ n, ¬ longI n → s ≠ istr n
theorem NumOf.eq {s : ByteArray} {a b : Option Int} (h : NumOf s a) (k : NumOf s b) : a = b := by
  cases a <;> cases b
  · rfl
  · exact absurd k.2 (h _ k.1)
  · exact absurd h.2 (k _ h.1)
  · rw [istr_inj (h.2.symm.trans k.2)]
/-- What the reference reads, is a number. -/
theorem num_of_ref (neg : Bool) (t : List UInt8) (hd : ∀ b ∈ t, isD b = true) (h0 : t ≠ []) (hl : t.length ≤ 18) (hz : t.head? = some 48 → t = [48] ∧ neg = false) :
    NumOf ⟨((if neg then [45] else []) ++ t).toArray⟩ (some (if neg then -(valL t : Int) else valL t)) := by
  have hv := digits_numeral t hd h0 (fun e => (hz e).1)
  have hlt := valL_lt t.length t rfl hd
  have h18 : valL t < 1000000000000000000 := Nat.lt_of_lt_of_le hlt (Nat.le_trans (Nat.pow_le_pow_right (by omega) hl) (by decide))
  constructor
  · unfold longI; split <;> omega
  · unfold istr Lib.itoa
    cases neg with
    | false => simp [hv]
    | true =>
      have h1 : 1 ≤ valL t := by
        rcases Nat.eq_zero_or_pos (valL t) with e | e
        · rw [e, Lib.decDigits_one (by omega)] at hv
          have := (hz (by rw [← hv]; rfl)).2
          cases this
        · exact e
      simp only [if_true]
      rw [if_pos (by omega)]
      have : (-(valL t : Int)).natAbs = valL t := by omega
      rw [this, hv]; rfl
/-- A numeral has the form that the reference asks for. -/
theorem ref_of_num (n : Int) (h : ¬ longI n) : ∃ (neg : Bool) (t : List UInt8), istr n = ⟨((if neg then [45] else []) ++ t).toArray⟩ ∧ (∀ b ∈ t, isD b = true) ∧ t ≠ [] ∧ t.length ≤ 18 ∧ (t.head? = some 48 → t = [48] ∧ neg = false) := by
  unfold longI at h
  refine ⟨decide (n < 0), Lib.decDigits n.natAbs, ?_, decDigits_isD _, decDigits_ne _, ?_, ?_⟩
  · unfold istr Lib.itoa
    by_cases hn : n < 0
    · simp [hn]
    · have : n.toNat = n.natAbs := by omega
      simp [hn, this]
  · rw [Lib.decDigits_length]; exact (nDigits_18 _).2 (by omega)
  · intro e
    have h48 := decDigits_head _ e
    refine ⟨h48, ?_⟩
    have hv := decDigits_val n.natAbs
    rw [h48] at hv
    have : valL [48] = 0 := by decide
    simp; omega
end Go.Proofs.YtobaoekibnloiaaGreatDoor
/- The leaves of script: long, digit, named, kinds; the reader of words: next, number, name. Each once. -/
namespace Go.Proofs.YtobaoekibnloiaaGreatDoor
open Go Go.RowKit

/-- The library's variables hold what they should. -/
structure Env (w : World) : Prop where
  maxlen : ∃ m, w.cell? ⟨0, 0, none⟩ = some (.int .i64 m)
  tab : Lib.TabIs Tryz.prog w "internal/strconv.uint64pow10" .u64 Lib.pow10Tab
  syn : ∃ tp p, w.var? Tryz.prog "strconv.ErrSyntax" = some #[.iface tp p]
  rng : ∃ tp p, w.var? Tryz.prog "strconv.ErrRange" = some #[.iface tp p]
  size : 8 ≤ w.heap.size
theorem gPow : Tryz.prog.globalNamed "internal/strconv.uint64pow10" = some 1 := by kernel_rfl
theorem gSyn : Tryz.prog.globalNamed "strconv.ErrSyntax" = some 2 := by kernel_rfl
theorem gRng : Tryz.prog.globalNamed "strconv.ErrRange" = some 3 := by kernel_rfl
theorem Env.below {w w' : World} {B : Nat} (h : Env w) (hb : Below B w w') (hB : 8 ≤ B) : Env w' := by
  obtain ⟨⟨m, hm⟩, ht, ⟨t1, p1, h1⟩, ⟨t2, p2, h2⟩, hs⟩ := h
  exact ⟨⟨m, by rw [hb.cell (by simp; omega)]; exact hm⟩, var?_below hb gPow (by omega) ht, ⟨t1, p1, var?_below hb gSyn (by omega) h1⟩, ⟨t2, p2, var?_below hb gRng (by omega) h2⟩, Nat.le_trans hs hb.size⟩
theorem Env.but {w w' : World} {B b : Nat} (h : Env w) (hb : But B b w w') (hB : 8 ≤ B) (hbb : 8 ≤ b) : Env w' :=
  h.below (B := 8) ((hb.mono hB).below hbb) (Nat.le_refl _)

theorem itoa_any (n : Int) (hn : I64 n) (w : World) (hE : Env w) :
    Calls Tryz.prog 30 #[.int .i64 n] w fun e w' => e = .returned (.string (istr n)) ∧ Below w.heap.size w w' := by
  refine (Tryz.strconv_Itoa n hn.1 hn.2 w hE.tab).mono ?_
  rintro e w' ⟨rfl, k, os, rfl⟩
  exact ⟨rfl, Lib.below_grow _ _ (Nat.le_refl _) _ _⟩

/-- What Atoi returns. -/
def AtoiIs (s : ByteArray) (w : World) (e : Ending) (w' : World) : Prop := ∃ (n : Int) (v : Value), I64 n ∧ e = .returned (.tuple #[.int .i64 n, v]) ∧ (v = .nilIface ∧ Lib.atoiAll s.data.toList = .ok n ∨ (∃ tp p, v = .iface tp p) ∧ ∀ m, Lib.atoiAll s.data.toList ≠ .ok m) ∧ Below w.heap.size w w'
theorem below_bytes (w : World) (e : TypeId) (s : ByteArray) : Below w.heap.size w (Lib.bytesWorld w e s) :=
  ⟨rfl, rfl, rfl, by rw [Lib.bytesWorld_size]; omega, fun k hk => Lib.bytesWorld_at_old w e s k hk⟩
theorem atoi_any (s : ByteArray) (hs : s.size ≤ 281474976710656) (w : World) (hE : Env w) :
    Calls Tryz.prog 55 #[.string s] w (AtoiIs s w) := by
  rcases h : Lib.atoiAll s.data.toList with n | _ | _
  · refine (Tryz.strconv_Atoi_ok s (by omega) n h w).mono ?_
    rintro e w' ⟨rfl, hw⟩
    refine ⟨n, .nilIface, Lib.atoiAll_bounds h, rfl, Or.inl ⟨rfl, h⟩, ?_⟩
    rcases hw with rfl | ⟨t, rfl⟩
    · exact Below.refl _ _
    · exact below_bytes _ _ _
  · obtain ⟨tp, p, hv⟩ := hE.syn
    refine (Tryz.strconv_Atoi_syntax_var s hs (h.trans (by rfl)) tp p w hv).mono ?_
    rintro e w' ⟨N, rfl, _, _, hb⟩
    exact ⟨0, _, I64.zero, rfl, Or.inr ⟨⟨_, _, rfl⟩, fun m e => by rw [h] at e; cases e⟩, hb⟩
  · obtain ⟨tp, p, hv⟩ := hE.rng
    refine (Tryz.strconv_Atoi_range_var s hs h tp p w hv).mono ?_
    rintro e w' ⟨N, rfl, _, _, hb⟩
    exact ⟨_, _, by unfold Lib.atoiSat I64; split <;> omega, rfl, Or.inr ⟨⟨_, _, rfl⟩, fun m e => by rw [h] at e; cases e⟩, hb⟩

theorem long_any (n : Int) (hn : I64 n) (w : World) (hE : Env w) :
    Calls Tryz.prog 49 #[.int .i64 n] w fun e w' => e = .returned (.bool (decide (longI n))) ∧ Below w.heap.size w w' := by
  have hl := long_len n
  have hle : (Lib.trimPrefix (Lib.itoa n) [45]).length ≤ 20 := by
    rw [trim_itoa, Lib.decDigits_length]
    refine Lib.nDigits_le20 _ ?_
    have := hn.1; have := hn.2; omega
  obtain ⟨q, hq⟩ : ∃ q, q = decide (longI n) := ⟨_, rfl⟩
  rw [← hq]
  go_enter Tryz.func49, Tryz.ntmps49
  go_wp2_with fail
  refine (itoa_any n hn w hE).mono ?_
  rintro e w1 ⟨rfl, hb⟩
  go_wp2_with fail
  refine (Tryz.strings_TrimPrefix (istr n) ⟨#[45]⟩ w1).mono ?_
  rintro e w2 ⟨rfl, rfl⟩
  have e1 : (istr n).data.toList = Lib.itoa n := by simp [istr]
  have e2 : (⟨#[45]⟩ : ByteArray).data.toList = [45] := rfl
  rw [e1, e2]
  generalize Lib.trimPrefix (Lib.itoa n) [45] = t at *
  obtain rfl : q = decide ((18 : Int) < (t.length : Int)) := by
    rw [hq, decide_eq_decide, ← hl]; omega
  clear hl hq
  go_wp2_with fail
  go_ret
  exact ⟨rfl, hb⟩

/-- The value of a hexadecimal digit. -/
def hexV (c : UInt8) : Option Nat := if 48 ≤ c.toNat ∧ c.toNat ≤ 57 then some (c.toNat - 48) else if 97 ≤ c.toNat ∧ c.toNat ≤ 102 then some (c.toNat - 87) else none
set_option maxRecDepth 100000 in
theorem index_hex : ∀ c : UInt8, Lib.indexByte [48, 49, 50, 51, 52, 53, 54, 55, 56, 57, 97, 98, 99, 100, 101, 102] c = match hexV c with | some n => (n : Int) | none => -1 := by
  intro c
  have h : ∀ n : Fin 256, Lib.indexByte [48, 49, 50, 51, 52, 53, 54, 55, 56, 57, 97, 98, 99, 100, 101, 102] (UInt8.ofNat n.1) = match hexV (UInt8.ofNat n.1) with | some n => (n : Int) | none => -1 := by decide
  have := h ⟨c.toNat, c.toNat_lt⟩
  simpa using this
theorem hexV_lt {c : UInt8} {n : Nat} (h : hexV c = some n) : n < 16 := by
  unfold hexV at h
  split at h
  · injection h; omega
  · split at h
    · injection h; omega
    · cases h
theorem digit_any (c : UInt8) (w : World) :
    Calls Tryz.prog 54 #[.int .u8 c.toNat] w fun e w' => e = .returned (.tuple #[.int .u8 ((hexV c).getD 0 : Nat), .bool (hexV c).isSome]) ∧ w' = w := by
  have hix := index_hex c
  go_enter Tryz.func54, Tryz.ntmps54
  go_wp2_with fail
  refine (Tryz.strings_IndexByte _ _ w).mono ?_
  rintro e w1 ⟨rfl, rfl⟩
  have e1 : ((c.toNat : Int)).toNat.toUInt8 = c := by simp
  rw [e1, show (⟨#[48, 49, 50, 51, 52, 53, 54, 55, 56, 57, 97, 98, 99, 100, 101, 102]⟩ : ByteArray).data.toList = [48, 49, 50, 51, 52, 53, 54, 55, 56, 57, 97, 98, 99, 100, 101, 102] from rfl, hix]
  clear hix
  cases hv : hexV c with
  | some n =>
    have hn := hexV_lt hv
    have hm : max (n : Int) 0 = n := by omega
    go_wp2_with fail
    exact bodyPost_ret (v := .tuple #[.int .u8 n, .bool true]) (by simp [results, Tryz.results54, go_sem]) rfl ⟨by simp [hv], rfl⟩
  | none =>
    go_wp2_with fail
    exact bodyPost_ret (v := .tuple #[.int .u8 0, .bool false]) (by simp [results, Tryz.results54, go_sem, show max (-1 : Int) 0 = 0 from rfl]) rfl ⟨by simp [hv], rfl⟩

/-- The words that have not been read, and whether they do not fit. -/
def Cur (w : World) (pb : Nat) (ws : List ByteArray) (bad : Bool) : Prop :=
  ∃ (a : Option Addr) (cap : Nat), ws.length ≤ cap ∧ cap ≤ 1000000 ∧ w.cell? ⟨pb, 0, none⟩ = some (.slice a ws.length cap) ∧ w.cell? ⟨pb, 1, none⟩ = some (.bool bad) ∧ w.frozen? ⟨pb, 0, none⟩ = false ∧ w.frozen? ⟨pb, 1, none⟩ = false ∧
    (∀ i, i < ws.length → ∃ ab ao : Nat, a = some ⟨ab, ao, none⟩ ∧ ab < pb ∧ w.cell? ⟨ab, ao + i, none⟩ = some (.string (ws.getD i ByteArray.empty)))
theorem Cur.lt {w : World} {pb : Nat} {ws : List ByteArray} {bad : Bool} (h : Cur w pb ws bad) : pb < w.heap.size := by
  obtain ⟨a, cap, _, _, h0, _⟩ := h
  exact World.block_lt_of_cell? (a := ⟨pb, 0, none⟩) _ h0
theorem Cur.of_same {w w' : World} {pb : Nat} {ws : List ByteArray} {bad : Bool} (h : Cur w pb ws bad) (hb : ∀ k, k < w.heap.size → w'.heap[k]? = w.heap[k]?) : Cur w' pb ws bad := by
  have hlt := h.lt
  obtain ⟨a, cap, h1, h2, h3, h4, h5, h6, h7⟩ := h
  refine ⟨a, cap, h1, h2, ?_, ?_, ?_, ?_, ?_⟩
  · rw [World.cell?_of_block (w := w) (hb _ hlt)]; exact h3
  · rw [World.cell?_of_block (w := w) (hb _ hlt)]; exact h4
  · rw [World.frozen?_of_block (w := w) (hb _ hlt)]; exact h5
  · rw [World.frozen?_of_block (w := w) (hb _ hlt)]; exact h6
  · intro i hi
    obtain ⟨ab, ao, ha, hn, hc⟩ := h7 i hi
    refine ⟨ab, ao, ha, hn, ?_⟩
    have e : w'.cell? ⟨ab, ao + i, none⟩ = w.cell? ⟨ab, ao + i, none⟩ := World.cell?_of_block (w := w) (hb _ (World.block_lt_of_cell? (a := ⟨ab, ao + i, none⟩) _ hc))
    rw [e]; exact hc
theorem Cur.below {w w' : World} {pb : Nat} {ws : List ByteArray} {bad : Bool} (h : Cur w pb ws bad) (hb : Below w.heap.size w w') : Cur w' pb ws bad := h.of_same hb.block
/-- The mark that the words do not fit. -/
theorem Cur.mark {w : World} {pb : Nat} {ws : List ByteArray} {bad : Bool} (h : Cur w pb ws bad) (q : Bool) : Cur (w.setCell ⟨pb, 1, none⟩ (.bool q)) pb ws q := by
  obtain ⟨a, cap, h1, h2, h3, h4, h5, h6, h7⟩ := h
  refine ⟨a, cap, h1, h2, ?_, ?_, ?_, ?_, ?_⟩
  · rw [World.cell?_setCell_other _ _ _ _ (by simp)]; exact h3
  · exact World.cell?_setCell_same _ _ _ h4
  · rw [← h5]; simp
  · rw [← h6]; simp
  · intro i hi
    obtain ⟨ab, ao, ha, hn, hc⟩ := h7 i hi
    exact ⟨ab, ao, ha, hn, by rw [World.cell?_setCell_other _ _ _ _ (by simp)]; exact hc⟩

/-- A call of the reader that returns a word. -/
def NextIs (pb : Nat) (ws : List ByteArray) (bad : Bool) (w : World) (e : Ending) (w' : World) : Prop :=
  e = .returned (.string (ws.headD ByteArray.empty)) ∧ Cur w' pb ws.tail (bad || ws.isEmpty) ∧ But w.heap.size pb w w'
set_option maxHeartbeats 1000000 in
theorem next_any (pb : Nat) (ws : List ByteArray) (bad : Bool) (w : World) (h : Cur w pb ws bad) :
    Calls Tryz.prog 34 #[.pointer (some ⟨pb, 0, none⟩)] w (NextIs pb ws bad w) := by
  have H := Lib.hid h
  obtain ⟨a, cap, h1, h2, h3, h4, h5, h6, h7⟩ := h
  cases ws with
  | nil =>
    go_enter Tryz.func34, Tryz.ntmps34
    go_wp2_with fail
    go_ret
    refine ⟨rfl, ?_, (But.refl _ _ _).setCell (p := ⟨pb, 1, none⟩) (Or.inr rfl) _⟩
    have := H.out.mark true
    simpa using this
  | cons s r =>
    obtain ⟨ab, ao, rfl, hn, hc⟩ := h7 0 (by simp)
    have hc0 : w.cell? ⟨ab, ao, none⟩ = some (.string s) := by simpa using hc
    have H7 := Lib.hid h7
    have hl : (s :: r).length = r.length + 1 := rfl
    rw [hl] at h1 h3
    clear h7 hc
    go_enter Tryz.func34, Tryz.ntmps34
    have Hfin : Hid (∀ (A : Option Addr), (r.length ≠ 0 → A = some ⟨ab, ao + 1, none⟩) → NextIs pb (s :: r) bad w (.returned (.string s)) (w.setCell ⟨pb, 0, none⟩ (.slice A r.length (cap - 1)))) := by
      intro A hA
      refine ⟨rfl, ⟨A, cap - 1, by simp; omega, by omega, ?_, ?_, ?_, ?_, ?_⟩, (But.refl _ _ _).setCell (p := ⟨pb, 0, none⟩) (Or.inr rfl) _⟩
      · exact World.cell?_setCell_same _ _ _ h3
      · rw [World.cell?_setCell_other _ _ _ _ (by simp)]; simpa using h4
      · rw [← h5]; simp
      · rw [← h6]; simp
      · intro i hi
        have hi' : i < r.length := hi
        obtain ⟨ab', ao', e', hn', hc'⟩ := H7.out (i + 1) (by simp; omega)
        obtain ⟨rfl, rfl⟩ : ab = ab' ∧ ao = ao' := by simpa using e'
        refine ⟨ab, ao + 1, hA (by omega), hn, ?_⟩
        rw [World.cell?_setCell_other _ _ _ _ (by simp), show ao + 1 + i = ao + (i + 1) by omega]
        simpa using hc'
    go_wp2_with fail
    · obtain rfl : cap = 1 := by assumption
      have hr : r.length = 0 := by omega
      go_ret
      exact Hfin.out _ (fun hh => absurd hr hh)
    · go_ret
      exact Hfin.out _ (fun _ => rfl)

theorem istr_ne (n : Int) : istr n ≠ ByteArray.empty := by
  intro h
  have h1 : (Lib.itoa n) = [] := by
    have := congrArg (fun s => s.data.toList) h
    simpa [istr] using this
  unfold Lib.itoa at h1
  split at h1
  · cases h1
  · exact decDigits_ne _ h1
theorem str_ne {a b : ByteArray} (h : a ≠ b) : (a.toList == b.toList) = false := (Lib.bytes_beq_false_iff a b).2 h
theorem str_bne {a b : ByteArray} (h : a ≠ b) : (a.toList != b.toList) = true := by simp [bne, str_ne h]
/-- A call of the reader that returns a number. -/
def NumIs (pb : Nat) (ws : List ByteArray) (bad : Bool) (w : World) (e : Ending) (w' : World) : Prop :=
  ∃ (n : Int) (bad' : Bool), I64 n ∧ e = .returned (.int .i64 n) ∧ (bad' = false → bad = false ∧ ¬ longI n ∧ ws.headD ByteArray.empty = istr n) ∧ (bad = false → ∀ m, ¬ longI m → ws.headD ByteArray.empty = istr m → bad' = false) ∧ Cur w' pb ws.tail bad' ∧ But w.heap.size pb w w'
set_option maxHeartbeats 1000000 in
theorem number_any (pb : Nat) (ws : List ByteArray) (bad : Bool) (w : World) (h : Cur w pb ws bad) (hE : Env w) (hpb : 8 ≤ pb) (hsz : ∀ s ∈ ws, s.size ≤ 1000000) :
    Calls Tryz.prog 36 #[.pointer (some ⟨pb, 0, none⟩)] w (NumIs pb ws bad w) := by
  have hlt := h.lt
  have hs8 := hE.size
  have hss : (ws.headD ByteArray.empty).size ≤ 1000000 := by
    cases ws with
    | nil => exact Nat.zero_le _
    | cons s r => exact hsz s (by simp)
  have hnil : ∀ m, ws.headD ByteArray.empty = istr m → ws.isEmpty = false := by
    intro m hm
    cases ws with
    | nil => exact absurd hm.symm (istr_ne m)
    | cons s r => rfl
  have Hn := Lib.hid hnil
  clear hnil hsz
  go_enter Tryz.func36, Tryz.ntmps36
  go_wp2_with fail
  refine (next_any pb ws bad w h).mono ?_
  rintro e w1 ⟨rfl, hc1, hb1⟩
  have hE1 := hE.but hb1 hs8 hpb
  obtain ⟨s, hs⟩ : ∃ s, s = ws.headD ByteArray.empty := ⟨_, rfl⟩
  rw [← hs] at hss ⊢
  have Hs := Lib.hid hs
  have Hc1 := Lib.hid hc1
  have Hb1 := Lib.hid hb1
  have hsize := hb1.size
  clear hs hc1 hb1 h
  go_wp2_with fail
  refine (atoi_any s (by omega) w1 hE1).mono ?_
  rintro e w2 ⟨n, v, hn, rfl, hv, hb2⟩
  have hE2 := hE1.below hb2 hE1.size
  have Hc2 := Lib.hid (Hc1.out.below hb2)
  have Hb2 := Lib.hid (Hb1.out.trans (But.of_below (hb2.mono hsize)))
  have Hbad : Hid (∀ wx, Below w2.heap.size w2 wx → (∀ m, ¬ longI m → s ≠ istr m) → NumIs pb ws bad w (.returned (.int .i64 0)) (wx.setCell ⟨pb, 1, none⟩ (.bool true))) := by
    intro wx hx hno
    refine ⟨0, true, I64.zero, rfl, fun h => absurd h (by simp), fun _ m hm e => absurd (Hs.out.trans e) (hno m hm), (Hc2.out.below hx).mark true, ?_⟩
    exact (Hb2.out.trans (But.of_below (hx.mono (Nat.le_trans hsize hb2.size)))).setCell (p := ⟨pb, 1, none⟩) (Or.inr rfl) _
  have hcellp : ∀ wx, Below w2.heap.size w2 wx → wx.frozen? ⟨pb, 1, none⟩ = false ∧ ∃ q, wx.cell? ⟨pb, 1, none⟩ = some (.bool q) := by
    intro wx hx
    obtain ⟨_, _, _, _, _, h4, _, h6, _⟩ := Hc2.out.below hx
    exact ⟨h6, _, h4⟩
  rcases hv with ⟨rfl, ha⟩ | ⟨⟨tp, p, rfl⟩, ha⟩
  · have ha' := Lib.hid ha
    clear ha
    go_wp2_with fail
    refine (itoa_any n hn w2 hE2).mono ?_
    rintro e w3 ⟨rfl, hb3⟩
    have hE3 := hE2.below hb3 hE2.size
    by_cases hq : istr n = s
    · subst hq
      go_wp2_with fail
      refine (long_any n hn w3 hE3).mono ?_
      rintro e w4 ⟨rfl, hb4⟩
      have hb34 := below_then hb3 hb4
      by_cases hl : longI n
      · have hl' : decide (longI n) = true := by simpa using hl
        rw [hl']
        obtain ⟨hfz, q, hcq⟩ := hcellp w4 hb34
        have Hl := Lib.hid hl
        clear hl hl' hcellp
        go_wp2_with fail
        go_ret
        exact Hbad.out w4 hb34 (fun m hm e => hm (istr_inj e ▸ Hl.out))
      · have hl' : decide (longI n) = false := by simpa using hl
        rw [hl']
        have Hl := Lib.hid hl
        clear hl hl' hcellp
        go_wp2_with fail
        go_ret
        refine ⟨n, _, hn, rfl, fun h => ⟨?_, Hl.out, Hs.out.symm⟩, fun h m hm e => ?_, Hc2.out.below hb34, Hb2.out.trans (But.of_below (hb34.mono (Nat.le_trans hsize hb2.size)))⟩
        · simp at h; exact h.1
        · simp [h, Hn.out m e]
    · have hne := str_bne hq
      have hne2 := str_ne hq
      obtain ⟨hfz, q, hcq⟩ := hcellp w3 hb3
      have Hq := Lib.hid hq
      clear hq hcellp
      go_wp2_with fail
      go_ret
      refine Hbad.out w3 hb3 (fun m hm e => Hq.out ?_)
      have hm2 := atoi_itoa m hm
      have ha := ha'.out
      rw [e] at ha
      have e1 : (istr m).data.toList = Lib.itoa m := by simp [istr]
      rw [e1, hm2] at ha
      injection ha with ha
      rw [e, ha]
  · have ha' := Lib.hid ha
    obtain ⟨hfz, q, hcq⟩ := hcellp w2 (Below.refl _ _)
    clear ha hcellp
    go_wp2_with fail
    go_ret
    refine Hbad.out w2 (Below.refl _ _) (fun m hm e => ha'.out m ?_)
    rw [e]
    have e1 : (istr m).data.toList = Lib.itoa m := by simp [istr]
    rw [e1]; exact atoi_itoa m hm
end Go.Proofs.YtobaoekibnloiaaGreatDoor
/- Slices of the call's own, of any type: append of a literal, in plain code and in a region that draws. -/
namespace Go.Proofs.YtobaoekibnloiaaGreatDoor
open Go Go.RowKit

theorem ownsRow_of_same {w w' : World} {base : Nat} {e : TypeId} {sz n : Nat} {v : Value} {cs : List Value} (h : w.ownsRow base e sz v n cs) (hb : ∀ k, base ≤ k → k < w.heap.size → w'.heap[k]? = w.heap[k]?) : w'.ownsRow base e sz v n cs := by
  obtain ⟨h1, h2⟩ := h
  refine ⟨h1, ?_⟩
  rcases h2 with h2 | ⟨g, cap, cur, e, hg, hh, h3, h4, h5, h6⟩
  · exact Or.inl h2
  · have hlt : g < w.heap.size := by
      rcases Nat.lt_or_ge g w.heap.size with q | q
      · exact q
      · rw [Array.getElem?_eq_none q] at hh; cases hh
    exact Or.inr ⟨g, cap, cur, e, hg, by rw [hb g hg hlt]; exact hh, h3, h4, h5, h6⟩
theorem ownsRow_below {w w' : World} {base : Nat} {e : TypeId} {sz n : Nat} {v : Value} {cs : List Value} (h : w.ownsRow base e sz v n cs) (hb : Below w.heap.size w w') : w'.ownsRow base e sz v n cs := ownsRow_of_same h (fun k _ hk => hb.block k hk)
theorem ownsRow_but {w w' : World} {base b : Nat} {e : TypeId} {sz n : Nat} {v : Value} {cs : List Value} (h : w.ownsRow base e sz v n cs) (hb : But w.heap.size b w w') (hbb : b < base) : w'.ownsRow base e sz v n cs := ownsRow_of_same h (fun k h1 hk => hb.block k hk (by omega))

/-- append(v, news..), the news in a new block. -/
theorem append_new (st e : TypeId) {z : Value} {sz by_ : Nat} (hu : Tryz.prog.underlying st = some (.slice e)) (hinfo : (Tryz.prog.info? e).map (fun i => (i.zero, i.size, i.bytes)) = some (some z, sz, by_)) (hz : z.cells.size = sz) (hsz : 0 < sz)
    {w : World} {base n : Nat} {v : Value} {cs : List Value} (h : w.ownsRow base e sz v n cs) (news : List Value) (k : Nat) (hk : news.length = k * sz) (hone : ∀ u ∈ news, u.oneCell' = true) (hn : n ≤ 1000000000) (hk1 : k ≤ 1000000000) (hsz1 : by_ ≤ 1000) (hb : base ≤ w.heap.size) (ty : TypeId) :
    ∃ (v' : Value) (w' : World), (Builtin.append_ #[st, st] ty #[v, .slice (some ⟨w.heap.size, 0, none⟩) k k]).run Tryz.prog (w.alloc (.cells news.toArray e)) = .ok v' w' ∧
      w'.ownsRow base e sz v' (n + k) (cs ++ news) ∧ Below base w w' := by
  obtain ⟨i0, hi, hz0, hz1, hz2⟩ := info_parts hinfo
  have hA := World.ownsRow.alloc h (.cells news.toArray e)
  have hm : (n + k) * by_ ≤ 2000000000 * 1000 := Nat.mul_le_mul (by omega) hsz1
  obtain ⟨v', w', h1, h2, h3, _⟩ := run_append_own (P := Tryz.prog) (w.alloc (.cells news.toArray e)) base st ty e i0 z sz by_ hu hi hz0 hz1 hz2 hz (by omega)
    v n cs hA ⟨w.heap.size, 0, none⟩ k k news hk (World.news_of_block (cs := news.toArray) (t := e) (fr := (0, 0)) (heap_alloc_new w _)) hone (by unfold maxLen; omega) (by omega) (by simp; omega)
  exact ⟨v', w', h1, h2, ((Below.refl base w).alloc hb _).grown h3 (by simp; omega) (fun k hk => (World.ownsRow.lt hA k hk).1)⟩

/-- An append whose run is known. -/
theorem wpList_append_run {P : Program} {w : World} {ops : Array Oper} {rest : List Oper} {o : Oper} {a : Act} {Q : Exit → Act → World → Prop} (hgd : o.guard = none) (s x : Operand) (t : TypeId)
    (ho : o.op = .call { callee := .builtin .append, args := #[s, x], argTypes := #[t, t] }) (v xv v' : Value) (w' : World) (hs : a.eval s = v) (hx : a.eval x = xv)
    (hrun : (Builtin.append_ #[t, t] o.type #[v, xv]).run P w = .ok v' w') (h : wpList P ops Q rest (a.put o.dst v') w') : wpList P ops Q (o :: rest) a w := by
  refine wpList_plain hgd fun K hK => ?_
  unfold Oper.wp execOp
  simp only [ho, resolve, invoke, builtin, Sem.run_bind, Sem.run_pure, Result.andThen_ok, List.map_toArray, List.map_cons, List.map_nil, hs, hx, hrun]
  exact hK _ _ h
/-- The same as a step of a region that draws. -/
theorem step_append_run {P : Program} {ops : Array Oper} {o : Oper} {a : Act} {w : World} {K : Act → World → Prop} {Q : Exit → Act → World → Prop} {E : Prop} (hgd : o.guard = none) (s x : Operand) (t : TypeId)
    (ho : o.op = .call { callee := .builtin .append, args := #[s, x], argTypes := #[t, t] }) (v xv v' : Value) (w' : World) (hs : a.eval s = v) (hx : a.eval x = xv)
    (hrun : (Builtin.append_ #[t, t] o.type #[v, xv]).run P w = .ok v' w') (h : K (a.put o.dst v') w') :
    if Region.wanted o (yielded ops a.tmps) = true then Oper.wp P o a w K Q else E := by
  have hw : Region.wanted o (yielded ops a.tmps) = true := by simp [Region.wanted, hgd]
  rw [if_pos hw]
  unfold Oper.wp execOp
  simp only [ho, resolve, invoke, builtin, Sem.run_bind, Sem.run_pure, Result.andThen_ok, List.map_toArray, List.map_cons, List.map_nil, hs, hx, hrun]
  exact h

/-- append(v, news..), wherever the news lie. -/
theorem append_at (st e : TypeId) {z : Value} {sz by_ : Nat} (hu : Tryz.prog.underlying st = some (.slice e)) (hinfo : (Tryz.prog.info? e).map (fun i => (i.zero, i.size, i.bytes)) = some (some z, sz, by_)) (hz : z.cells.size = sz) (hsz : 0 < sz)
    {w : World} {base n : Nat} {v : Value} {cs : List Value} (h : w.ownsRow base e sz v n cs) (A : Addr) (k c : Nat) (news : List Value) (hk : news.length = k * sz) (hnews : ∀ j u, news[j]? = some u → w.cell? (A.add j) = some u) (hone : ∀ u ∈ news, u.oneCell' = true) (hn : n ≤ 1000000000) (hk1 : k ≤ 1000000000) (hsz1 : by_ ≤ 1000) (hb : base ≤ w.heap.size) (ty : TypeId) :
    ∃ (v' : Value) (w' : World), (Builtin.append_ #[st, st] ty #[v, .slice (some A) k c]).run Tryz.prog w = .ok v' w' ∧
      w'.ownsRow base e sz v' (n + k) (cs ++ news) ∧ Below base w w' ∧ w.grownBy w' v.ownBlock := by
  obtain ⟨i0, hi, hz0, hz1, hz2⟩ := info_parts hinfo
  have hm : (n + k) * by_ ≤ 2000000000 * 1000 := Nat.mul_le_mul (by omega) hsz1
  obtain ⟨v', w', h1, h2, h3, _⟩ := run_append_own (P := Tryz.prog) w base st ty e i0 z sz by_ hu hi hz0 hz1 hz2 hz (by omega)
    v n cs h A k c news hk hnews hone (by unfold maxLen; omega) (by omega) hb
  exact ⟨v', w', h1, h2, (Below.refl base w).grown h3 hb (fun k hk => (World.ownsRow.lt h k hk).1), h3⟩

theorem binfo : (Tryz.prog.info? 5).map (fun i => (i.zero, i.size, i.bytes)) = some (some (.int .u8 0), 1, 1) := by kernel_rfl
theorem sinfo : (Tryz.prog.info? 9).map (fun i => (i.zero, i.size, i.bytes)) = some (some (.string ⟨#[]⟩), 1, 16) := by kernel_rfl

/-- The cells of bytes. -/
def bcs (l : List UInt8) : List Value := l.map fun b => .int .u8 b.toNat
theorem bcs_one (l : List UInt8) : ∀ u ∈ bcs l, u.oneCell' = true := by
  intro u hu
  obtain ⟨b, _, rfl⟩ := List.mem_map.1 hu
  rfl
/-- Bytes that lie at an address. -/
def BytesAt (w : World) (A : Addr) (l : List UInt8) : Prop := ∀ j u, (bcs l)[j]? = some u → w.cell? (A.add j) = some u
theorem step_bytes {ops : Array Oper} {o : Oper} {a : Act} {w : World} {K : Act → World → Prop} {Q : Exit → Act → World → Prop} {E : Prop} (hgd : o.guard = none) (s x : Operand)
    (ho : o.op = .call { callee := .builtin .append, args := #[s, x], argTypes := #[22, 22] }) (base : Nat) (v : Value) (l : List UInt8) (hs : a.eval s = v) (hown : w.ownsRow base 5 1 v l.length (bcs l))
    (A : Addr) (m : List UInt8) (k c : Nat) (hx : a.eval x = .slice (some A) k c) (hk : m.length = k) (hr : BytesAt w A m) (hn : l.length ≤ 1000000000) (hm : m.length ≤ 1000000000) (hb : base ≤ w.heap.size)
    (h : ∀ v' w', w'.ownsRow base 5 1 v' (l ++ m).length (bcs (l ++ m)) → Below base w w' → K (a.put o.dst v') w') :
    if Region.wanted o (yielded ops a.tmps) = true then Oper.wp Tryz.prog o a w K Q else E := by
  subst hk
  obtain ⟨v', w', h1, h2, h3, _⟩ := append_at 22 5 Tryz.underlying22 binfo rfl (by decide) hown A m.length c (bcs m) (by simp [bcs]) hr (bcs_one m) hn hm (by decide) hb o.type
  have e1 : bcs (l ++ m) = bcs l ++ bcs m := by simp [bcs]
  refine step_append_run hgd s x _ ho v _ v' w' hs hx h1 (h v' w' ?_ h3)
  rw [e1, List.length_append]; exact h2
theorem bytes_two (w : World) {H : Nat} (hH : w.heap.size = H) {p q : Int} {c d : UInt8} (hp : p = c.toNat) (hq : q = d.toNat) : BytesAt (w.alloc (.cells #[.int .u8 p, .int .u8 q] 5)) ⟨H, 0, none⟩ [c, d] := by
  subst hH hp hq
  exact World.news_of_block (cs := #[.int .u8 c.toNat, .int .u8 d.toNat]) (t := 5) (fr := (0, 0)) (heap_alloc_new w _)
theorem bytes_one (w : World) {H : Nat} (hH : w.heap.size = H) {p : Int} {c : UInt8} (hp : p = c.toNat) : BytesAt (w.alloc (.cells #[.int .u8 p] 5)) ⟨H, 0, none⟩ [c] := by
  subst hH hp
  exact World.news_of_block (cs := #[.int .u8 c.toNat]) (t := 5) (fr := (0, 0)) (heap_alloc_new w _)
/-- The bytes back as a string. -/
theorem own_back {w : World} {base : Nat} {v : Value} {l : List UInt8} (h : w.ownsRow base 5 1 v l.length (bcs l)) (h0 : 0 < l.length) :
    ∃ (g cap : Nat), v = .slice (some ⟨g, 0, none⟩) l.length cap ∧ (convert 22 9 (.slice (some ⟨g, 0, none⟩) l.length cap)).run Tryz.prog w = .ok (.string ⟨l.toArray⟩) w := by
  have h' := h
  obtain ⟨_, h2⟩ := h
  rcases h2 with ⟨_, h2⟩ | ⟨g, cap, cur, e, h5, _, h3, h4, _⟩
  · omega
  · refine ⟨g, cap, e, run_convert_bytes_back (P := Tryz.prog) w 22 9 5 ⟨g, 0, none⟩ cap l Tryz.underlying22 Tryz.underlying5 Tryz.underlying9 (fun j hj => ?_)⟩
    have := World.ownsRow.cells h' (g := g) (by rw [e]; rfl) j (.int .u8 l[j].toNat) (by simp [bcs, hj])
    exact this
theorem append_bytes {w : World} {base : Nat} {v : Value} {l : List UInt8} (h : w.ownsRow base 5 1 v l.length (bcs l)) (m : List UInt8) (hn : l.length ≤ 1000000000) (hm : m.length ≤ 1000000000) (hb : base ≤ w.heap.size) (ty : TypeId) :
    ∃ (v' : Value) (w' : World), (Builtin.append_ #[22, 22] ty #[v, .slice (some ⟨w.heap.size, 0, none⟩) m.length m.length]).run Tryz.prog (w.alloc (.cells (bcs m).toArray 5)) = .ok v' w' ∧
      w'.ownsRow base 5 1 v' (l ++ m).length (bcs (l ++ m)) ∧ Below base w w' := by
  have h1 := append_new 22 5 Tryz.underlying22 binfo rfl (by decide) h (bcs m) m.length (by simp [bcs]) (bcs_one m) hn hm (by decide) hb ty
  have e1 : bcs (l ++ m) = bcs l ++ bcs m := by simp [bcs]
  rw [e1, List.length_append]
  exact h1
end Go.Proofs.YtobaoekibnloiaaGreatDoor
/- Bytes as a word of hexadecimal digits: script's and the reference's writer. Each once. -/
namespace Go.Proofs.YtobaoekibnloiaaGreatDoor
open Go Go.RowKit

/-- A hexadecimal digit. -/
def hd (n : Nat) : UInt8 := if n < 10 then UInt8.ofNat (48 + n) else UInt8.ofNat (87 + n)
/-- Bytes as digits, and as a word. -/
def hexL : List UInt8 → List UInt8
  | [] => []
  | c :: r => hd (c.toNat / 16) :: hd (c.toNat % 16) :: hexL r
def hexS (l : List UInt8) : ByteArray := if l = [] then ⟨#[45]⟩ else ⟨(hexL l).toArray⟩
theorem hexL_append (a b : List UInt8) : hexL (a ++ b) = hexL a ++ hexL b := by
  induction a with
  | nil => rfl
  | cons c r ih => simp [hexL, ih]
theorem hexL_length (l : List UInt8) : (hexL l).length = 2 * l.length := by
  induction l with
  | nil => rfl
  | cons c r ih => simp [hexL, ih]; omega
theorem hexV_hd (n : Nat) (h : n < 16) : hexV (hd n) = some n := (by decide : ∀ y : Fin 16, hexV (hd y.1) = some y.1) ⟨n, h⟩
theorem hd_hexV {c : UInt8} {n : Nat} (h : hexV c = some n) : c = hd n := by
  have key : ∀ m : Fin 256, ∀ n, hexV (UInt8.ofNat m.1) = some n → UInt8.ofNat m.1 = hd n := by
    intro m n
    unfold hexV hd
    have hm : (UInt8.ofNat m.1).toNat = m.1 := by simp
    rw [hm]
    intro h
    split at h
    · injection h with h; subst h
      rw [if_pos (by omega), show 48 + (m.1 - 48) = m.1 by omega]
    · split at h
      · injection h with h; subst h
        rw [if_neg (by omega), show 87 + (m.1 - 87) = m.1 by omega]
      · cases h
  have := key ⟨c.toNat, c.toNat_lt⟩ n (by simpa using h)
  simpa using this

/-- v is a slice that holds the bytes. -/
def BytesIn (w : World) (v : Value) (l : List UInt8) : Prop :=
  ∃ (a : Option Addr) (cap : Nat), v = .slice a l.length cap ∧ l.length ≤ 1000000 ∧ ∀ i, i < l.length → ∃ ab ao : Nat, a = some ⟨ab, ao, none⟩ ∧ w.cell? ⟨ab, ao + i, none⟩ = some (.int .u8 (l.getD i 0).toNat)
theorem BytesIn.below {w w' : World} {v : Value} {l : List UInt8} (h : BytesIn w v l) (hb : Below w.heap.size w w') : BytesIn w' v l := by
  obtain ⟨a, cap, h1, h2, h3⟩ := h
  refine ⟨a, cap, h1, h2, fun i hi => ?_⟩
  obtain ⟨ab, ao, ha, hc⟩ := h3 i hi
  exact ⟨ab, ao, ha, cell_then hb hc⟩
/-- A digit of the table. -/
theorem tab_hd (n : Nat) (h : n < 16) : (#[48, 49, 50, 51, 52, 53, 54, 55, 56, 57, 97, 98, 99, 100, 101, 102] : Array UInt8)[n]? = some (hd n) := (by decide : ∀ y : Fin 16, (#[48, 49, 50, 51, 52, 53, 54, 55, 56, 57, 97, 98, 99, 100, 101, 102] : Array UInt8)[y.1]? = some (hd y.1)) ⟨n, h⟩

theorem tab_get (n : Nat) (h : n < (⟨#[48, 49, 50, 51, 52, 53, 54, 55, 56, 57, 97, 98, 99, 100, 101, 102]⟩ : ByteArray).size) : (⟨#[48, 49, 50, 51, 52, 53, 54, 55, 56, 57, 97, 98, 99, 100, 101, 102]⟩ : ByteArray)[n] = hd n := (by decide : ∀ y : Fin 16, (⟨#[48, 49, 50, 51, 52, 53, 54, 55, 56, 57, 97, 98, 99, 100, 101, 102]⟩ : ByteArray)[y.1] = hd y.1) ⟨n, h⟩

set_option maxHeartbeats 1000000 in
set_option maxRecDepth 100000 in
theorem hexadecimal_any (v : Value) (l : List UInt8) (w : World) (h : BytesIn w v l) :
    Calls Tryz.prog 31 #[v] w fun e w' => e = .returned (.string (hexS l)) ∧ Below w.heap.size w w' := by
  obtain ⟨a, cap, rfl, hlen, hel⟩ := h
  have Hel := Lib.hid hel
  clear hel
  by_cases h0 : l = []
  · subst h0
    go_enter Tryz.func31, Tryz.ntmps31
    go_wp2_with fail
    go_ret
    exact ⟨rfl, Below.refl _ _⟩
  · have hpos : 0 < l.length := List.length_pos_iff.2 h0
    have hne : ((l.length : Int) == 0) = false := by simp; omega
    have Hf : Hid (hexS l = ⟨(hexL l).toArray⟩) := if_neg h0
    clear h0
    obtain ⟨n, hn⟩ : ∃ n, n = l.length := ⟨_, rfl⟩
    rw [← hn] at hne hpos hlen ⊢
    have Hn := Lib.hid hn
    clear hn
    go_enter Tryz.func31, Tryz.ntmps31
    go_wp2_with fail
    go_loopw [3, 11] (fun o x wr => ∃ (k : Nat) (ov : Value), ov = o ∧ k ≤ n ∧ x = .int .i64 k ∧ Hid (wr.ownsRow w.heap.size 5 1 ov (hexL (l.take k)).length (bcs (hexL (l.take k)))) ∧ Below w.heap.size w wr) (fun _ x _ => (n - intOf x).toNat)
    case atStart => exact ⟨0, _, rfl, by omega, rfl, World.ownsRow_nil _ _ _ _, Below.refl _ _⟩
    case round =>
      obtain ⟨k, ov, rfl, hk, rfl, hown, hBr⟩ := hrel
      by_cases hlt : k < n
      · obtain ⟨ab, ao, rfl, hc⟩ := Hel.out k (by have := Hn.out; omega)
        have hc' := cell_then hBr hc
        clear hc
        obtain ⟨c, hcd⟩ : ∃ c : UInt8, c = l.getD k 0 := ⟨_, rfl⟩
        rw [← hcd] at hc'
        have Hcd := Lib.hid hcd
        clear hcd
        obtain ⟨x, hxd⟩ : ∃ x : Int, x = c.toNat := ⟨_, rfl⟩
        have hx0 : 0 ≤ x := by omega
        have hx1 : x < 256 := by have := c.toNat_lt; omega
        rw [← hxd] at hc'
        have Hxd := Lib.hid hxd
        clear hxd
        go_wp2_with fail
        have g1 : (x / 16).toNat < 16 := by omega
        have g2 : (x % 16).toNat < 16 := by omega
        have g3 : 0 ≤ x / 16 := by omega
        have g4 : 0 ≤ x % 16 := by omega
        have g5 : x / 16 < 16 := by omega
        have g6 : x % 16 < 16 := by omega
        have g7 : x.fdiv 16 = x / 16 := by rw [Int.fdiv_eq_ediv_of_nonneg _ (by omega)]
        have g8 : bits .and .u8 x 15 = x % 16 := u8_and15 x hx0 hx1
        have Hown := hown
        have hlen2 : (hexL (l.take k)).length ≤ 1000000000 := by rw [hexL_length, List.length_take]; omega
        have Htab1 := Lib.hid (tab_hd (c.toNat / 16) (by have := c.toNat_lt; omega))
        go_region_held3 (fun w' => Below w.heap.size w w')
          (first | exact hBr.drew | exact hBr.alloc hBr.size _ | exact (hBr.alloc hBr.size _).drew | exact (hBr.drew).alloc hBr.size _ | assumption | exact Below.trans (by assumption) hbA)
          ((refine step_bytes (by rfl) (.tmp 15) (.tmp 22) (by rfl) w.heap.size ov (hexL (l.take k)) (by rfl) ?_ ⟨wr.heap.size, 0, none⟩ [hd (x / 16).toNat, hd (x % 16).toNat] 2 2 (by rfl) rfl ?_ hlen2 (by simp) ?_ ?_; (first | exact World.ownsRow.alloc Hown.out _ | exact ownsRow_below (World.ownsRow.alloc Hown.out _) (Below.refl _ _).drew | exact World.ownsRow.alloc (ownsRow_below Hown.out (Below.refl _ _).drew) _); (first | exact bytes_two _ rfl (congrArg _ (congrArg _ (tab_get _ _))) (congrArg _ (congrArg _ (tab_get _ _)))); (exact Below.size (by assumption)); intro v1 wA hoA hbA))
        all_goals
          have hkn : k < l.length := by have := Hn.out; omega
          have hstep : hexL (l.take (k + 1)) = hexL (l.take k) ++ [hd (x / 16).toNat, hd (x % 16).toNat] := by
            have e1 : l.take (k + 1) = l.take k ++ [c] := by
              rw [List.take_succ_eq_append_getElem hkn, Hcd.out]; simp [List.getD_eq_getElem?_getD, hkn]
            have e2 : (x / 16).toNat = c.toNat / 16 := by have := Hxd.out; omega
            have e3 : (x % 16).toNat = c.toNat % 16 := by have := Hxd.out; omega
            rw [e1, hexL_append, e2, e3]; rfl
          have HoA : Hid (wA.ownsRow w.heap.size 5 1 v1 (hexL (l.take (k + 1))).length (bcs (hexL (l.take (k + 1))))) := by rw [hstep]; exact hoA
          have HBA : Hid (Below w.heap.size w wA) := by assumption
          clear hoA hbA hstep
          go_wp2_with fail
          go_roundw
          case rel => exact ⟨k + 1, v1, rfl, by omega, by go_num, HoA.out, HBA.out⟩
          case measure => simp [intOf]; omega
      · obtain rfl : k = n := by omega
        have hkl : (hexL (l.take k)).length = (hexL l).length := by rw [Hn.out, List.take_length]
        have hown' := hown.out
        rw [Hn.out, List.take_length] at hown'
        obtain ⟨g, gc, rfl, hback⟩ := own_back hown' (by rw [hexL_length, ← Hn.out]; omega)
        clear hown hown' hkl
        have HF := Lib.hid Hf.out
        have hll : (hexL l).length ≤ 1000000000 := by rw [hexL_length, ← Hn.out]; omega
        generalize hexL l = hx at *
        go_wp2_with fail
        go_ret
        exact ⟨by rw [HF.out]; rfl, hBr⟩
end Go.Proofs.YtobaoekibnloiaaGreatDoor
/- Bytes as a word of hexadecimal digits: the reference's writer. -/
namespace Go.Proofs.YtobaoekibnloiaaGreatDoor
open Go Go.RowKit

set_option maxHeartbeats 1000000 in
set_option maxRecDepth 100000 in
theorem rhex_any (v : Value) (l : List UInt8) (w : World) (h : BytesIn w v l) :
    Calls Tryz.prog 39 #[v] w fun e w' => e = .returned (.string (hexS l)) ∧ Below w.heap.size w w' := by
  obtain ⟨a, cap, rfl, hlen, hel⟩ := h
  have Hel := Lib.hid hel
  clear hel
  by_cases h0 : l = []
  · subst h0
    go_enter Tryz.func39, Tryz.ntmps39
    go_wp2_with fail
    go_ret
    exact ⟨rfl, Below.refl _ _⟩
  · have hpos : 0 < l.length := List.length_pos_iff.2 h0
    have hne : ((l.length : Int) == 0) = false := by simp; omega
    have Hf : Hid (hexS l = ⟨(hexL l).toArray⟩) := if_neg h0
    clear h0
    obtain ⟨n, hn⟩ : ∃ n, n = l.length := ⟨_, rfl⟩
    rw [← hn] at hne hpos hlen ⊢
    have Hn := Lib.hid hn
    clear hn
    go_enter Tryz.func39, Tryz.ntmps39
    go_wp2_with fail
    go_loopw [3, 4] (fun o x wr => ∃ (k : Nat) (ov : Value), ov = o ∧ k ≤ n ∧ x = .int .i64 k ∧ Hid (wr.ownsRow w.heap.size 5 1 ov (hexL (l.take k)).length (bcs (hexL (l.take k)))) ∧ Below w.heap.size w wr) (fun _ x _ => (n - intOf x).toNat)
    case atStart => exact ⟨0, _, rfl, by omega, rfl, World.ownsRow_nil _ _ _ _, Below.refl _ _⟩
    case round =>
      obtain ⟨k, ov, rfl, hk, rfl, hown, hBr⟩ := hrel
      by_cases hlt : k < n
      · obtain ⟨ab, ao, rfl, hc⟩ := Hel.out k (by have := Hn.out; omega)
        have hc' := cell_then hBr hc
        have hab : ab < w.heap.size := World.block_lt_of_cell? (a := ⟨ab, ao + k, none⟩) _ hc
        clear hc
        obtain ⟨c, hcd⟩ : ∃ c : UInt8, c = l.getD k 0 := ⟨_, rfl⟩
        rw [← hcd] at hc'
        have Hcd := Lib.hid hcd
        clear hcd
        obtain ⟨x, hxd⟩ : ∃ x : Int, x = c.toNat := ⟨_, rfl⟩
        have hx0 : 0 ≤ x := by omega
        have hx1 : x < 256 := by have := c.toNat_lt; omega
        rw [← hxd] at hc'
        have Hxd := Lib.hid hxd
        clear hxd
        go_wp2_with fail
        have g1 : (x / 16).toNat < 16 := by omega
        have g2 : (x % 16).toNat < 16 := by omega
        have g3 : 0 ≤ x / 16 := by omega
        have g4 : 0 ≤ x % 16 := by omega
        have g5 : x / 16 < 16 := by omega
        have g6 : x % 16 < 16 := by omega
        have g7 : x.fdiv 16 = x / 16 := by rw [Int.fdiv_eq_ediv_of_nonneg _ (by omega)]
        have g8 : bits .and .u8 x 15 = x % 16 := u8_and15 x hx0 hx1
        have Hown := hown
        have HS : Hid (∀ w', Below wr.heap.size wr w' → w'.cell? ⟨ab, ao + k, none⟩ = some (.int .u8 x) ∧ Below w.heap.size w w') := fun w' h => ⟨cell_then h hc', below_then hBr h⟩
        have hlen2 : (hexL (l.take k)).length ≤ 1000000000 := by rw [hexL_length, List.length_take]; omega
        have Htab1 := Lib.hid (tab_hd (c.toNat / 16) (by have := c.toNat_lt; omega))
        go_region_held3 (fun w' => w'.cell? ⟨ab, ao + k, none⟩ = some (.int .u8 x) ∧ Below w.heap.size w w')
          (first | exact ⟨hc', hBr.drew⟩ | exact HS.out _ (Below.refl _ _).drew | exact HS.out _ ((Below.refl _ _).alloc (Nat.le_refl _) _) | exact HS.out _ ((Below.refl _ _).alloc (Nat.le_refl _) _).drew | exact HS.out _ (((Below.refl _ _).drew).alloc (Nat.le_refl _) _) | assumption | (go_split_ands; exact ⟨by rw [Below.cell hbA (p := ⟨ab, ao + k, none⟩) hab]; assumption, Below.trans (by assumption) hbA⟩))
          ((refine step_bytes (by rfl) (.tmp 14) (.tmp 27) (by rfl) w.heap.size ov (hexL (l.take k)) (by rfl) ?_ ⟨wr.heap.size, 0, none⟩ [hd (x / 16).toNat, hd (x % 16).toNat] 2 2 (by rfl) rfl ?_ hlen2 (by simp) ?_ ?_; (first | exact World.ownsRow.alloc Hown.out _ | exact ownsRow_below (World.ownsRow.alloc Hown.out _) (Below.refl _ _).drew | exact World.ownsRow.alloc (ownsRow_below Hown.out (Below.refl _ _).drew) _); (first | exact bytes_two _ rfl (congrArg _ (congrArg _ (tab_get _ _))) (congrArg _ (congrArg _ (tab_get _ _)))); (go_split_ands; exact Below.size (by assumption)); intro v1 wA hoA hbA))
        all_goals
          have hkn : k < l.length := by have := Hn.out; omega
          have hstep : hexL (l.take (k + 1)) = hexL (l.take k) ++ [hd (x / 16).toNat, hd (x % 16).toNat] := by
            have e1 : l.take (k + 1) = l.take k ++ [c] := by
              rw [List.take_succ_eq_append_getElem hkn, Hcd.out]; simp [List.getD_eq_getElem?_getD, hkn]
            have e2 : (x / 16).toNat = c.toNat / 16 := by have := Hxd.out; omega
            have e3 : (x % 16).toNat = c.toNat % 16 := by have := Hxd.out; omega
            rw [e1, hexL_append, e2, e3]; rfl
          have HoA : Hid (wA.ownsRow w.heap.size 5 1 v1 (hexL (l.take (k + 1))).length (bcs (hexL (l.take (k + 1))))) := by rw [hstep]; exact hoA
          have HBA : Hid (Below w.heap.size w wA) := by go_split_ands; assumption
          clear hoA hbA hstep HS
          go_wp2_with fail
          go_roundw
          case rel => exact ⟨k + 1, v1, rfl, by omega, by go_num, HoA.out, HBA.out⟩
          case measure => simp [intOf]; omega
      · obtain rfl : k = n := by omega
        have hkl : (hexL (l.take k)).length = (hexL l).length := by rw [Hn.out, List.take_length]
        have hown' := hown.out
        rw [Hn.out, List.take_length] at hown'
        obtain ⟨g, gc, rfl, hback⟩ := own_back hown' (by rw [hexL_length, ← Hn.out]; omega)
        clear hown hown' hkl
        have HF := Lib.hid Hf.out
        have hll : (hexL l).length ≤ 1000000000 := by rw [hexL_length, ← Hn.out]; omega
        generalize hexL l = hx at *
        go_wp2_with fail
        go_ret
        exact ⟨by rw [HF.out]; rfl, hBr⟩
end Go.Proofs.YtobaoekibnloiaaGreatDoor
/- Words of hexadecimal digits read back: script's bytes. -/
namespace Go.Proofs.YtobaoekibnloiaaGreatDoor
open Go Go.RowKit

/-- Pairs of digits as bytes. -/
def hexP : List UInt8 → Option (List UInt8)
  | [] => some []
  | [_] => none
  | a :: b :: r => match hexV a, hexV b, hexP r with
    | some x, some y, some l => some (UInt8.ofNat (16 * x + y) :: l)
    | _, _, _ => none
theorem byte_parts (x y : Nat) (hx : x < 16) (hy : y < 16) : (UInt8.ofNat (16 * x + y)).toNat = 16 * x + y := by simp; omega
theorem hexP_hexL (l : List UInt8) : hexP (hexL l) = some l := by
  induction l with
  | nil => rfl
  | cons c r ih =>
    have h1 := hexV_hd (c.toNat / 16) (by have := c.toNat_lt; omega)
    have h2 := hexV_hd (c.toNat % 16) (by omega)
    simp only [hexL, hexP, h1, h2, ih]
    congr 2
    rw [show 16 * (c.toNat / 16) + c.toNat % 16 = c.toNat by omega]
    simp
theorem hexL_hexP : ∀ (t l : List UInt8), hexP t = some l → t = hexL l
  | [], l, h => by simp [hexP] at h; subst h; rfl
  | [_], l, h => by simp [hexP] at h
  | a :: b :: r, l, h => by
    simp only [hexP] at h
    split at h
    · next x y m hx hy hm =>
      injection h with h; subst h
      have e := hexL_hexP r m hm
      have lx := hexV_lt hx
      have ly := hexV_lt hy
      simp only [hexL, byte_parts x y lx ly]
      rw [show (16 * x + y) / 16 = x by omega, show (16 * x + y) % 16 = y by omega, ← hd_hexV hx, ← hd_hexV hy, ← e]
    · cases h
theorem hexP_append : ∀ (x m y : List UInt8), hexP x = some m → hexP (x ++ y) = (hexP y).map (m ++ ·)
  | [], m, y, h => by simp [hexP] at h; subst h; simp
  | [_], m, y, h => by simp [hexP] at h
  | a :: b :: r, m, y, h => by
    simp only [hexP] at h
    split at h
    · next p q l hp hq hl =>
      injection h with h; subst h
      simp only [List.cons_append, hexP, hp, hq, hexP_append r l y hl]
      cases hexP y <;> simp
    · cases h
/-- The bytes that a word is. -/
def dataOf (s : ByteArray) : Option (List UInt8) := if s = ⟨#[45]⟩ then some [] else if s = ⟨#[]⟩ then none else hexP s.data.toList
theorem data_iff (s : ByteArray) (l : List UInt8) : dataOf s = some l ↔ s = hexS l := by
  unfold dataOf hexS
  constructor
  · intro h
    split at h
    · next h1 => injection h with h; subst h; simp [h1]
    · split at h
      · cases h
      · next h1 h2 =>
        have e := hexL_hexP _ _ h
        have hl : l ≠ [] := by
          intro hl; subst hl
          apply h2
          cases s with | mk d => simp [hexL] at e; rw [e]
        rw [if_neg hl]
        cases s with | mk d => simp at e; rw [← e]
  · intro h
    split at h
    · next hl => subst hl; simp [h]
    · next hl =>
      have e : s.data.toList = hexL l := by rw [h]
      rw [if_neg, if_neg]
      · rw [e]; exact hexP_hexL l
      · intro h1; rw [h1] at e
        cases l with
        | nil => exact hl rfl
        | cons a r => simp [hexL] at e
      · intro h1; rw [h1] at e
        cases l with
        | nil => exact hl rfl
        | cons a r => simp [hexL] at e
theorem hexP_odd : ∀ (t : List UInt8), t.length % 2 ≠ 0 → hexP t = none
  | [], h => by simp at h
  | [_], _ => rfl
  | a :: b :: r, h => by
    have := hexP_odd r (by simp at h; omega)
    simp [hexP, this]
end Go.Proofs.YtobaoekibnloiaaGreatDoor
/- Words of hexadecimal digits read back: script's bytes. -/
namespace Go.Proofs.YtobaoekibnloiaaGreatDoor
open Go Go.RowKit

theorem ownsRow_mono {w : World} {base base' : Nat} {e : TypeId} {sz n : Nat} {v : Value} {cs : List Value} (h : w.ownsRow base e sz v n cs) (hb : base' ≤ base) : w.ownsRow base' e sz v n cs := by
  obtain ⟨h1, h2⟩ := h
  refine ⟨h1, ?_⟩
  rcases h2 with h2 | ⟨g, cap, cur, e, hg, hr⟩
  · exact Or.inl h2
  · exact Or.inr ⟨g, cap, cur, e, Nat.le_trans hb hg, hr⟩
theorem hexP_pair (x : List UInt8) (a b : UInt8) (y m : List UInt8) (hm : hexP x = some m) :
    hexP (x ++ a :: b :: y) = match hexV a, hexV b with | some p, some q => (hexP y).map (m ++ [UInt8.ofNat (16 * p + q)] ++ ·) | _, _ => none := by
  rw [hexP_append x m _ hm]
  simp only [hexP]
  cases hexV a <;> cases hexV b <;> simp
  cases hexP y <;> simp
theorem split_two (s : ByteArray) (i : Nat) (h : i + 1 < s.size) : s.data.toList = s.data.toList.take i ++ s[i] :: s[i + 1] :: s.data.toList.drop (i + 2) := by
  have h0 : i < s.data.toList.length := by have e : s.data.toList.length = s.size := Array.length_toList; omega
  have h1 : i + 1 < s.data.toList.length := by have e : s.data.toList.length = s.size := Array.length_toList; omega
  have e := List.take_append_drop i s.data.toList
  rw [List.drop_eq_getElem_cons h0, List.drop_eq_getElem_cons h1] at e
  exact e.symm
theorem take_two (s : ByteArray) (i : Nat) (h : i + 1 < s.size) : s.data.toList.take (i + 2) = s.data.toList.take i ++ [s[i], s[i + 1]] := by
  have h0 : i < s.data.toList.length := by have e : s.data.toList.length = s.size := Array.length_toList; omega
  have h1 : i + 1 < s.data.toList.length := by have e : s.data.toList.length = s.size := Array.length_toList; omega
  rw [List.take_succ_eq_append_getElem h1, List.take_succ_eq_append_getElem h0, List.append_assoc]
  rfl

theorem append_byte {w : World} {base : Nat} {v : Value} {l : List UInt8} (h : w.ownsRow base 5 1 v l.length (bcs l)) {z : Int} {c : UInt8} (hz : z = c.toNat) (hn : l.length ≤ 1000000000) (hb : base ≤ w.heap.size) (ty : TypeId) :
    ∃ (v' : Value) (w' : World), (Builtin.append_ #[22, 22] ty #[v, .slice (some ⟨w.heap.size, 0, none⟩) 1 1]).run Tryz.prog (w.alloc (.cells #[.int .u8 z] 5)) = .ok v' w' ∧
      w'.ownsRow base 5 1 v' (l ++ [c]).length (bcs (l ++ [c])) ∧ Below base w w' := by
  subst hz
  exact append_bytes h [c] hn (by simp) hb ty
theorem or_nibbles (p q : Nat) (hp : p < 16) (hq : q < 16) : bits .or .u8 ((p : Int) * 16) q = ((UInt8.ofNat (16 * p + q)).toNat : Int) := by
  rw [bits_join .u8 8 (by decide) wraps_u8 4 ((p : Int) * 16) q (by omega) (by omega) (by omega) (by omega) (by omega) (by omega), byte_parts p q hp hq]
  omega

/-- A call of the reader that returns bytes. -/
def BytesRd (pb : Nat) (ws : List ByteArray) (bad : Bool) (w : World) (e : Ending) (w' : World) : Prop :=
  ∃ (v : Value) (l : List UInt8) (bad' : Bool), e = .returned v ∧ w'.ownsRow w.heap.size 5 1 v l.length (bcs l) ∧ l.length ≤ 1000000 ∧
    (bad' = false → bad = false ∧ ws.headD ByteArray.empty = hexS l) ∧ (bad = false → ∀ m, ws.headD ByteArray.empty = hexS m → bad' = false) ∧ Cur w' pb ws.tail bad' ∧ But w.heap.size pb w w'
set_option maxHeartbeats 1000000 in
set_option maxRecDepth 100000 in
theorem bytes_any (pb : Nat) (ws : List ByteArray) (bad : Bool) (w : World) (h : Cur w pb ws bad) (hsz : ∀ s ∈ ws, s.size ≤ 1000000) :
    Calls Tryz.prog 35 #[.pointer (some ⟨pb, 0, none⟩)] w (BytesRd pb ws bad w) := by
  have hlt := h.lt
  have hss : (ws.headD ByteArray.empty).size ≤ 1000000 := by
    cases ws with
    | nil => exact Nat.zero_le _
    | cons s r => exact hsz s (by simp)
  have hnil : ws.headD ByteArray.empty ≠ ⟨#[]⟩ → ws.isEmpty = false := by
    intro hm
    cases ws with
    | nil => exact absurd rfl hm
    | cons s r => rfl
  have Hn := Lib.hid hnil
  clear hnil hsz
  go_enter Tryz.func35, Tryz.ntmps35
  go_wp2_with fail
  refine (next_any pb ws bad w h).mono ?_
  rintro e w1 ⟨rfl, hc1, hb1⟩
  obtain ⟨s, hs⟩ : ∃ s, s = ws.headD ByteArray.empty := ⟨_, rfl⟩
  rw [← hs] at hss Hn ⊢
  have Hs := Lib.hid hs
  have Hc1 := Lib.hid hc1
  have Hb1 := Lib.hid hb1
  have hsize := hb1.size
  have Hbad : Hid (∀ wx, Below w1.heap.size w1 wx → dataOf s = none → BytesRd pb ws bad w (.returned (.slice none 0 0)) (wx.setCell ⟨pb, 1, none⟩ (.bool true))) := by
    intro wx hx hno
    refine ⟨.slice none 0 0, [], true, rfl, World.ownsRow_nil _ _ _ _, by simp, fun h => absurd h (by simp), fun _ m e => ?_, (Hc1.out.below hx).mark true, (Hb1.out.trans (But.of_below (hx.mono hsize))).setCell (p := ⟨pb, 1, none⟩) (Or.inr rfl) _⟩
    have := (data_iff s m).2 (Hs.out.trans e)
    rw [hno] at this; cases this
  have hcellp : ∀ wx, Below w1.heap.size w1 wx → wx.frozen? ⟨pb, 1, none⟩ = false ∧ ∃ q, wx.cell? ⟨pb, 1, none⟩ = some (.bool q) := by
    intro wx hx
    obtain ⟨_, _, _, _, _, h4, _, h6, _⟩ := Hc1.out.below hx
    exact ⟨h6, _, h4⟩
  have Hcell := Lib.hid hcellp
  obtain ⟨hfz, q, hcq⟩ := hcellp w1 (Below.refl _ _)
  clear hs hc1 hb1 h hcellp
  have Hgood : Hid (∀ (v : Value) (l : List UInt8) (wx : World), Below w1.heap.size w1 wx → wx.ownsRow w1.heap.size 5 1 v l.length (bcs l) → l.length ≤ 1000000 → s ≠ ⟨#[]⟩ → dataOf s = some l → BytesRd pb ws bad w (.returned v) wx) := by
    intro v l wx hx hown hl hne hd
    have he := (data_iff s l).1 hd
    refine ⟨v, l, _, rfl, ownsRow_mono hown hsize, hl, fun h => ⟨?_, Hs.out.symm.trans he⟩, fun h m e => ?_, Hc1.out.below hx, Hb1.out.trans (But.of_below (hx.mono hsize))⟩
    · simp at h; exact h.1
    · rw [h, Hn.out hne]; rfl
  by_cases h45 : s = ⟨#[45]⟩
  · subst h45
    go_wp2_with fail
    refine bodyPost_ret (v := .slice none 0 0) (by simp [results, Tryz.results35, go_sem]) rfl ?_
    exact Hgood.out _ [] _ (Below.refl _ _) (World.ownsRow_nil _ _ _ _) (by simp) (by intro h; cases h) rfl
  · have e45 : (s.toList == [45]) = false := by
      have := str_ne h45
      rwa [ByteArray.toList_eq (⟨#[45]⟩ : ByteArray)] at this
    have H45 := Lib.hid h45
    by_cases h0 : s = ⟨#[]⟩
    · subst h0
      clear h45
      go_wp2_with fail
      exact bodyPost_ret (v := .slice none 0 0) (by simp [results, Tryz.results35, go_sem]) rfl (Hbad.out _ (Below.refl _ _) rfl)
    · have e0 : (s.toList == []) = false := by
        have := str_ne h0
        rwa [ByteArray.toList_eq (⟨#[]⟩ : ByteArray)] at this
      have H0 := Lib.hid h0
      have Hd : Hid (dataOf s = hexP s.data.toList) := by unfold Hid dataOf; rw [if_neg h45, if_neg h0]
      clear h45 h0
      rcases Nat.mod_two_eq_zero_or_one s.size with hm | hm
      · have em : (((s.size : Int).tmod 2) != 0) = false := by
          have : (s.size : Int).tmod 2 = 0 := by rw [Int.tmod_eq_emod_of_nonneg (by omega)]; omega
          rw [this]; rfl
        have em2 : (((s.size : Int) % 2) != 0) = false := by
          have : (s.size : Int) % 2 = 0 := by omega
          rw [this]; rfl
        go_wp2_with fail
        clear e45 e0 em em2 hfz hcq
        have HS := Lib.hid hss
        go_loopw [4, 5] (fun o x wr => ∃ (k : Nat) (ov : Value) (acc : List UInt8), ov = o ∧ 2 * k ≤ s.size ∧ x = .int .i64 ((2 * k : Nat) : Int) ∧ acc.length = k ∧ Hid (hexP (s.data.toList.take (2 * k)) = some acc) ∧ Hid (wr.ownsRow w1.heap.size 5 1 ov acc.length (bcs acc)) ∧ Below w1.heap.size w1 wr) (fun _ x _ => (s.size - intOf x).toNat)
        case atStart => exact ⟨0, _, [], rfl, by omega, rfl, rfl, rfl, World.ownsRow_nil _ _ _ _, Below.refl _ _⟩
        case round =>
          obtain ⟨k, ov, acc, rfl, hk, rfl, hak, hp, hown, hBr⟩ := hrel
          by_cases hlt2 : 2 * k < s.size
          · have hlt3 : 2 * k + 1 < s.size := by omega
            have g1 : ((2 * k : Nat) : Int) < s.size := by omega
            have g2 : ((2 * k : Nat) : Int) + 1 < s.size := by omega
            generalize hi : ((2 * k : Nat) : Int) = i at *
            have hi0 : 0 ≤ i := by omega
            have hit : i.toNat = 2 * k := by omega
            have hit1 : (i + 1).toNat = 2 * k + 1 := by omega
            go_wp2_with fail
            refine (digit_any _ wr).mono ?_
            rintro e wa ⟨rfl, hwa⟩
            obtain rfl := hwa.symm
            have hpair := hexP_pair (s.data.toList.take (2 * k)) s[2 * k] s[2 * k + 1]
            have htwo := take_two s (2 * k) hlt3
            have hspl := split_two s (2 * k) hlt3
            have hxl := @hexV_lt s[2 * k]
            have hyl := @hexV_lt s[2 * k + 1]
            go_wp2_with fail
            refine (digit_any _ wr).mono ?_
            rintro e wa ⟨rfl, hwa⟩
            obtain rfl := hwa.symm
            have Hpair := Lib.hid hpair
            have Htwo := Lib.hid htwo
            have Hspl := Lib.hid hspl
            clear hpair htwo hspl
            generalize hexV s[2 * k] = o1 at *
            generalize hexV s[2 * k + 1] = o2 at *
            cases o1 with
            | none =>
              obtain ⟨hfz, q, hcq⟩ := Hcell.out _ hBr
              simp only [Option.isSome_none, Option.getD_none]
              go_wp2_with fail
              refine bodyPost_ret (v := .slice none 0 0) (by simp [results, Tryz.results35, go_sem]) rfl (Hbad.out _ hBr ?_)
              rw [Hd.out, Hspl.out, Hpair.out _ acc hp.out]
            | some p1 =>
              have hp1 := hxl rfl
              cases o2 with
              | none =>
                obtain ⟨hfz, q, hcq⟩ := Hcell.out _ hBr
                simp only [Option.isSome_none, Option.getD_none, Option.isSome_some, Option.getD_some]
                go_wp2_with fail
                refine bodyPost_ret (v := .slice none 0 0) (by simp [results, Tryz.results35, go_sem]) rfl (Hbad.out _ hBr ?_)
                rw [Hd.out, Hspl.out, Hpair.out _ acc hp.out]
              | some p2 =>
                have hp2 := hyl rfl
                simp only [Option.isSome_some, Option.getD_some]
                have hor := or_nibbles p1 p2 hp1 hp2
                generalize hzd : ((UInt8.ofNat (16 * p1 + p2)).toNat : Int) = z at hor
                have hal : acc.length ≤ 1000000000 := by have := HS.out; omega
                obtain ⟨v', w', hrun, hown', hB'⟩ := append_byte hown.out hzd.symm hal hBr.size 22
                have Hrun := Lib.hid hrun
                have Hown' := Lib.hid hown'
                have Hzd := Lib.hid hzd
                clear hrun hown' hzd
                go_wp2_with (at_builtin; refine wpList_append_run rfl _ _ _ rfl _ _ _ _ rfl rfl Hrun.out ?_)
                go_roundw
                case rel =>
                  refine ⟨k + 1, v', acc ++ [UInt8.ofNat (16 * p1 + p2)], rfl, by omega, ?_, by simp; omega, ?_, Hown'.out, hBr.trans hB'⟩
                  · rw [← hi]; congr 1
                  · have := Hpair.out [] acc hp.out
                    unfold Hid
                    rw [show 2 * (k + 1) = 2 * k + 2 by omega, Htwo.out, this]
                    simp [hexP]
                case measure => simp [intOf]; omega
          · have hks : 2 * k = s.size := by omega
            go_wp2_with fail
            refine bodyPost_ret (v := ov) (by simp [results, Tryz.results35, go_sem]) rfl ?_
            refine Hgood.out ov acc _ hBr hown.out (by have := HS.out; omega) H0.out ?_
            have hp' := hp.out
            have hll : s.data.toList.length = s.size := Array.length_toList
            rw [hks, List.take_of_length_le (Nat.le_of_eq hll)] at hp'
            rw [Hd.out, hp']
      · have em : (((s.size : Int).tmod 2) != 0) = true := by
          have : (s.size : Int).tmod 2 = 1 := by rw [Int.tmod_eq_emod_of_nonneg (by omega)]; omega
          rw [this]; rfl
        have em2 : (((s.size : Int) % 2) != 0) = true := by
          have : (s.size : Int) % 2 = 1 := by omega
          rw [this]; rfl
        go_wp2_with fail
        refine bodyPost_ret (v := .slice none 0 0) (by simp [results, Tryz.results35, go_sem]) rfl (Hbad.out _ (Below.refl _ _) ?_)
        rw [Hd.out]
        refine hexP_odd _ ?_
        have : s.data.toList.length = s.size := Array.length_toList
        omega
end Go.Proofs.YtobaoekibnloiaaGreatDoor
/- Words of hexadecimal digits read back: the reference's digit and data. -/
namespace Go.Proofs.YtobaoekibnloiaaGreatDoor
open Go Go.RowKit

theorem rdigit_any (c : UInt8) (w : World) :
    Calls Tryz.prog 83 #[.int .u8 c.toNat] w fun e w' => e = .returned (.tuple #[.int .u8 ((hexV c).getD 0 : Nat), .bool (hexV c).isSome]) ∧ w' = w := by
  have hlt := c.toNat_lt
  have hv : hexV c = if 48 ≤ c.toNat ∧ c.toNat ≤ 57 then some (c.toNat - 48) else if 97 ≤ c.toNat ∧ c.toNat ≤ 102 then some (c.toNat - 87) else none := rfl
  rw [hv]
  clear hv
  generalize c.toNat = n at *
  by_cases h1 : 48 ≤ n ∧ n ≤ 57
  · obtain ⟨h1, h2⟩ := h1
    have g : ((n - 48 : Nat) : Int) = (n : Int) - 48 := by omega
    rw [if_pos ⟨h1, h2⟩]
    simp only [Option.getD_some, Option.isSome_some, g]
    go_enter Tryz.func83, Tryz.ntmps83
    go_wp2_with fail
    exact bodyPost_ret (v := .tuple #[.int .u8 ((n : Int) - 48), .bool true]) (by simp [results, Tryz.results83, go_sem]) rfl ⟨rfl, rfl⟩
  · rw [if_neg h1]
    by_cases h2 : 97 ≤ n ∧ n ≤ 102
    · obtain ⟨h2, h3⟩ := h2
      have g : ((n - 87 : Nat) : Int) = (n : Int) - 97 + 10 := by omega
      have g57 : ¬ (n : Int) ≤ 57 := by omega
      rw [if_pos ⟨h2, h3⟩]
      simp only [Option.getD_some, Option.isSome_some, g]
      go_enter Tryz.func83, Tryz.ntmps83
      go_wp2_with fail
      exact bodyPost_ret (v := .tuple #[.int .u8 ((n : Int) - 97 + 10), .bool true]) (by simp [results, Tryz.results83, go_sem]) rfl ⟨rfl, rfl⟩
    · rw [if_neg h2]
      simp only [Option.getD_none, Option.isSome_none]
      go_enter Tryz.func83, Tryz.ntmps83
      go_wp2_with fail
      all_goals exact bodyPost_ret (v := .tuple #[.int .u8 0, .bool false]) (by simp [results, Tryz.results83, go_sem]) rfl ⟨rfl, rfl⟩

/-- What the reference's data returns. -/
def DataIs (s : ByteArray) (w : World) (e : Ending) (w' : World) : Prop :=
  ∃ (v : Value) (l : List UInt8), e = .returned (.tuple #[v, .bool (dataOf s).isSome]) ∧ w'.ownsRow w.heap.size 5 1 v l.length (bcs l) ∧ l.length ≤ 1000000 ∧ (dataOf s).getD [] = l ∧ Below w.heap.size w w'
set_option maxHeartbeats 1000000 in
set_option maxRecDepth 100000 in
theorem rdata_any (s : ByteArray) (hss : s.size ≤ 1000000) (w : World) :
    Calls Tryz.prog 67 #[.string s] w (DataIs s w) := by
  have Hbad : Hid (∀ wx, Below w.heap.size w wx → dataOf s = none → DataIs s w (.returned (.tuple #[.slice none 0 0, .bool false])) wx) := by
    intro wx hx hno
    exact ⟨.slice none 0 0, [], by rw [hno]; rfl, World.ownsRow_nil _ _ _ _, by simp, by rw [hno]; rfl, hx⟩
  have Hgood : Hid (∀ (v : Value) (l : List UInt8) (wx : World), Below w.heap.size w wx → wx.ownsRow w.heap.size 5 1 v l.length (bcs l) → l.length ≤ 1000000 → dataOf s = some l → DataIs s w (.returned (.tuple #[v, .bool true])) wx) := by
    intro v l wx hx hown hl hd
    exact ⟨v, l, by rw [hd]; rfl, hown, hl, by rw [hd]; rfl, hx⟩
  by_cases h45 : s = ⟨#[45]⟩
  · subst h45
    go_enter Tryz.func67, Tryz.ntmps67
    go_wp2_with fail
    refine bodyPost_ret (v := .tuple #[.slice none 0 0, .bool true]) (by simp [results, Tryz.results67, go_sem]) rfl ?_
    exact Hgood.out _ [] _ (Below.refl _ _) (World.ownsRow_nil _ _ _ _) (by simp) rfl
  · have e45 : (s.toList == [45]) = false := by
      have := str_ne h45
      rwa [ByteArray.toList_eq (⟨#[45]⟩ : ByteArray)] at this
    by_cases h0 : s = ⟨#[]⟩
    · subst h0
      clear h45
      go_enter Tryz.func67, Tryz.ntmps67
      go_wp2_with fail
      exact bodyPost_ret (v := .tuple #[.slice none 0 0, .bool false]) (by simp [results, Tryz.results67, go_sem]) rfl (Hbad.out _ (Below.refl _ _) rfl)
    · have e0 : (s.toList == []) = false := by
        have := str_ne h0
        rwa [ByteArray.toList_eq (⟨#[]⟩ : ByteArray)] at this
      have Hd : Hid (dataOf s = hexP s.data.toList) := by unfold Hid dataOf; rw [if_neg h45, if_neg h0]
      clear h45 h0
      rcases Nat.mod_two_eq_zero_or_one s.size with hm | hm
      · have em : (((s.size : Int).tmod 2) != 0) = false := by
          have : (s.size : Int).tmod 2 = 0 := by rw [Int.tmod_eq_emod_of_nonneg (by omega)]; omega
          rw [this]; rfl
        have em2 : (((s.size : Int) % 2) != 0) = false := by
          have : (s.size : Int) % 2 = 0 := by omega
          rw [this]; rfl
        go_enter Tryz.func67, Tryz.ntmps67
        go_wp2_with fail
        clear e45 e0 em em2
        have HS := Lib.hid hss
        go_loopw [4, 5] (fun o x wr => ∃ (k : Nat) (ov : Value) (acc : List UInt8), ov = o ∧ 2 * k ≤ s.size ∧ x = .int .i64 ((2 * k : Nat) : Int) ∧ acc.length = k ∧ Hid (hexP (s.data.toList.take (2 * k)) = some acc) ∧ Hid (wr.ownsRow w.heap.size 5 1 ov acc.length (bcs acc)) ∧ Below w.heap.size w wr) (fun _ x _ => (s.size - intOf x).toNat)
        case atStart => exact ⟨0, _, [], rfl, by omega, rfl, rfl, rfl, World.ownsRow_nil _ _ _ _, Below.refl _ _⟩
        case round =>
          obtain ⟨k, ov, acc, rfl, hk, rfl, hak, hp, hown, hBr⟩ := hrel
          by_cases hlt2 : 2 * k < s.size
          · have hlt3 : 2 * k + 1 < s.size := by omega
            have g1 : ((2 * k : Nat) : Int) < s.size := by omega
            have g2 : ((2 * k : Nat) : Int) + 1 < s.size := by omega
            generalize hi : ((2 * k : Nat) : Int) = i at *
            have hi0 : 0 ≤ i := by omega
            have hit : i.toNat = 2 * k := by omega
            have hit1 : (i + 1).toNat = 2 * k + 1 := by omega
            go_wp2_with fail
            refine (rdigit_any _ wr).mono ?_
            rintro e wa ⟨rfl, hwa⟩
            obtain rfl := hwa.symm
            have hpair := hexP_pair (s.data.toList.take (2 * k)) s[2 * k] s[2 * k + 1]
            have htwo := take_two s (2 * k) hlt3
            have hspl := split_two s (2 * k) hlt3
            have hxl := @hexV_lt s[2 * k]
            have hyl := @hexV_lt s[2 * k + 1]
            go_wp2_with fail
            refine (rdigit_any _ wr).mono ?_
            rintro e wa ⟨rfl, hwa⟩
            obtain rfl := hwa.symm
            have Hpair := Lib.hid hpair
            have Htwo := Lib.hid htwo
            have Hspl := Lib.hid hspl
            clear hpair htwo hspl
            generalize hexV s[2 * k] = o1 at *
            generalize hexV s[2 * k + 1] = o2 at *
            cases o1 with
            | none =>
              simp only [Option.isSome_none, Option.getD_none]
              go_wp2_with fail
              refine bodyPost_ret (v := .tuple #[.slice none 0 0, .bool false]) (by simp [results, Tryz.results67, go_sem]) rfl (Hbad.out _ hBr ?_)
              rw [Hd.out, Hspl.out, Hpair.out _ acc hp.out]
            | some p1 =>
              have hp1 := hxl rfl
              cases o2 with
              | none =>
                simp only [Option.isSome_none, Option.getD_none, Option.isSome_some, Option.getD_some]
                go_wp2_with fail
                refine bodyPost_ret (v := .tuple #[.slice none 0 0, .bool false]) (by simp [results, Tryz.results67, go_sem]) rfl (Hbad.out _ hBr ?_)
                rw [Hd.out, Hspl.out, Hpair.out _ acc hp.out]
              | some p2 =>
                have hp2 := hyl rfl
                simp only [Option.isSome_some, Option.getD_some]
                have hzd : ((16 : Int) * p1 + p2) = ((UInt8.ofNat (16 * p1 + p2)).toNat : Int) := by rw [byte_parts p1 p2 hp1 hp2]; omega
                have hal : acc.length ≤ 1000000000 := by have := HS.out; omega
                obtain ⟨v', w', hrun, hown', hB'⟩ := append_byte hown.out hzd hal hBr.size 22
                have Hrun := Lib.hid hrun
                have Hown' := Lib.hid hown'
                clear hrun hown' hzd
                go_wp2_with (at_builtin; refine wpList_append_run rfl _ _ _ rfl _ _ _ _ rfl rfl Hrun.out ?_)
                go_roundw
                case rel =>
                  refine ⟨k + 1, v', acc ++ [UInt8.ofNat (16 * p1 + p2)], rfl, by omega, ?_, by simp; omega, ?_, Hown'.out, hBr.trans hB'⟩
                  · rw [← hi]; congr 1
                  · have := Hpair.out [] acc hp.out
                    unfold Hid
                    rw [show 2 * (k + 1) = 2 * k + 2 by omega, Htwo.out, this]
                    simp [hexP]
                case measure => simp [intOf]; omega
          · have hks : 2 * k = s.size := by omega
            go_wp2_with fail
            refine bodyPost_ret (v := .tuple #[ov, .bool true]) (by simp [results, Tryz.results67, go_sem]) rfl ?_
            refine Hgood.out ov acc _ hBr hown.out (by have := HS.out; omega) ?_
            have hp' := hp.out
            have hll : s.data.toList.length = s.size := Array.length_toList
            rw [hks, List.take_of_length_le (Nat.le_of_eq hll)] at hp'
            rw [Hd.out, hp']
      · have em : (((s.size : Int).tmod 2) != 0) = true := by
          have : (s.size : Int).tmod 2 = 1 := by rw [Int.tmod_eq_emod_of_nonneg (by omega)]; omega
          rw [this]; rfl
        have em2 : (((s.size : Int) % 2) != 0) = true := by
          have : (s.size : Int) % 2 = 1 := by omega
          rw [this]; rfl
        go_enter Tryz.func67, Tryz.ntmps67
        go_wp2_with fail
        refine bodyPost_ret (v := .tuple #[.slice none 0 0, .bool false]) (by simp [results, Tryz.results67, go_sem]) rfl (Hbad.out _ (Below.refl _ _) ?_)
        rw [Hd.out]
        refine hexP_odd _ ?_
        have : s.data.toList.length = s.size := Array.length_toList
        omega
end Go.Proofs.YtobaoekibnloiaaGreatDoor
/- The names of stations: script's named and the reference's name. -/
namespace Go.Proofs.YtobaoekibnloiaaGreatDoor
open Go Go.RowKit

/-- What []byte(s) leaves: a new row with the bytes, which may be written. -/
theorem conv_bytes (w : World) (s : ByteArray) : ∃ (w' : World) (cap : Nat), (convert 9 22 (.string s)).run Tryz.prog w = .ok (.slice (some ⟨w.heap.size, 0, none⟩) s.size cap) w' ∧
    Below w.heap.size w w' ∧ w'.heap.size = w.heap.size + 1 ∧ (∀ j, j < s.size → w'.cell? ⟨w.heap.size, j, none⟩ = some (.int .u8 (s.data.toList.getD j 0).toNat)) ∧ (∀ j, j < s.size → w'.frozen? ⟨w.heap.size, j, none⟩ = false) := by
  refine ⟨_, _, Lib.run_convert_string_bytes w 9 22 5 s Tryz.underlying9 Tryz.underlying22 Tryz.underlying5, ?_, Lib.bytesWorld_size _ _ _, fun j hj => Lib.bytesWorld_cell _ _ _ j hj, ?_⟩
  · exact ⟨by simp [Lib.bytesWorld, World.freeze, World.alloc, World.drew, -World.alloc_eq, -World.drew_eq], by simp [Lib.bytesWorld, World.freeze, World.alloc, World.drew, -World.alloc_eq, -World.drew_eq], by simp [Lib.bytesWorld, World.freeze, World.alloc, World.drew, -World.alloc_eq, -World.drew_eq], by rw [Lib.bytesWorld_size]; omega, fun k hk => Lib.bytesWorld_at_old _ _ _ k hk⟩
  · intro j hj
    have hsz : s.size ≤ (Lib.bytesCells w 5 s).size := by simp [Lib.bytesCells]
    simp only [World.frozen?, Lib.bytesWorld_at_new]
    simp; omega


/-- A byte that a name may hold. -/
def okC (c : UInt8) : Bool := 33 ≤ c.toNat && c.toNat ≤ 126
def nameOk (s : ByteArray) : Bool := s.data.toList.all okC && !decide (s = ⟨#[]⟩)
theorem nameOk_bad {s : ByteArray} {k : Nat} (hk : k < s.size) (h : okC s[k] = false) : nameOk s = false := by
  unfold nameOk
  have hl : s.data.toList.length = s.size := Array.length_toList
  have : s.data.toList.all okC = false := by
    rw [List.all_eq_false]
    exact ⟨s[k], by have := List.getElem_mem (l := s.data.toList) (n := k) (by omega); exact this, by simp [h]⟩
  rw [this]; rfl
theorem nameOk_good {s : ByteArray} (h : ∀ k, (hk : k < s.size) → okC s[k] = true) : nameOk s = (!decide (s = ⟨#[]⟩)) := by
  unfold nameOk
  have : s.data.toList.all okC = true := by
    rw [List.all_eq_true]
    intro c hc
    obtain ⟨k, hk, rfl⟩ := List.getElem_of_mem hc
    have hl : s.data.toList.length = s.size := Array.length_toList
    exact h k (by omega)
  rw [this]; rfl
theorem ne_nil (s : ByteArray) : (!s.toList.isEmpty) = (!decide (s = ⟨#[]⟩)) := by
  by_cases h : s = ⟨#[]⟩
  · subst h
    have e := ByteArray.toList_eq (⟨#[]⟩ : ByteArray)
    rw [e]; rfl
  · have h1 := str_bne h
    rw [ByteArray.toList_eq (⟨#[]⟩ : ByteArray)] at h1
    rw [decide_eq_false h]
    cases hl : s.toList with
    | nil => rw [hl] at h1; exact absurd h1 (by decide)
    | cons a b => rfl

set_option maxHeartbeats 1000000 in
theorem rname_any (s : ByteArray) (hss : s.size ≤ 1000000) (w : World) :
    Calls Tryz.prog 58 #[.string s] w fun e w' => e = .returned (.bool (nameOk s)) ∧ Below w.heap.size w w' := by
  obtain ⟨q, hq⟩ : ∃ q, q = nameOk s := ⟨_, rfl⟩
  rw [← hq]
  have Hq := Lib.hid hq
  have HS := Lib.hid hss
  clear hq
  have hne := ne_nil s
  go_enter Tryz.func58, Tryz.ntmps58
  go_wp2_with fail
  go_loop [3] (fun x => ∃ k : Nat, k ≤ s.size ∧ x = .int .i64 k ∧ Hid (∀ j, (hj : j < s.size) → j < k → okC s[j] = true)) (fun x => (s.size - intOf x).toNat)
  case atStart => exact ⟨0, by omega, rfl, fun j _ h => absurd h (by omega)⟩
  case round =>
    obtain ⟨k, hk, rfl, hp⟩ := hrel
    by_cases hlt : k < s.size
    · obtain ⟨c, hc⟩ : ∃ c, c = s[k] := ⟨_, rfl⟩
      have hcl := c.toNat_lt
      have Hc := Lib.hid hc
      by_cases h1 : 33 ≤ s[k].toNat
      · by_cases h2 : s[k].toNat ≤ 126
        · clear hc
          go_wp2_with fail
          go_round
          case rel =>
            refine ⟨k + 1, by omega, by go_num, fun j hj hjk => ?_⟩
            by_cases hjk' : j < k
            · exact hp.out j hj hjk'
            · obtain rfl : j = k := by omega
              simp [okC, h1, h2]
          case measure => simp [intOf]; omega
        · clear hc
          go_wp2_with fail
          go_ret
          have : nameOk s = false := nameOk_bad hlt (by simp [okC]; omega)
          exact ⟨by rw [Hq.out, this]; rfl, Below.refl _ _⟩
      · clear hc
        go_wp2_with fail
        go_ret
        have : nameOk s = false := nameOk_bad hlt (by simp [okC]; omega)
        exact ⟨by rw [Hq.out, this]; rfl, Below.refl _ _⟩
    · obtain rfl : k = s.size := by omega
      go_wp2_with fail
      go_ret
      have := nameOk_good (s := s) (fun k hk => hp.out k hk hk)
      exact ⟨by rw [Hq.out, this, ← hne]; rfl, Below.refl _ _⟩
end Go.Proofs.YtobaoekibnloiaaGreatDoor
/- The names of stations: script's named, and the reader's name. -/
namespace Go.Proofs.YtobaoekibnloiaaGreatDoor
open Go Go.RowKit

theorem getD_str (s : ByteArray) (k : Nat) (h : k < s.size) : s.data.toList.getD k 0 = s[k] := by
  have hl : k < s.data.toList.length := by have e : s.data.toList.length = s.size := Array.length_toList; omega
  rw [List.getD_eq_getElem?_getD, List.getElem?_eq_getElem hl]; rfl
set_option maxRecDepth 100000 in
set_option maxHeartbeats 1000000 in
theorem named_any (s : ByteArray) (hss : s.size ≤ 1000000) (w : World) :
    Calls Tryz.prog 46 #[.string s] w fun e w' => e = .returned (.bool (nameOk s)) ∧ Below w.heap.size w w' := by
  obtain ⟨q, hq⟩ : ∃ q, q = nameOk s := ⟨_, rfl⟩
  rw [← hq]
  have Hq := Lib.hid hq
  have HS := Lib.hid hss
  clear hq
  have hne := ne_nil s
  obtain ⟨w1, cap, hrun, hb1, _, hx1, _⟩ := conv_bytes w s
  have Hx := Lib.hid hx1
  clear hx1
  go_enter Tryz.func46, Tryz.ntmps46
  go_wp2_with fail
  go_loop [8] (fun x => ∃ k : Nat, k ≤ s.size ∧ x = .int .i64 k ∧ Hid (∀ j, (hj : j < s.size) → j < k → okC s[j] = true)) (fun x => (s.size - intOf x).toNat)
  case atStart => exact ⟨0, by omega, rfl, fun j _ h => absurd h (by omega)⟩
  case round =>
    obtain ⟨k, hk, rfl, hp⟩ := hrel
    by_cases hlt : k < s.size
    · have hcl := s[k].toNat_lt
      have hcell : w1.cell? ⟨w.heap.size, k, none⟩ = some (.int .u8 s[k].toNat) := by
        rw [Hx.out k hlt]
        rw [getD_str s k hlt]
      by_cases h1 : 33 ≤ s[k].toNat
      · by_cases h2 : s[k].toNat ≤ 126
        · go_wp2_with fail
          go_round
          case rel =>
            refine ⟨k + 1, by omega, by go_num, fun j hj hjk => ?_⟩
            by_cases hjk' : j < k
            · exact hp.out j hj hjk'
            · obtain rfl : j = k := by omega
              simp [okC, h1, h2]
          case measure => simp [intOf]; omega
        · go_wp2_with fail
          go_ret
          have : nameOk s = false := nameOk_bad hlt (by simp [okC]; omega)
          exact ⟨by rw [Hq.out, this]; rfl, hb1⟩
      · go_wp2_with fail
        go_ret
        have : nameOk s = false := nameOk_bad hlt (by simp [okC]; omega)
        exact ⟨by rw [Hq.out, this]; rfl, hb1⟩
    · obtain rfl : k = s.size := by omega
      go_wp2_with fail
      go_ret
      have := nameOk_good (s := s) (fun k hk => hp.out k hk hk)
      exact ⟨by rw [Hq.out, this, ← hne]; rfl, hb1⟩

/-- A call of the reader that returns a name. -/
def NameRd (pb : Nat) (ws : List ByteArray) (bad : Bool) (w : World) (e : Ending) (w' : World) : Prop :=
  ∃ bad', e = .returned (.string (ws.headD ByteArray.empty)) ∧ (bad' = false ↔ bad = false ∧ nameOk (ws.headD ByteArray.empty) = true) ∧ Cur w' pb ws.tail bad' ∧ But w.heap.size pb w w'
set_option maxHeartbeats 1000000 in
theorem name_any (pb : Nat) (ws : List ByteArray) (bad : Bool) (w : World) (h : Cur w pb ws bad) (hsz : ∀ s ∈ ws, s.size ≤ 1000000) :
    Calls Tryz.prog 57 #[.pointer (some ⟨pb, 0, none⟩)] w (NameRd pb ws bad w) := by
  have hss : (ws.headD ByteArray.empty).size ≤ 1000000 := by
    cases ws with
    | nil => exact Nat.zero_le _
    | cons s r => exact hsz s (by simp)
  have hnil : nameOk (ws.headD ByteArray.empty) = true → ws.isEmpty = false := by
    intro hm
    cases ws with
    | nil => exact absurd hm (by decide)
    | cons s r => rfl
  have Hn := Lib.hid hnil
  clear hnil hsz
  go_enter Tryz.func57, Tryz.ntmps57
  go_wp2_with fail
  refine (next_any pb ws bad w h).mono ?_
  rintro e w1 ⟨rfl, hc1, hb1⟩
  obtain ⟨s, hs⟩ : ∃ s, s = ws.headD ByteArray.empty := ⟨_, rfl⟩
  rw [← hs] at hss Hn ⊢
  have Hs := Lib.hid hs
  have Hc1 := Lib.hid hc1
  have Hb1 := Lib.hid hb1
  have hsize := hb1.size
  obtain ⟨_, _, _, _, _, h4, _, h6, _⟩ := hc1
  clear hs hb1 h
  by_cases hbad : (bad || ws.isEmpty) = true
  · rw [hbad] at h4
    have Hbad := Lib.hid hbad
    clear hbad
    go_wp2_with fail
    go_ret
    refine ⟨true, by rw [← Hs.out]; rfl, ⟨fun h => absurd h (by simp), fun ⟨h, hn⟩ => ?_⟩, Hc1.out.mark true, Hb1.out.setCell (p := ⟨pb, 1, none⟩) (Or.inr rfl) _⟩
    have := Hbad.out
    rw [h, Hn.out (by rw [Hs.out]; exact hn)] at this
    cases this
  · have hbf : (bad || ws.isEmpty) = false := by simpa using hbad
    rw [hbf] at h4
    have Hbf := Lib.hid hbf
    clear hbad hbf
    go_wp2_with fail
    refine (named_any s hss w1).mono ?_
    rintro e w2 ⟨rfl, hb2⟩
    have hc2 := Hc1.out.below hb2
    have Hc2 := Lib.hid hc2
    have hx4 := cell_then hb2 h4
    obtain ⟨_, _, _, _, _, _, _, h6', _⟩ := hc2
    obtain ⟨q, hq⟩ : ∃ q, q = nameOk s := ⟨_, rfl⟩
    rw [← hq]
    have Hq := Lib.hid hq
    clear hq h4 h6
    go_wp2_with fail
    go_ret
    refine ⟨!q, by rw [← Hs.out]; rfl, ?_, Hc2.out.mark _, (Hb1.out.trans (But.of_below (hb2.mono hsize))).setCell (p := ⟨pb, 1, none⟩) (Or.inr rfl) _⟩
    have := Hbf.out
    simp at this
    rw [← Hs.out, ← Hq.out, this.1]
    simp
end Go.Proofs.YtobaoekibnloiaaGreatDoor
