/- Part 1 of the proof: laws on memory and what functions of the program return. No conditions but those that each theorem names. -/
import Derived.WalkKit
import Derived.WalkLawsBesides
import Derived.Deep.Draws
import Derived.Lib.Hide
import Derived.Test.YtpknalpdcfjffaaGreatChecked
import Derived.Outline
import Derived.Deep.QuietTactic
import Derived.BigQuiet
import Derived.IntWalk
import Derived.Deep.AppendLies
import Derived.Laws.IdiomStrings
import Derived.Deep.AppendSrc
import Derived.Deep.Upon
import Derived.Laws.CopyOwn
import Derived.Deep.RegionHeld3
set_option linter.unusedVariables false
set_option linter.unusedSimpArgs false
/- Small laws on worlds: what stays as it was when one block and new blocks are written. No conditions, no program. -/
namespace Go.Proofs.YtpknalpdcfjffaaGreat
open Go Go.RowKit

/-- An int of Go is in its range. -/
def I64 (x : Int) : Prop := -9223372036854775808 ≤ x ∧ x ≤ 9223372036854775807
theorem I64.lo {x : Int} (h : I64 x) : -9223372036854775808 ≤ x := h.1
theorem I64.hi {x : Int} (h : I64 x) : x ≤ 9223372036854775807 := h.2
theorem I64.zero : I64 0 := by unfold I64; omega

/-- Below block number B, and but for block b, the world is as it was. -/
structure But (B b : Nat) (w w' : World) : Prop where
  os : w'.os = w.os
  tape : w'.tape = w.tape
  output : w'.output = w.output
  size : w.heap.size ≤ w'.heap.size
  block : ∀ k, k < B → k ≠ b → w'.heap[k]? = w.heap[k]?

theorem But.refl (B b : Nat) (w : World) : But B b w w := ⟨rfl, rfl, rfl, Nat.le_refl _, fun _ _ _ => rfl⟩
theorem But.trans {B b : Nat} {x y z : World} (h : But B b x y) (k : But B b y z) : But B b x z :=
  ⟨k.os.trans h.os, k.tape.trans h.tape, k.output.trans h.output, Nat.le_trans h.size k.size, fun i hi hn => (k.block i hi hn).trans (h.block i hi hn)⟩
theorem But.mono {B B' b : Nat} {w w' : World} (h : But B b w w') (hB : B' ≤ B) : But B' b w w' :=
  ⟨h.os, h.tape, h.output, h.size, fun k hk => h.block k (Nat.lt_of_lt_of_le hk hB)⟩
theorem But.of_below {B b : Nat} {w w' : World} (h : Below B w w') : But B b w w' := ⟨h.os, h.tape, h.output, h.size, fun k hk _ => h.block k hk⟩
/-- Where the one block lies at B or behind it, all below B is as it was. -/
theorem But.below {B b : Nat} {w w' : World} (h : But B b w w') (hb : B ≤ b) : Below B w w' := ⟨h.os, h.tape, h.output, h.size, fun k hk => h.block k hk (by omega)⟩
theorem But.drewN {B b : Nat} {a w : World} (h : But B b a w) (n : Nat) : But B b a (w.drewN n) := ⟨h.os, h.tape, h.output, h.size, h.block⟩
theorem But.drew {B b : Nat} {a w : World} (h : But B b a w) : But B b a w.drew := ⟨h.os, h.tape, h.output, h.size, h.block⟩
theorem But.alloc {B b : Nat} {a w : World} (h : But B b a w) (hB : B ≤ w.heap.size) (o : Obj) : But B b a (w.alloc o) :=
  h.trans ⟨rfl, rfl, rfl, by simp, fun k hk _ => Below.heap_alloc _ _ _ (by omega)⟩
theorem But.setCell {B b : Nat} {a w : World} (h : But B b a w) {p : Addr} (hp : B ≤ p.block ∨ p.block = b) (u : Value) : But B b a (w.setCell p u) :=
  h.trans ⟨rfl, rfl, rfl, by simp [World.setCell], fun k hk hn => Below.heap_setCell _ _ _ _ (by omega)⟩
theorem But.cell {B b : Nat} {w w' : World} (h : But B b w w') {p : Addr} (hp : p.block < B) (hn : p.block ≠ b) : w'.cell? p = w.cell? p :=
  World.cell?_of_block (w := w) (h.block p.block hp hn)
theorem But.frozen {B b : Nat} {w w' : World} (h : But B b w w') {p : Addr} (hp : p.block < B) (hn : p.block ≠ b) : w'.frozen? p = w.frozen? p :=
  World.frozen?_of_block (w := w) (h.block p.block hp hn)

theorem below_then {w wx w' : World} (h : Below w.heap.size w wx) (hb : Below wx.heap.size wx w') : Below w.heap.size w w' := h.trans (hb.mono h.size)
theorem cell_then {wx w' : World} {a : Addr} {v : Value} (hb : Below wx.heap.size wx w') (h : wx.cell? a = some v) : w'.cell? a = some v := by
  rw [hb.cell (World.block_lt_of_cell? _ _ h)]; exact h
/-- The rules that a walk needs behind a contract that ends in Below. -/
theorem bcell {W w1 : World} (hb : Below W.heap.size W w1) : (∀ b o, b < W.heap.size → w1.cell? ⟨b, o, none⟩ = W.cell? ⟨b, o, none⟩) ∧ (∀ b o, b < W.heap.size → w1.frozen? ⟨b, o, none⟩ = W.frozen? ⟨b, o, none⟩) :=
  ⟨fun b o h => hb.cell (p := ⟨b, o, none⟩) h, fun b o h => hb.frozen (p := ⟨b, o, none⟩) h⟩
/-- The rules that a walk needs behind a contract that ends in But. -/
theorem ucell {b : Nat} {W w1 : World} (hb : But W.heap.size b W w1) : (∀ k o, k < W.heap.size → k ≠ b → w1.cell? ⟨k, o, none⟩ = W.cell? ⟨k, o, none⟩) ∧ (∀ k o, k < W.heap.size → k ≠ b → w1.frozen? ⟨k, o, none⟩ = W.frozen? ⟨k, o, none⟩) :=
  ⟨fun k o h hn => hb.cell (p := ⟨k, o, none⟩) h hn, fun k o h hn => hb.frozen (p := ⟨k, o, none⟩) h hn⟩

end Go.Proofs.YtpknalpdcfjffaaGreat
/- The choices of synopticfield: New, Left, Next, Int and Place. What they return lies in its range, and only the list's own place is written. No conditions. -/
namespace Go.Proofs.YtpknalpdcfjffaaGreat
open Go Go.RowKit

theorem but_cell {wx w' : World} {b : Nat} {a : Addr} {v : Value} (hb : But wx.heap.size b wx w') (hn : a.block ≠ b) (h : wx.cell? a = some v) : w'.cell? a = some v := by
  rw [hb.cell (World.block_lt_of_cell? _ _ h) hn]; exact h
theorem bdrewN {B : Nat} {w w' : World} (h : Below B w w') (n : Nat) : Below B w (w'.drewN n) := ⟨h.os, h.tape, h.output, h.size, h.block⟩

/-- Block b is a list of choices; the bytes lie below block B. -/
def CodesIs (w : World) (B b : Nat) : Prop :=
  ∃ (a : Option Addr) (len cap k : Nat), B ≤ b ∧ w.cell? ⟨b, 0, none⟩ = some (.slice a len cap) ∧ w.cell? ⟨b, 1, none⟩ = some (.int .i64 k) ∧ w.frozen? ⟨b, 1, none⟩ = false ∧ k ≤ len ∧ len ≤ 1000 ∧
    (∀ i, k ≤ i → i < len → ∃ ab ao : Nat, a = some ⟨ab, ao, none⟩ ∧ ab < B ∧ ∃ z : Int, 0 ≤ z ∧ z ≤ 255 ∧ w.cell? ⟨ab, ao + i, none⟩ = some (.int .u8 z))
theorem CodesIs.lt {w : World} {B b : Nat} (h : CodesIs w B b) : b < w.heap.size := by
  obtain ⟨a, len, cap, k, h0, h1, _⟩ := h
  exact World.block_lt_of_cell? (a := ⟨b, 0, none⟩) _ h1
theorem CodesIs.le {w : World} {B b : Nat} (h : CodesIs w B b) : B ≤ b := by obtain ⟨_, _, _, _, h0, _⟩ := h; exact h0
theorem CodesIs.of_same {w w' : World} {B b : Nat} (h : CodesIs w B b) (hb : w'.heap[b]? = w.heap[b]?) (hB : ∀ k, k < B → k < w.heap.size → w'.heap[k]? = w.heap[k]?) : CodesIs w' B b := by
  obtain ⟨a, len, cap, k, h0, h1, h2, h3, h4, h5, h6⟩ := h
  refine ⟨a, len, cap, k, h0, ?_, ?_, ?_, h4, h5, ?_⟩
  · rw [World.cell?_of_block (w := w) hb]; exact h1
  · rw [World.cell?_of_block (w := w) hb]; exact h2
  · rw [World.frozen?_of_block (w := w) hb]; exact h3
  · intro i hi hl
    obtain ⟨ab, ao, ha, hlt, z, z0, z1, hc⟩ := h6 i hi hl
    have hb' := hB _ hlt (World.block_lt_of_cell? (a := ⟨ab, ao + i, none⟩) _ hc)
    refine ⟨ab, ao, ha, hlt, z, z0, z1, ?_⟩
    have e : w'.cell? ⟨ab, ao + i, none⟩ = w.cell? ⟨ab, ao + i, none⟩ := World.cell?_of_block (w := w) hb'
    rw [e]; exact hc
theorem CodesIs.below {w w' : World} {B b C : Nat} (h : CodesIs w B b) (hw : Below C w w') (hC : b < C) : CodesIs w' B b :=
  h.of_same (hw.block _ hC) (fun k hk _ => hw.block k (by have := h.le; omega))
theorem CodesIs.setCell {w : World} {B b : Nat} (h : CodesIs w B b) {p : Addr} (hp : p.block ≠ b) (hB : B ≤ p.block) (u : Value) : CodesIs (w.setCell p u) B b :=
  h.of_same (Below.heap_setCell _ _ _ _ (by omega)) (fun k hk _ => Below.heap_setCell _ _ _ _ (by omega))
theorem CodesIs.alloc {w : World} {B b : Nat} (h : CodesIs w B b) (o : Obj) : CodesIs (w.alloc o) B b :=
  h.of_same (Below.heap_alloc _ _ _ h.lt) (fun _ _ hk => Below.heap_alloc _ _ _ hk)
theorem CodesIs.drewN {w : World} {B b : Nat} (h : CodesIs w B b) (n : Nat) : CodesIs (w.drewN n) B b := h.of_same rfl (fun _ _ _ => rfl)
theorem CodesIs.drew {w : World} {B b : Nat} (h : CodesIs w B b) : CodesIs w.drew B b := h.of_same rfl (fun _ _ _ => rfl)

/-- Since world w0 nothing has turned but the choices in block b. -/
def St (w0 : World) (B b : Nat) (w : World) : Prop := CodesIs w B b ∧ But w0.heap.size b w0 w
theorem St.start {w : World} {B b : Nat} (h : CodesIs w B b) : St w B b w := ⟨h, But.refl _ _ _⟩
theorem St.size {w0 w : World} {B b : Nat} (h : St w0 B b w) : w0.heap.size ≤ w.heap.size := h.2.size
theorem St.lt {w0 w : World} {B b : Nat} (h : St w0 B b w) : b < w.heap.size := h.1.lt
theorem St.alloc {w0 w : World} {B b : Nat} (h : St w0 B b w) (o : Obj) : St w0 B b (w.alloc o) := ⟨h.1.alloc o, h.2.alloc h.2.size o⟩
theorem St.drewN {w0 w : World} {B b : Nat} (h : St w0 B b w) (n : Nat) : St w0 B b (w.drewN n) := ⟨h.1.drewN n, h.2.drewN n⟩
theorem St.drew {w0 w : World} {B b : Nat} (h : St w0 B b w) : St w0 B b w.drew := ⟨h.1.drew, h.2.drew⟩
theorem St.below {w0 w w' : World} {B b : Nat} (h : St w0 B b w) (hw : Below w.heap.size w w') : St w0 B b w' := ⟨h.1.below hw h.1.lt, h.2.trans (But.of_below (hw.mono h.2.size))⟩
theorem St.setCell {w0 w : World} {B b : Nat} (h : St w0 B b w) {p : Addr} (hp : w0.heap.size ≤ p.block) (hn : p.block ≠ b) (hB : B ≤ p.block) (u : Value) : St w0 B b (w.setCell p u) := ⟨h.1.setCell hn hB u, h.2.setCell (Or.inl hp) u⟩
theorem St.then {w0 w w' : World} {B b : Nat} (h : St w0 B b w) (hs : St w B b w') : St w0 B b w' := ⟨hs.1, h.2.trans (hs.2.mono h.2.size)⟩
theorem St.grown {w0 w w' : World} {B b base : Nat} (h : St w0 B b w) (hb : Below base w w') (hbb : b < base) (h0 : w0.heap.size ≤ base) : St w0 B b w' := ⟨h.1.below hb hbb, h.2.trans (But.of_below (hb.mono h0))⟩

/-- A call that returns a number of a range, and writes the choices at most. -/
def IntIn (lo hi : Int) (B b : Nat) (w : World) (e : Ending) (w' : World) : Prop := ∃ x : Int, lo ≤ x ∧ x ≤ hi ∧ e = .returned (.int .i64 x) ∧ St w B b w'
def BoolIn (q : Bool) (w : World) (e : Ending) (w' : World) : Prop := e = .returned (.bool q) ∧ ∃ n, w' = w.drewN n

theorem left_raw (b k len cap : Nat) (a : Option Addr) (w : World) (h0 : w.cell? ⟨b, 0, none⟩ = some (.slice a len cap)) (h1 : w.cell? ⟨b, 1, none⟩ = some (.int .i64 k)) (q : Bool) (hq : decide (k < len) = q) :
    Calls Tryz.prog 18 #[.pointer (some ⟨b, 0, none⟩)] w (BoolIn q w) := by
  go_enter Tryz.func18, Tryz.ntmps18
  go_wp2
  go_quiet (fail)
  go_wp2
  go_ret
  exact ⟨by rw [← hq]; rfl, _, rfl⟩

set_option maxHeartbeats 1000000 in
theorem next_ok (B b : Nat) (n : Int) (w : World) (h : CodesIs w B b) (h1 : 1 ≤ n) (h2 : n ≤ 1000000000) :
    Calls Tryz.prog 6 #[.pointer (some ⟨b, 0, none⟩), .int .i64 n] w (IntIn 0 (n - 1) B b w) := by
  have H := Lib.hid h
  obtain ⟨a, len, cap, k, q0, q1, q2, q3, q4, q5, q6⟩ := h
  have H6 := Lib.hid q6
  rcases Nat.lt_or_ge k len with hk | hk
  · obtain ⟨ab, ao, rfl, hab, z, z0, z1, hz⟩ := H6.out k (Nat.le_refl _) hk
    have L := Lib.hid (left_raw b k len cap (some ⟨ab, ao, none⟩) w q1 q2 true (by simpa using hk))
    have hne : ab ≠ b := by omega
    have Hfin : Hid (∀ (m p : Nat), St w B b (((w.drewN m).setCell ⟨b, 1, none⟩ (.int .i64 ((k : Int) + 1))).drewN p)) := by
      intro m p
      refine ⟨?_, ((But.refl _ b _).drewN m |>.setCell (p := ⟨b, 1, none⟩) (Or.inr rfl) _).drewN p⟩
      refine ⟨some ⟨ab, ao, none⟩, len, cap, k + 1, q0, ?_, ?_, ?_, hk, q5, ?_⟩
      · simp only [World.cell?_drewN]
        rw [World.cell?_setCell_other _ _ _ _ (by simp)]; exact q1
      · simp only [World.cell?_drewN]
        exact World.cell?_setCell_same _ _ _ (by simp only [World.cell?_drewN]; exact q2)
      · rw [← q3]; simp
      · intro i hi hl
        obtain ⟨ab', ao', e', hlt', z', z0', z1', hc'⟩ := H6.out i (by omega) hl
        obtain ⟨rfl, rfl⟩ : ab = ab' ∧ ao = ao' := by simpa using e'
        refine ⟨ab, ao, rfl, hlt', z', z0', z1', ?_⟩
        simp only [World.cell?_drewN]
        rw [World.cell?_setCell_other _ _ _ _ (by simp)]; exact hc'
    have hm0 : 0 ≤ z % n := Int.emod_nonneg _ (by omega)
    have hm1 : z % n < n := Int.emod_lt_of_pos _ (by omega)
    clear q6
    go_enter Tryz.func6, Tryz.ntmps6
    go_wp2_with fail
    refine L.out.mono ?_
    rintro e w1 ⟨rfl, m, rfl⟩
    have e1 : IntKind.i64.wrap (k : Int) = k := IntWalk.i64_in _ (by omega)
    go_wp2_with fail
    have e2 : (0 : Int) ≤ (k : Int) := by omega
    have e3 : (k : Int) < len := by omega
    go_quiet (fail)
    clear e1 e2 e3
    go_wp2_with fail
    go_ret
    exact ⟨_, hm0, by omega, rfl, Hfin.out _ _⟩
  · have L := Lib.hid (left_raw b k len cap a w q1 q2 false (by simp; omega))
    clear q6
    go_enter Tryz.func6, Tryz.ntmps6
    go_wp2_with fail
    refine L.out.mono ?_
    rintro e w1 ⟨rfl, m, rfl⟩
    go_wp2_with fail
    go_ret
    exact ⟨0, by omega, by omega, rfl, (St.start H.out).drewN _⟩

/-- A call that returns an int, and writes the choices at most. -/
def IntAny (B b : Nat) (w : World) (e : Ending) (w' : World) : Prop := ∃ x : Int, I64 x ∧ e = .returned (.int .i64 x) ∧ St w B b w'

def greats : List Int := [9223372036854775807, -9223372036854775808, 144115188075855872, 144115188075855873, -1, 4294967296, 1048576, 1048577, 4194304, 1000001, 0, 17]
theorem greats_I64 : ∀ z ∈ greats, I64 z := by unfold greats I64; intro z hz; simp at hz; omega

set_option maxHeartbeats 1000000 in
set_option maxRecDepth 100000 in
theorem int_ok (B b : Nat) (w : World) (h : CodesIs w B b) :
    Calls Tryz.prog 19 #[.pointer (some ⟨b, 0, none⟩)] w (IntAny B b w) := by
  have hlt := h.lt
  have hs0 := Lib.hid ((St.start h).alloc (.cells #[.int .i64 9223372036854775807, .int .i64 (-9223372036854775808), .int .i64 144115188075855872, .int .i64 144115188075855873, .int .i64 (-1), .int .i64 4294967296, .int .i64 1048576, .int .i64 1048577, .int .i64 4194304, .int .i64 1000001, .int .i64 0, .int .i64 17] 3))
  have hcells : Hid (∀ i, i < 12 → ∃ z : Int, I64 z ∧ (w.alloc (.cells #[.int .i64 9223372036854775807, .int .i64 (-9223372036854775808), .int .i64 144115188075855872, .int .i64 144115188075855873, .int .i64 (-1), .int .i64 4294967296, .int .i64 1048576, .int .i64 1048577, .int .i64 4194304, .int .i64 1000001, .int .i64 0, .int .i64 17] 3)).cell? ⟨w.heap.size, i, none⟩ = some (.int .i64 z)) := by
    intro i hi
    refine ⟨greats.getD i 0, ?_, ?_⟩
    · refine greats_I64 _ ?_
      have : greats.getD i 0 = greats[i]'(by simpa [greats] using hi) := by simp [List.getD_eq_getElem?_getD, show i < greats.length by simpa [greats] using hi]
      rw [this]; exact List.getElem_mem _
    · have : i = 0 ∨ i = 1 ∨ i = 2 ∨ i = 3 ∨ i = 4 ∨ i = 5 ∨ i = 6 ∨ i = 7 ∨ i = 8 ∨ i = 9 ∨ i = 10 ∨ i = 11 := by omega
      rcases this with rfl | rfl | rfl | rfl | rfl | rfl | rfl | rfl | rfl | rfl | rfl | rfl <;> simp [greats]
  clear h
  go_enter Tryz.func19, Tryz.ntmps19
  go_wp2_with fail
  generalize w.alloc (.cells #[.int .i64 9223372036854775807, .int .i64 (-9223372036854775808), .int .i64 144115188075855872, .int .i64 144115188075855873, .int .i64 (-1), .int .i64 4294967296, .int .i64 1048576, .int .i64 1048577, .int .i64 4194304, .int .i64 1000001, .int .i64 0, .int .i64 17] 3) = w0 at *
  refine (next_ok B b 4 w0 hs0.out.1 (by omega) (by omega)).mono ?_
  rintro e w1 ⟨x, x0, x1, rfl, hs⟩
  have Hs1 := Lib.hid (hs0.out.then hs)
  have hk1 := hs.2
  by_cases hx : x = 3
  · subst hx
    go_wp2_with fail
    refine (next_ok B b 12 w1 Hs1.out.1 (by omega) (by omega)).mono ?_
    rintro e w2 ⟨y, y0, y1, rfl, hs2⟩
    obtain ⟨j, rfl⟩ : ∃ j : Nat, y = j := ⟨y.toNat, by omega⟩
    have hj : j < 12 := by omega
    obtain ⟨z, hz, hc⟩ := hcells.out j hj
    have hc2 := but_cell hs2.2 (by simp; omega) (but_cell hk1 (by simp; omega) hc)
    have Hs2 := Lib.hid (Hs1.out.then hs2)
    have Hz := Lib.hid hz
    clear hs hs2 hk1 hc hz
    go_wp2_with fail
    go_ret
    exact ⟨z, Hz.out, rfl, Hs2.out⟩
  · have hxb : (x == 3) = false := by simpa using hx
    clear hx hs hk1
    go_wp2_with fail
    refine (next_ok B b 256 w1 Hs1.out.1 (by omega) (by omega)).mono ?_
    rintro e w2 ⟨y, y0, y1, rfl, hs2⟩
    have Hs2 := Lib.hid (Hs1.out.then hs2)
    clear hs2
    go_wp2_with fail
    go_ret
    exact ⟨_, by unfold I64; omega, rfl, Hs2.out⟩

/-- A place whose parts are small. -/
def PlaceSmall (B b : Nat) (w : World) (e : Ending) (w' : World) : Prop := ∃ f p q r : Int, 0 ≤ f ∧ f ≤ 20 ∧ 0 ≤ p ∧ p ≤ 840 ∧ 0 ≤ q ∧ q ≤ 840 ∧ 0 ≤ r ∧ r ≤ 840 ∧ e = .returned (.agg #[.int .i64 f, .int .i64 p, .int .i64 q, .int .i64 r]) ∧ St w B b w'

set_option maxHeartbeats 1000000 in
set_option maxRecDepth 100000 in
theorem place_ok (B b : Nat) (w : World) (h : CodesIs w B b) :
    Calls Tryz.prog 22 #[.pointer (some ⟨b, 0, none⟩)] w (PlaceSmall B b w) := by
  have hlt := h.lt
  have hle := h.le
  have hs0 := Lib.hid ((St.start h).alloc (.cells #[.int .i64 0, .int .i64 0, .int .i64 0, .int .i64 0] 29))
  clear h
  go_enter Tryz.func22, Tryz.ntmps22
  go_wp2_with fail
  refine (next_ok B b 121 _ hs0.out.1 (by omega) (by omega)).mono ?_
  rintro e w1 ⟨x, x0, x1, rfl, hs⟩
  have c0 : w1.cell? ⟨w.heap.size, 0, none⟩ = some (.int .i64 0) := but_cell hs.2 (by simp; omega) (by simp)
  have c1 : w1.cell? ⟨w.heap.size, 1, none⟩ = some (.int .i64 0) := but_cell hs.2 (by simp; omega) (by simp)
  have c2 : w1.cell? ⟨w.heap.size, 2, none⟩ = some (.int .i64 0) := but_cell hs.2 (by simp; omega) (by simp)
  have c3 : w1.cell? ⟨w.heap.size, 3, none⟩ = some (.int .i64 0) := but_cell hs.2 (by simp; omega) (by simp)
  have f0 : ∀ i, w1.frozen? ⟨w.heap.size, i, none⟩ = false := fun i => by rw [hs.2.frozen (by simp) (by simp; omega)]; simp
  have Hs1 := Lib.hid (hs0.out.then hs)
  have hd : (840 - 7 * x) / 7 + 1 ≤ 121 ∧ 1 ≤ (840 - 7 * x) / 7 + 1 := by omega
  clear hs
  go_wp2_with fail
  refine (next_ok B b ((840 - 7 * x) / 7 + 1) w1 Hs1.out.1 (by omega) (by omega)).mono ?_
  rintro e w2 ⟨y, y0, y1, rfl, hs⟩
  have d0 := but_cell hs.2 (by simp; omega) c0
  have d1 := but_cell hs.2 (by simp; omega) c1
  have d2 := but_cell hs.2 (by simp; omega) c2
  have d3 := but_cell hs.2 (by simp; omega) c3
  have hz1 : w.heap.size < w1.heap.size := World.block_lt_of_cell? (a := ⟨w.heap.size, 0, none⟩) _ c0
  have f1 : ∀ i, w2.frozen? ⟨w.heap.size, i, none⟩ = false := fun i => by rw [hs.2.frozen (by simp; omega) (by simp; omega)]; exact f0 i
  have Hs2 := Lib.hid (Hs1.out.then hs)
  clear hs c0 c1 c2 c3 f0
  go_wp2_with fail
  refine (next_ok B b 20 w2 Hs2.out.1 (by omega) (by omega)).mono ?_
  rintro e w3 ⟨z, z0, z1, rfl, hs⟩
  have c0 := but_cell hs.2 (by simp; omega) d0
  have c1 := but_cell hs.2 (by simp; omega) d1
  have c2 := but_cell hs.2 (by simp; omega) d2
  have c3 := but_cell hs.2 (by simp; omega) d3
  have hz2 : w.heap.size < w2.heap.size := World.block_lt_of_cell? (a := ⟨w.heap.size, 0, none⟩) _ d0
  have f2 : ∀ i, w3.frozen? ⟨w.heap.size, i, none⟩ = false := fun i => by rw [hs.2.frozen (by simp; omega) (by simp; omega)]; exact f1 i
  have g0 := f2 0
  have g1 := f2 1
  have g2 := f2 2
  have g3 := f2 3
  have Hs3 := Lib.hid (Hs2.out.then hs)
  clear hs d0 d1 d2 d3 f1 f2
  go_wp2_with fail
  have hne : w.heap.size ≠ b := by omega
  have hBw : B ≤ w.heap.size := by omega
  exact bodyPost_ret (v := .agg #[.int .i64 z, .int .i64 (7 * x), .int .i64 (7 * y), .int .i64 (840 - 7 * x - 7 * y)]) (by simp [results, Tryz.results22, go_sem, c0, c1, c2, c3]) rfl
    ⟨z, 7 * x, 7 * y, 840 - 7 * x - 7 * y, z0, by omega, by omega, by omega, by omega, by omega, by omega, by omega, rfl,
      (((Hs3.out.setCell (p := ⟨w.heap.size, 0, none⟩) (Nat.le_refl _) hne hBw _).setCell (p := ⟨w.heap.size, 1, none⟩) (Nat.le_refl _) hne hBw _).setCell (p := ⟨w.heap.size, 2, none⟩) (Nat.le_refl _) hne hBw _).setCell (p := ⟨w.heap.size, 3, none⟩) (Nat.le_refl _) hne hBw _⟩
end Go.Proofs.YtpknalpdcfjffaaGreat
/- Slices of the call's own, of any type: append of a literal, in plain code and in a region that draws. -/
namespace Go.Proofs.YtpknalpdcfjffaaGreat
open Go Go.RowKit

theorem ownsRow_of_same {w w' : World} {base : Nat} {e : TypeId} {sz n : Nat} {v : Value} {cs : List Value} (h : w.ownsRow base e sz v n cs) (hb : ∀ k, base ≤ k → k < w.heap.size → w'.heap[k]? = w.heap[k]?) : w'.ownsRow base e sz v n cs := by
  obtain ⟨h1, h2⟩ := h
  refine ⟨h1, ?_⟩
  rcases h2 with h2 | ⟨g, cap, cur, e, hg, hh, h3, h4, h5, h6⟩
  · exact Or.inl h2
  · have hlt : g < w.heap.size := by
      rcases Nat.lt_or_ge g w.heap.size with q | q
      · exact q
      · rw [Array.getElem?_eq_none q] at hh; cases hh
    exact Or.inr ⟨g, cap, cur, e, hg, by rw [hb g hg hlt]; exact hh, h3, h4, h5, h6⟩
theorem ownsRow_below {w w' : World} {base : Nat} {e : TypeId} {sz n : Nat} {v : Value} {cs : List Value} (h : w.ownsRow base e sz v n cs) (hb : Below w.heap.size w w') : w'.ownsRow base e sz v n cs := ownsRow_of_same h (fun k _ hk => hb.block k hk)
theorem ownsRow_but {w w' : World} {base b : Nat} {e : TypeId} {sz n : Nat} {v : Value} {cs : List Value} (h : w.ownsRow base e sz v n cs) (hb : But w.heap.size b w w') (hbb : b < base) : w'.ownsRow base e sz v n cs := ownsRow_of_same h (fun k h1 hk => hb.block k hk (by omega))

/-- append(v, news..), the news in a new block. -/
theorem append_new (st e : TypeId) {z : Value} {sz by_ : Nat} (hu : Tryz.prog.underlying st = some (.slice e)) (hinfo : (Tryz.prog.info? e).map (fun i => (i.zero, i.size, i.bytes)) = some (some z, sz, by_)) (hz : z.cells.size = sz) (hsz : 0 < sz)
    {w : World} {base n : Nat} {v : Value} {cs : List Value} (h : w.ownsRow base e sz v n cs) (news : List Value) (k : Nat) (hk : news.length = k * sz) (hone : ∀ u ∈ news, u.oneCell' = true) (hn : n ≤ 1000000000) (hk1 : k ≤ 1000000000) (hsz1 : by_ ≤ 1000) (hb : base ≤ w.heap.size) (ty : TypeId) :
    ∃ (v' : Value) (w' : World), (Builtin.append_ #[st, st] ty #[v, .slice (some ⟨w.heap.size, 0, none⟩) k k]).run Tryz.prog (w.alloc (.cells news.toArray e)) = .ok v' w' ∧
      w'.ownsRow base e sz v' (n + k) (cs ++ news) ∧ Below base w w' := by
  obtain ⟨i0, hi, hz0, hz1, hz2⟩ := info_parts hinfo
  have hA := World.ownsRow.alloc h (.cells news.toArray e)
  have hm : (n + k) * by_ ≤ 2000000000 * 1000 := Nat.mul_le_mul (by omega) hsz1
  obtain ⟨v', w', h1, h2, h3, _⟩ := run_append_own (P := Tryz.prog) (w.alloc (.cells news.toArray e)) base st ty e i0 z sz by_ hu hi hz0 hz1 hz2 hz (by omega)
    v n cs hA ⟨w.heap.size, 0, none⟩ k k news hk (World.news_of_block (cs := news.toArray) (t := e) (fr := (0, 0)) (heap_alloc_new w _)) hone (by unfold maxLen; omega) (by omega) (by simp; omega)
  exact ⟨v', w', h1, h2, ((Below.refl base w).alloc hb _).grown h3 (by simp; omega) (fun k hk => (World.ownsRow.lt hA k hk).1)⟩

/-- An append whose run is known. -/
theorem wpList_append_run {P : Program} {w : World} {ops : Array Oper} {rest : List Oper} {o : Oper} {a : Act} {Q : Exit → Act → World → Prop} (hgd : o.guard = none) (s x : Operand) (t : TypeId)
    (ho : o.op = .call { callee := .builtin .append, args := #[s, x], argTypes := #[t, t] }) (v xv v' : Value) (w' : World) (hs : a.eval s = v) (hx : a.eval x = xv)
    (hrun : (Builtin.append_ #[t, t] o.type #[v, xv]).run P w = .ok v' w') (h : wpList P ops Q rest (a.put o.dst v') w') : wpList P ops Q (o :: rest) a w := by
  refine wpList_plain hgd fun K hK => ?_
  unfold Oper.wp execOp
  simp only [ho, resolve, invoke, builtin, Sem.run_bind, Sem.run_pure, Result.andThen_ok, List.map_toArray, List.map_cons, List.map_nil, hs, hx, hrun]
  exact hK _ _ h
/-- The same as a step of a region that draws. -/
theorem step_append_run {P : Program} {ops : Array Oper} {o : Oper} {a : Act} {w : World} {K : Act → World → Prop} {Q : Exit → Act → World → Prop} {E : Prop} (hgd : o.guard = none) (s x : Operand) (t : TypeId)
    (ho : o.op = .call { callee := .builtin .append, args := #[s, x], argTypes := #[t, t] }) (v xv v' : Value) (w' : World) (hs : a.eval s = v) (hx : a.eval x = xv)
    (hrun : (Builtin.append_ #[t, t] o.type #[v, xv]).run P w = .ok v' w') (h : K (a.put o.dst v') w') :
    if Region.wanted o (yielded ops a.tmps) = true then Oper.wp P o a w K Q else E := by
  have hw : Region.wanted o (yielded ops a.tmps) = true := by simp [Region.wanted, hgd]
  rw [if_pos hw]
  unfold Oper.wp execOp
  simp only [ho, resolve, invoke, builtin, Sem.run_bind, Sem.run_pure, Result.andThen_ok, List.map_toArray, List.map_cons, List.map_nil, hs, hx, hrun]
  exact h

/-- append(v, news..), wherever the news lie. -/
theorem append_at (st e : TypeId) {z : Value} {sz by_ : Nat} (hu : Tryz.prog.underlying st = some (.slice e)) (hinfo : (Tryz.prog.info? e).map (fun i => (i.zero, i.size, i.bytes)) = some (some z, sz, by_)) (hz : z.cells.size = sz) (hsz : 0 < sz)
    {w : World} {base n : Nat} {v : Value} {cs : List Value} (h : w.ownsRow base e sz v n cs) (A : Addr) (k c : Nat) (news : List Value) (hk : news.length = k * sz) (hnews : ∀ j u, news[j]? = some u → w.cell? (A.add j) = some u) (hone : ∀ u ∈ news, u.oneCell' = true) (hn : n ≤ 1000000000) (hk1 : k ≤ 1000000000) (hsz1 : by_ ≤ 1000) (hb : base ≤ w.heap.size) (ty : TypeId) :
    ∃ (v' : Value) (w' : World), (Builtin.append_ #[st, st] ty #[v, .slice (some A) k c]).run Tryz.prog w = .ok v' w' ∧
      w'.ownsRow base e sz v' (n + k) (cs ++ news) ∧ Below base w w' ∧ w.grownBy w' v.ownBlock := by
  obtain ⟨i0, hi, hz0, hz1, hz2⟩ := info_parts hinfo
  have hm : (n + k) * by_ ≤ 2000000000 * 1000 := Nat.mul_le_mul (by omega) hsz1
  obtain ⟨v', w', h1, h2, h3, _⟩ := run_append_own (P := Tryz.prog) w base st ty e i0 z sz by_ hu hi hz0 hz1 hz2 hz (by omega)
    v n cs h A k c news hk hnews hone (by unfold maxLen; omega) (by omega) hb
  exact ⟨v', w', h1, h2, (Below.refl base w).grown h3 hb (fun k hk => (World.ownsRow.lt h k hk).1), h3⟩

theorem binfo : (Tryz.prog.info? 5).map (fun i => (i.zero, i.size, i.bytes)) = some (some (.int .u8 0), 1, 1) := by kernel_rfl
theorem sinfo : (Tryz.prog.info? 9).map (fun i => (i.zero, i.size, i.bytes)) = some (some (.string ⟨#[]⟩), 1, 16) := by kernel_rfl

/-- The cells of bytes. -/
def bcs (l : List UInt8) : List Value := l.map fun b => .int .u8 b.toNat
theorem bcs_one (l : List UInt8) : ∀ u ∈ bcs l, u.oneCell' = true := by
  intro u hu
  obtain ⟨b, _, rfl⟩ := List.mem_map.1 hu
  rfl
/-- Bytes that lie at an address. -/
def BytesAt (w : World) (A : Addr) (l : List UInt8) : Prop := ∀ j u, (bcs l)[j]? = some u → w.cell? (A.add j) = some u
theorem step_bytes {ops : Array Oper} {o : Oper} {a : Act} {w : World} {K : Act → World → Prop} {Q : Exit → Act → World → Prop} {E : Prop} (hgd : o.guard = none) (s x : Operand)
    (ho : o.op = .call { callee := .builtin .append, args := #[s, x], argTypes := #[22, 22] }) (base : Nat) (v : Value) (l : List UInt8) (hs : a.eval s = v) (hown : w.ownsRow base 5 1 v l.length (bcs l))
    (A : Addr) (m : List UInt8) (k c : Nat) (hx : a.eval x = .slice (some A) k c) (hk : m.length = k) (hr : BytesAt w A m) (hn : l.length ≤ 1000000000) (hm : m.length ≤ 1000000000) (hb : base ≤ w.heap.size)
    (h : ∀ v' w', w'.ownsRow base 5 1 v' (l ++ m).length (bcs (l ++ m)) → Below base w w' → K (a.put o.dst v') w') :
    if Region.wanted o (yielded ops a.tmps) = true then Oper.wp Tryz.prog o a w K Q else E := by
  subst hk
  obtain ⟨v', w', h1, h2, h3, _⟩ := append_at 22 5 Tryz.underlying22 binfo rfl (by decide) hown A m.length c (bcs m) (by simp [bcs]) hr (bcs_one m) hn hm (by decide) hb o.type
  have e1 : bcs (l ++ m) = bcs l ++ bcs m := by simp [bcs]
  refine step_append_run hgd s x _ ho v _ v' w' hs hx h1 (h v' w' ?_ h3)
  rw [e1, List.length_append]; exact h2
theorem bytes_two (w : World) {H : Nat} (hH : w.heap.size = H) {p q : Int} {c d : UInt8} (hp : p = c.toNat) (hq : q = d.toNat) : BytesAt (w.alloc (.cells #[.int .u8 p, .int .u8 q] 5)) ⟨H, 0, none⟩ [c, d] := by
  subst hH hp hq
  exact World.news_of_block (cs := #[.int .u8 c.toNat, .int .u8 d.toNat]) (t := 5) (fr := (0, 0)) (heap_alloc_new w _)
theorem bytes_one (w : World) {H : Nat} (hH : w.heap.size = H) {p : Int} {c : UInt8} (hp : p = c.toNat) : BytesAt (w.alloc (.cells #[.int .u8 p] 5)) ⟨H, 0, none⟩ [c] := by
  subst hH hp
  exact World.news_of_block (cs := #[.int .u8 c.toNat]) (t := 5) (fr := (0, 0)) (heap_alloc_new w _)
/-- The bytes back as a string. -/
theorem own_back {w : World} {base : Nat} {v : Value} {l : List UInt8} (h : w.ownsRow base 5 1 v l.length (bcs l)) (h0 : 0 < l.length) :
    ∃ (g cap : Nat), v = .slice (some ⟨g, 0, none⟩) l.length cap ∧ (convert 22 9 (.slice (some ⟨g, 0, none⟩) l.length cap)).run Tryz.prog w = .ok (.string ⟨l.toArray⟩) w := by
  have h' := h
  obtain ⟨_, h2⟩ := h
  rcases h2 with ⟨_, h2⟩ | ⟨g, cap, cur, e, h5, _, h3, h4, _⟩
  · omega
  · refine ⟨g, cap, e, run_convert_bytes_back (P := Tryz.prog) w 22 9 5 ⟨g, 0, none⟩ cap l Tryz.underlying22 Tryz.underlying5 Tryz.underlying9 (fun j hj => ?_)⟩
    have := World.ownsRow.cells h' (g := g) (by rw [e]; rfl) j (.int .u8 l[j].toNat) (by simp [bcs, hj])
    exact this
theorem append_bytes {w : World} {base : Nat} {v : Value} {l : List UInt8} (h : w.ownsRow base 5 1 v l.length (bcs l)) (m : List UInt8) (hn : l.length ≤ 1000000000) (hm : m.length ≤ 1000000000) (hb : base ≤ w.heap.size) (ty : TypeId) :
    ∃ (v' : Value) (w' : World), (Builtin.append_ #[22, 22] ty #[v, .slice (some ⟨w.heap.size, 0, none⟩) m.length m.length]).run Tryz.prog (w.alloc (.cells (bcs m).toArray 5)) = .ok v' w' ∧
      w'.ownsRow base 5 1 v' (l ++ m).length (bcs (l ++ m)) ∧ Below base w w' := by
  have h1 := append_new 22 5 Tryz.underlying22 binfo rfl (by decide) h (bcs m) m.length (by simp [bcs]) (bcs_one m) hn hm (by decide) hb ty
  have e1 : bcs (l ++ m) = bcs l ++ bcs m := by simp [bcs]
  rw [e1, List.length_append]
  exact h1
end Go.Proofs.YtpknalpdcfjffaaGreat
/- store.put and the reference's put: a number's bytes, the highest first. -/
namespace Go.Proofs.YtpknalpdcfjffaaGreat
open Go Go.RowKit

/-- The k bytes of x, the highest first. -/
def be : Nat → Nat → List UInt8
  | 0, _ => []
  | k + 1, x => be k (x / 256) ++ [UInt8.ofNat x]
theorem be_length (k x : Nat) : (be k x).length = k := by
  induction k generalizing x with
  | zero => rfl
  | succ k ih => simp [be, ih]
/-- From the front: byte j is that of x / 256^(k - 1 - j). -/
theorem be_front (k x : Nat) : be (k + 1) x = UInt8.ofNat (x / 256 ^ k) :: be k x := by
  induction k generalizing x with
  | zero => simp [be]
  | succ k ih =>
    rw [show be (k + 1 + 1) x = be (k + 1) (x / 256) ++ [UInt8.ofNat x] from rfl, ih (x / 256)]
    rw [show be (k + 1) x = be k (x / 256) ++ [UInt8.ofNat x] from rfl]
    simp [Nat.div_div_eq_div_mul, Nat.pow_succ, Nat.mul_comm]
def OwnB (w : World) (base : Nat) (v : Value) (l : List UInt8) : Prop := w.ownsRow base 5 1 v l.length (bcs l)
theorem byte_at (x j : Nat) : ((x : Int) / 2 ^ (8 * j) % 256) = ((UInt8.ofNat (x / 256 ^ j)).toNat : Int) := by
  have h1 : (2 : Int) ^ (8 * j) = ((256 ^ j : Nat) : Int) := by
    rw [Int.pow_mul, Int.natCast_pow]
    have : (2 : Int) ^ 8 = ((256 : Nat) : Int) := by decide
    rw [this]
  rw [h1]
  generalize 256 ^ j = p
  rw [UInt8.toNat_ofNat']
  show (x : Int) / (p : Int) % 256 = ((x / p % 2 ^ 8 : Nat) : Int)
  rw [← Int.natCast_ediv]
  omega
/-- Blocks that hold no bytes stand. -/
def NB (w w' : World) : Prop := ∀ (k : Nat) (c : Array Value) (t : TypeId) (f : Nat × Nat), w.heap[k]? = some (Obj.cells c t f) → t ≠ 5 → w'.heap[k]? = w.heap[k]?
theorem NB.refl (w : World) : NB w w := fun _ _ _ _ _ _ => rfl
theorem NB.trans {a b c : World} (h : NB a b) (g : NB b c) : NB a c := fun k cs t f hk ht => by
  have h1 := h k cs t f hk ht
  rw [← h1]
  exact g k cs t f (by rw [h1]; exact hk) ht
theorem NB.of {w w' : World} (h : Below w.heap.size w w') : NB w w' := fun k _ _ _ hk _ => h.block k (Array.getElem?_eq_some_iff.1 hk).1
theorem OwnB.typed {w : World} {base : Nat} {v : Value} {l : List UInt8} (h : OwnB w base v l) : ∀ g, v.ownBlock = some g → ∃ c f, w.heap[g]? = some (.cells c 5 f) := by
  obtain ⟨_, h2⟩ := h
  intro g hg
  rcases h2 with ⟨e, _⟩ | ⟨g', cap, cur, e, _, hh, _⟩
  · rw [e] at hg; cases hg
  · rw [e] at hg
    have : g' = g := by simpa [Value.ownBlock] using hg
    subst this
    exact ⟨_, _, hh⟩
theorem NB.grown {w w' : World} {base : Nat} {v : Value} {l : List UInt8} (h : OwnB w base v l) (hg : w.grownBy w' v.ownBlock) : NB w w' := fun k c t f hk ht => by
  refine hg.block k (Array.getElem?_eq_some_iff.1 hk).1 ?_
  intro e
  obtain ⟨c', f', h1⟩ := h.typed k e.symm
  rw [hk] at h1
  injection h1 with h1
  injection h1 with _ h2 _
  exact ht h2
theorem append_b {w : World} {base : Nat} {v : Value} {l : List UInt8} (h : OwnB w base v l) (c : UInt8) (hn : l.length ≤ 1000000000) (hb : base ≤ w.heap.size) (ty : TypeId) :
    ∃ (v' : Value) (w' : World), (Builtin.append_ #[22, 22] ty #[v, .slice (some ⟨w.heap.size, 0, none⟩) 1 1]).run Tryz.prog (w.alloc (.cells #[.int .u8 c.toNat] 5)) = .ok v' w' ∧
      OwnB w' base v' (l ++ [c]) ∧ Below base w w' ∧ NB w w' := by
  have hB : Below w.heap.size w (w.alloc (.cells #[.int .u8 c.toNat] 5)) := (Below.refl _ _).alloc (Nat.le_refl _) _
  have hA : OwnB (w.alloc (.cells #[.int .u8 c.toNat] 5)) base v l := ownsRow_below h hB
  have hh : (w.alloc (.cells #[.int .u8 c.toNat] 5)).heap[w.heap.size]? = some (.cells #[.int .u8 c.toNat] 5 (0, 0)) := heap_alloc_new w _
  have hnews : ∀ j u, [Value.int .u8 c.toNat][j]? = some u → (w.alloc (.cells #[.int .u8 c.toNat] 5)).cell? ((⟨w.heap.size, 0, none⟩ : Addr).add j) = some u := by
    intro j u hj
    match j, hj with
    | 0, hj => rw [Go.WideShapes.add_plain]; simp at hj; subst hj; simp only [World.cell?, hh]; rfl
    | j + 1, hj => simp at hj
  obtain ⟨v', w', h1, h2, h3, h4⟩ := append_at 22 5 Tryz.underlying22 binfo rfl (by decide) hA ⟨w.heap.size, 0, none⟩ 1 1 [.int .u8 c.toNat] rfl hnews (by intro u hu; simp at hu; subst hu; rfl) hn (by omega) (by decide) (by simp; omega) ty
  refine ⟨v', w', h1, ?_, (hB.mono hb).trans h3, (NB.of hB).trans (NB.grown hA h4)⟩
  unfold OwnB
  rw [List.length_append]
  have e : bcs (l ++ [c]) = bcs l ++ [.int .u8 c.toNat] := by simp [bcs]
  rw [e]; exact h2
set_option maxHeartbeats 16000000 in
set_option maxRecDepth 100000 in
theorem put_any (k x base : Nat) (hk : k ≤ 8) (hx : x < 18446744073709551616) (v : Value) (l : List UInt8) (w : World) (h : OwnB w base v l) (hl : l.length ≤ 100000000) (hb : base ≤ w.heap.size) :
    Calls Tryz.prog 29 #[v, .int .u64 x, .int .i64 k] w fun e w' => ∃ v', e = .returned v' ∧ OwnB w' base v' (l ++ be k x) ∧ Below base w w' ∧ NB w w' := by
  have HO := Lib.hid h
  clear h
  go_enter Tryz.func29, Tryz.ntmps29
  have k0 : (k : Int) ≤ 8 := by omega
  have hx' : (x : Int) < 18446744073709551616 := by omega
  go_wp2_with fail
  go_loopw [0, 7] (fun lv kv wr => ∃ (m : Nat) (ov : Value) (l' : List UInt8), ov = lv ∧ kv = .int .i64 (8 * ((m : Int) - 1)) ∧ m ≤ k ∧ Hid (l' ++ be m x = l ++ be k x ∧ OwnB wr base ov l' ∧ (Below base w wr ∧ NB w wr) ∧ l'.length ≤ 100000008)) (fun _ kv _ => (intOf kv + 8).toNat)
  case atStart => exact ⟨k, _, l, rfl, by go_num, by omega, rfl, HO.out, ⟨Below.refl _ _, NB.refl _⟩, by omega⟩
  case round =>
    obtain ⟨m, ov, l', rfl, rfl, hm, hs⟩ := hrel
    cases m with
    | zero =>
      obtain ⟨h1, h2, h3, h4⟩ := hs.out
      go_wp2_with fail
      go_ret
      exact ⟨_, rfl, by rw [← h1]; simpa [be] using h2, h3⟩
    | succ j =>
      have e1 : (8 : Int) * (((j + 1 : Nat) : Int) - 1) = 8 * (j : Int) := by omega
      rw [e1]
      have j0 : (j : Int) ≤ 7 := by omega
      clear e1 hx'
      have HAp : Hid (∃ (v' : Value) (w' : World), (Builtin.append_ #[22, 22] 22 #[ov, .slice (some ⟨wr.heap.size, 0, none⟩) 1 1]).run Tryz.prog (wr.alloc (.cells #[.int .u8 ((x : Int) / 2 ^ (8 * j) % 256)] 5)) = .ok v' w' ∧
          (l' ++ [UInt8.ofNat (x / 256 ^ j)]) ++ be j x = l ++ be k x ∧ OwnB w' base v' (l' ++ [UInt8.ofNat (x / 256 ^ j)]) ∧ (Below base w w' ∧ NB w w') ∧ (l' ++ [UInt8.ofNat (x / 256 ^ j)]).length ≤ 100000008) := by
        obtain ⟨h1, h2, h3, h4⟩ := hs.out
        have h5 : (l' ++ [UInt8.ofNat (x / 256 ^ j)]) ++ be j x = l ++ be k x := by rw [← h1, be_front]; simp
        obtain ⟨v', w', a1, a2, a3, a4⟩ := append_b h2 (UInt8.ofNat (x / 256 ^ j)) (by omega) (Nat.le_trans hb h3.1.size) 22
        refine ⟨v', w', by rw [byte_at]; exact a1, h5, a2, ⟨h3.1.trans a3, h3.2.trans a4⟩, ?_⟩
        have h6 := congrArg List.length h5
        simp only [List.length_append, be_length] at h6 ⊢
        omega
      clear hs
      go_wp2_with (at_builtin; obtain ⟨v', w', hrun, hs'⟩ := HAp.out; have Hrun := Lib.hid hrun; have Hs' := Lib.hid hs'; clear hrun hs'; refine wpList_append_run rfl _ _ _ rfl _ _ _ _ rfl rfl Hrun.out ?_)
      go_roundw
      case rel => exact ⟨j, v', l' ++ [UInt8.ofNat (x / 256 ^ j)], rfl, by go_num, by omega, Hs'⟩
      case measure => simp [intOf]; omega
end Go.Proofs.YtpknalpdcfjffaaGreat
/- The reference's put. -/
namespace Go.Proofs.YtpknalpdcfjffaaGreat
open Go Go.RowKit

set_option maxHeartbeats 16000000 in
set_option maxRecDepth 100000 in
theorem rput_any (k x base : Nat) (hk : k ≤ 8) (hx : x < 18446744073709551616) (v : Value) (l : List UInt8) (w : World) (h : OwnB w base v l) (hl : l.length ≤ 100000000) (hb : base ≤ w.heap.size) :
    Calls Tryz.prog 34 #[v, .int .u64 x, .int .i64 k] w fun e w' => ∃ v', e = .returned v' ∧ OwnB w' base v' (l ++ be k x) ∧ Below base w w' ∧ NB w w' := by
  have HO := Lib.hid h
  clear h
  go_enter Tryz.func34, Tryz.ntmps34
  have k0 : (k : Int) ≤ 8 := by omega
  have hx' : (x : Int) < 18446744073709551616 := by omega
  go_wp2_with fail
  go_loopw [0, 7] (fun lv kv wr => ∃ (m : Nat) (ov : Value) (l' : List UInt8), ov = lv ∧ kv = .int .i64 ((m : Int) - 1) ∧ m ≤ k ∧ Hid (l' ++ be m x = l ++ be k x ∧ OwnB wr base ov l' ∧ (Below base w wr ∧ NB w wr) ∧ l'.length ≤ 100000008)) (fun _ kv _ => (intOf kv + 1).toNat)
  case atStart => exact ⟨k, _, l, rfl, by go_num, by omega, rfl, HO.out, ⟨Below.refl _ _, NB.refl _⟩, by omega⟩
  case round =>
    obtain ⟨m, ov, l', rfl, rfl, hm, hs⟩ := hrel
    cases m with
    | zero =>
      obtain ⟨h1, h2, h3, h4⟩ := hs.out
      go_wp2_with fail
      go_ret
      exact ⟨_, rfl, by rw [← h1]; simpa [be] using h2, h3⟩
    | succ j =>
      have e1 : (((j + 1 : Nat) : Int) - 1) = (j : Int) := by omega
      rw [e1]
      have j0 : (j : Int) ≤ 7 := by omega
      clear e1 hx'
      have HAp : Hid (∃ (v' : Value) (w' : World), (Builtin.append_ #[22, 22] 22 #[ov, .slice (some ⟨wr.heap.size, 0, none⟩) 1 1]).run Tryz.prog (wr.alloc (.cells #[.int .u8 ((x : Int) / 2 ^ (8 * j) % 256)] 5)) = .ok v' w' ∧
          (l' ++ [UInt8.ofNat (x / 256 ^ j)]) ++ be j x = l ++ be k x ∧ OwnB w' base v' (l' ++ [UInt8.ofNat (x / 256 ^ j)]) ∧ (Below base w w' ∧ NB w w') ∧ (l' ++ [UInt8.ofNat (x / 256 ^ j)]).length ≤ 100000008) := by
        obtain ⟨h1, h2, h3, h4⟩ := hs.out
        have h5 : (l' ++ [UInt8.ofNat (x / 256 ^ j)]) ++ be j x = l ++ be k x := by rw [← h1, be_front]; simp
        obtain ⟨v', w', a1, a2, a3, a4⟩ := append_b h2 (UInt8.ofNat (x / 256 ^ j)) (by omega) (Nat.le_trans hb h3.1.size) 22
        refine ⟨v', w', by rw [byte_at]; exact a1, h5, a2, ⟨h3.1.trans a3, h3.2.trans a4⟩, ?_⟩
        have h6 := congrArg List.length h5
        simp only [List.length_append, be_length] at h6 ⊢
        omega
      clear hs
      go_wp2_with (at_builtin; obtain ⟨v', w', hrun, hs'⟩ := HAp.out; have Hrun := Lib.hid hrun; have Hs' := Lib.hid hs'; clear hrun hs'; refine wpList_append_run rfl _ _ _ rfl _ _ _ _ rfl rfl Hrun.out ?_)
      go_roundw
      case rel => exact ⟨j, v', l' ++ [UInt8.ofNat (x / 256 ^ j)], rfl, by go_num, by omega, Hs'⟩
      case measure => simp [intOf]
end Go.Proofs.YtpknalpdcfjffaaGreat
/- The reference's putInts. -/
namespace Go.Proofs.YtpknalpdcfjffaaGreat
open Go Go.RowKit

/-- A slice of ints that lies in a block that holds no bytes. -/
def ReadsI (w : World) (v : Value) (l : List Int) : Prop := ∃ (a : Option Addr) (c : Nat), v = .slice a l.length c ∧ l.length ≤ c ∧ c ≤ 9223372036854775807 ∧ (∀ x ∈ l, I64 x) ∧
  (0 < l.length → ∃ (ab ao : Nat) (cs : Array Value) (t : TypeId) (f : Nat × Nat), a = some ⟨ab, ao, none⟩ ∧ w.heap[ab]? = some (Obj.cells cs t f) ∧ t ≠ 5 ∧ ∀ i, (hi : i < l.length) → w.cell? ⟨ab, ao + i, none⟩ = some (.int .i64 l[i]))
theorem ReadsI.nb {w w' : World} {v : Value} {l : List Int} (h : ReadsI w v l) (hn : NB w w') : ReadsI w' v l := by
  obtain ⟨a, c, e, h1, h2, h3, h4⟩ := h
  refine ⟨a, c, e, h1, h2, h3, fun h0 => ?_⟩
  obtain ⟨ab, ao, cs, t, f, ea, hb, ht, hc⟩ := h4 h0
  have hs := hn ab cs t f hb ht
  refine ⟨ab, ao, cs, t, f, ea, by rw [hs]; exact hb, ht, fun i hi => ?_⟩
  rw [World.cell?_of_block (w := w) hs]
  exact hc i hi
/-- What the bytes of ints are. -/
def u64 (x : Int) : Nat := (x % 18446744073709551616).toNat
def ints (l : List Int) : List UInt8 := l.flatMap fun x => be 8 (u64 x)
theorem ints_length (l : List Int) : (ints l).length = 8 * l.length := by
  induction l with
  | nil => rfl
  | cons x l ih => simp [ints, be_length] at ih ⊢; omega
theorem wrap_u64 (x : Int) : IntKind.u64.wrap x = ((u64 x : Nat) : Int) := by
  have h : IntKind.u64.wrap x = x % 18446744073709551616 := by simp [IntKind.wrap, IntKind.bits, IntKind.signed]
  rw [h]; unfold u64; omega
theorem u64_lt (x : Int) : u64 x < 18446744073709551616 := by unfold u64; omega
theorem ints_take (l : List Int) (m : Nat) (h : m < l.length) : ints (l.take (m + 1)) = ints (l.take m) ++ be 8 (u64 l[m]) := by
  have : l.take (m + 1) = l.take m ++ [l[m]] := by rw [List.take_add_one]; simp [h]
  unfold ints
  rw [this, List.flatMap_append]
  simp
set_option maxHeartbeats 16000000 in
set_option maxRecDepth 100000 in
theorem rputInts_any (base : Nat) (v : Value) (l : List UInt8) (iv : Value) (il : List Int) (w : World) (h : OwnB w base v l) (hi : ReadsI w iv il) (hl : l.length ≤ 60000000) (hil : il.length ≤ 2000000) (hb : base ≤ w.heap.size) :
    Calls Tryz.prog 38 #[v, iv] w fun e w' => ∃ v', e = .returned v' ∧ OwnB w' base v' (l ++ ints il) ∧ Below base w w' ∧ NB w w' := by
  have HO := Lib.hid h
  have HI := Lib.hid hi
  obtain ⟨a, c, rfl, hc1, hc2, _⟩ := hi
  clear h
  go_enter Tryz.func38, Tryz.ntmps38
  go_wp2_with fail
  go_loopw [0, 5] (fun lv kv wr => ∃ (m : Nat) (ov : Value), ov = lv ∧ kv = .int .i64 m ∧ m ≤ il.length ∧ Hid (OwnB wr base ov (l ++ ints (il.take m)) ∧ Below base w wr ∧ NB w wr)) (fun _ kv _ => ((4000000 : Int) - intOf kv).toNat)
  case atStart => exact ⟨0, _, rfl, rfl, by omega, by simpa [ints] using HO.out, Below.refl _ _, NB.refl _⟩
  case round =>
    obtain ⟨m, ov, rfl, rfl, hm, hs⟩ := hrel
    by_cases hlt : m < il.length
    · have m0 : (m : Int) < (il.length : Int) := by omega
      obtain ⟨a', c', e, _, _, h3, h4⟩ := HI.out.nb hs.out.2.2
      obtain ⟨ab, ao, cs, t, f, rfl, hblk, ht, hcell⟩ := h4 (by omega)
      obtain ⟨rfl, rfl⟩ : a = some ⟨ab, ao, none⟩ ∧ c = c' := by simpa using e
      have hx := hcell m hlt
      have hI := h3 il[m] (List.getElem_mem hlt)
      have ht' := ints_take il m hlt
      clear h4 hcell hblk e ht
      generalize il[m] = x at hx hI ht'
      go_wp2_with fail
      rw [wrap_u64]
      obtain ⟨h1, h2, h2'⟩ := hs.out
      have hlen := ints_length (il.take m)
      rw [List.length_take] at hlen
      refine (rput_any 8 (u64 x) base (by omega) (u64_lt x) ov _ wr h1 (by rw [List.length_append]; omega) (Nat.le_trans hb h2.size)).mono ?_
      rintro e w2 ⟨v', rfl, h5, h6, h7⟩
      have HN : Hid (OwnB w2 base v' (l ++ ints (il.take (m + 1))) ∧ Below base w w2 ∧ NB w w2) := ⟨by rw [ht', ← List.append_assoc]; exact h5, h2.trans h6, h2'.trans h7⟩
      clear h1 h2 h2' h5 h6 h7 hlen ht' hs
      go_wp2_with fail
      go_roundw
      case rel => exact ⟨m + 1, v', rfl, by go_num, by omega, HN⟩
      case measure => simp [intOf]; omega
    · obtain rfl : m = il.length := by omega
      obtain ⟨h1, h2, h3⟩ := hs.out
      go_wp2_with fail
      go_ret
      exact ⟨_, rfl, by rw [List.take_length] at h1; exact h1, h2, h3⟩
end Go.Proofs.YtpknalpdcfjffaaGreat
/- A string appended to an own slice of bytes. -/
namespace Go.Proofs.YtpknalpdcfjffaaGreat
open Go Go.RowKit

theorem byteCells_bcs (s : ByteArray) : byteCells s = bcs s.data.toList := rfl
theorem run_append_room_str (w : World) (ty : TypeId) (g n cap : Nat) (cur : Array Value) (hg : w.heap[g]? = some (.cells cur 5 (0, 0))) (s : ByteArray) (hroom : n + s.size ≤ cap) (hfit : n + s.size ≤ cur.size) :
    (Builtin.append_ #[22, 9] ty #[.slice (some ⟨g, 0, none⟩) n cap, .string s]).run Tryz.prog w =
      .ok (.slice (some ⟨g, 0, none⟩) (n + s.size) cap) (w.setRow g (cur.toList.take n ++ byteCells s ++ cur.toList.drop (n + s.size)).toArray) := by
  obtain ⟨i0, hi, hz0, hz1, hz2⟩ := info_parts binfo
  have hs := Src.ofString (P := Tryz.prog) w Tryz.underlying9 s
  have hst := run_storeCells_at Tryz.prog g n 5 (byteCells s) 0 cur w hg (by rw [byteCells_length]; simpa using hfit) hs.one
  rw [byteCells_length] at hst
  simp only [Nat.add_zero] at hst
  simp [Builtin.append_, run_underlying Tryz.underlying22, run_underlying Tryz.underlying9, sizeOf, typeInfo, hi, hz1, hs.len, hroom, hs.cells, Addr.add_lit, hst]
theorem append_s {w : World} {base : Nat} {v : Value} {l : List UInt8} (h : OwnB w base v l) (s : ByteArray) (hn : l.length ≤ 1000000000) (hs : s.size ≤ 1000000000) (hb : base ≤ w.heap.size) (ty : TypeId) :
    ∃ (v' : Value) (w' : World), (Builtin.append_ #[22, 9] ty #[v, .string s]).run Tryz.prog w = .ok v' w' ∧ OwnB w' base v' (l ++ s.data.toList) ∧ Below base w w' ∧ NB w w' := by
  have h' := h
  obtain ⟨i0, hi, hz0, hz1, hz2⟩ := info_parts binfo
  have hsrc := Src.ofString (P := Tryz.prog) w Tryz.underlying9 s
  have hsl : s.data.toList.length = s.size := by rw [Array.length_toList]; rfl
  have hlen : (l ++ s.data.toList).length = l.length + s.size := by rw [List.length_append, hsl]
  have hbc : bcs (l ++ s.data.toList) = bcs l ++ byteCells s := by rw [byteCells_bcs]; simp [bcs]
  -- what is new
  have grow : ∀ (a : Option Addr) (c : Nat), v = .slice a l.length c → c < l.length + s.size → (Builtin.firstCells i0.size l.length (.slice a l.length c)).run Tryz.prog w.drew = .ok (bcs l).toArray w.drew → ∃ (v' : Value) (w' : World), (Builtin.append_ #[22, 9] ty #[v, .string s]).run Tryz.prog w = .ok v' w' ∧ OwnB w' base v' (l ++ s.data.toList) ∧ Below base w w' ∧ NB w w' := by
    rintro a c rfl hc hold
    have hrun := run_append_grow_src (P := Tryz.prog) w 22 9 ty 5 i0 (.int .u8 0) Tryz.underlying22 hi hz0 a l.length c (bcs l) hold (.string s) s.size (byteCells s) (by rw [hz1]; exact hsrc) hc (by omega) (growslice_fits hc (by rw [hz2]; omega))
    have hge := grownCap_ge w (l.length + s.size) c 5
    have hcm := grownCap_le_maxLen w (l.length + s.size) c 5 (by unfold maxLen; omega)
    have hB : Below w.heap.size w _ := (Below.refl _ _).drew.alloc (Nat.le_refl _) (.cells ((bcs l ++ byteCells s).toArray ++ Builtin.zeroCells (Value.int .u8 0).cells (grownCap w (l.length + s.size) c 5 - (l.length + s.size))) 5)
    have hbl : (bcs l ++ byteCells s).length = l.length + s.size := by rw [← hbc, bcs, List.length_map, hlen]
    refine ⟨_, _, hrun, ⟨?_, Or.inr ⟨w.heap.size, _, _, by rw [hlen], hb, heap_alloc_new w.drew _, by rw [hlen]; exact hge, hcm, ?_, ?_⟩⟩, hB.mono hb, NB.of hB⟩
    · rw [bcs, List.length_map, Nat.mul_one]
    · rw [Array.size_append, List.size_toArray, hbl, size_zeroCells]
      show _ + _ * 1 = _
      omega
    · rw [Array.toList_append, hbc, hlen, Nat.mul_one, List.take_left' hbl]
  obtain ⟨h1, h2⟩ := h
  rcases h2 with ⟨e, h0⟩ | ⟨g, cap, cur, e, hg, hh, hc, hm, hsz, htk⟩
  · obtain rfl := List.eq_nil_of_length_eq_zero h0
    subst e
    rcases Nat.eq_zero_or_pos s.size with hs0 | hs0
    · have hnil : s.data.toList = [] := List.eq_nil_of_length_eq_zero (by rw [hsl]; exact hs0)
      have hbn : byteCells s = [] := by rw [byteCells_bcs, hnil]; rfl
      have hsrc' : Src Tryz.prog i0.size 9 (.string s) 0 [] w := by rw [hz1, ← hbn, ← hs0]; exact hsrc
      exact ⟨_, _, run_append_nothing w _ _ ty _ i0 Tryz.underlying22 hi none 0 0 (Nat.le_refl _) (.string s) hsrc', by rw [hnil]; exact h', Below.refl _ _, NB.refl _⟩
    · exact grow none 0 rfl (by simpa using hs0) (by rw [hz1]; exact run_firstCells_none w.drew 1 0 0 0)
  · subst e
    rcases Nat.lt_or_ge cap (l.length + s.size) with hlt | hge
    · refine grow _ _ rfl hlt ?_
      rw [hz1]
      exact run_firstCells_some w.drew 1 l.length ⟨g, 0, none⟩ l.length cap (bcs l) (by rw [bcs, List.length_map, Nat.mul_one]) (fun j u hj => World.ownsRow.cells h' (g := g) rfl j u hj)
    · refine ⟨_, _, run_append_room_str w ty g l.length cap cur hh s hge (by omega), ⟨by rw [bcs, List.length_map, Nat.mul_one], Or.inr ⟨g, cap, _, by rw [hlen], hg, setRow_heap _ _ _ _ _ _ hh, by rw [hlen]; exact hge, hm, ?_, ?_⟩⟩, below_setRow (Below.refl _ _) hg _, fun k c t f hk ht => setRow_other _ _ _ _ (fun hkg => ?_)⟩
      · have := byteCells_length s
        rw [List.size_toArray]
        simp only [List.length_append, List.length_take, List.length_drop, Array.length_toList, this]
        omega
      · rw [hlen, hbc, Nat.mul_one]
        have ht : cur.toList.take l.length = bcs l := by rw [← htk, Nat.mul_one]
        show (cur.toList.take l.length ++ byteCells s ++ _).take _ = _
        rw [ht]
        exact List.take_left' (by rw [List.length_append, byteCells_length, bcs, List.length_map])
      · subst hkg
        rw [hh] at hk
        injection hk with hk
        injection hk with _ hk2 _
        exact ht hk2.symm
end Go.Proofs.YtpknalpdcfjffaaGreat
/- The reference's putString, putBool, putSlice. -/
namespace Go.Proofs.YtpknalpdcfjffaaGreat
open Go Go.RowKit

/-- A string's bytes, behind their number. -/
def strB (s : ByteArray) : List UInt8 := be 4 s.size ++ s.data.toList
theorem size_list (s : ByteArray) : s.data.toList.length = s.size := by rw [Array.length_toList]; rfl
theorem wrap_u64_nat (n : Nat) (h : n < 18446744073709551616) : IntKind.u64.wrap (n : Int) = (n : Int) := by
  rw [wrap_u64]; unfold u64; omega
theorem wpList_append_run2 {P : Program} {w : World} {ops : Array Oper} {rest : List Oper} {o : Oper} {a : Act} {Q : Exit → Act → World → Prop} (hgd : o.guard = none) (s x : Operand) (t tx : TypeId)
    (ho : o.op = .call { callee := .builtin .append, args := #[s, x], argTypes := #[t, tx] }) (v xv v' : Value) (w' : World) (hs : a.eval s = v) (hx : a.eval x = xv)
    (hrun : (Builtin.append_ #[t, tx] o.type #[v, xv]).run P w = .ok v' w') (h : wpList P ops Q rest (a.put o.dst v') w') : wpList P ops Q (o :: rest) a w := by
  refine wpList_plain hgd fun K hK => ?_
  unfold Oper.wp execOp
  simp only [ho, resolve, invoke, builtin, Sem.run_bind, Sem.run_pure, Result.andThen_ok, List.map_toArray, List.map_cons, List.map_nil, hs, hx, hrun]
  exact hK _ _ h
set_option maxHeartbeats 16000000 in
set_option maxRecDepth 100000 in
theorem rputString_any (base : Nat) (v : Value) (l : List UInt8) (s : ByteArray) (w : World) (h : OwnB w base v l) (hl : l.length ≤ 80000000) (hsz : s.size ≤ 10000000) (hb : base ≤ w.heap.size) :
    Calls Tryz.prog 40 #[v, .string s] w fun e w' => ∃ v', e = .returned v' ∧ OwnB w' base v' (l ++ strB s) ∧ Below base w w' ∧ NB w w' := by
  have HO := Lib.hid h
  clear h
  go_enter Tryz.func40, Tryz.ntmps40
  go_wp2_with fail
  refine (rput_any 4 s.size base (by omega) (by omega) v l w HO.out (by omega) hb).mono ?_
  rintro e w2 ⟨v2, rfl, h5, h6, h7⟩
  have HAp : Hid (∃ (v' : Value) (w' : World), (Builtin.append_ #[22, 9] 22 #[v2, .string s]).run Tryz.prog w2 = .ok v' w' ∧ OwnB w' base v' (l ++ strB s) ∧ Below base w w' ∧ NB w w') := by
    obtain ⟨v', w', a1, a2, a3, a4⟩ := append_s h5 s (by rw [List.length_append, be_length]; omega) (by omega) (Nat.le_trans hb h6.size) 22
    exact ⟨v', w', a1, by unfold strB; rw [← List.append_assoc]; exact a2, h6.trans a3, h7.trans a4⟩
  clear h5 h6 h7
  go_wp2_with (at_builtin; obtain ⟨v', w', hrun, hs'⟩ := HAp.out; have Hrun := Lib.hid hrun; have Hs' := Lib.hid hs'; clear hrun hs'; refine wpList_append_run2 rfl _ _ _ _ rfl _ _ _ _ rfl rfl Hrun.out ?_)
  go_ret
  exact ⟨v', rfl, Hs'.out⟩
/-- Numbers, behind how many. -/
def sliceB (l : List Int) : List UInt8 := be 4 l.length ++ ints l
theorem ReadsI.slice {w : World} {v : Value} {l : List Int} (h : ReadsI w v l) : ∃ a c, v = .slice a l.length c := by
  obtain ⟨a, c, e, _⟩ := h
  exact ⟨a, c, e⟩
set_option maxHeartbeats 16000000 in
set_option maxRecDepth 100000 in
theorem rputSlice_any (base : Nat) (v : Value) (l : List UInt8) (iv : Value) (il : List Int) (w : World) (h : OwnB w base v l) (hi : ReadsI w iv il) (hl : l.length ≤ 50000000) (hil : il.length ≤ 2000000) (hb : base ≤ w.heap.size) :
    Calls Tryz.prog 58 #[v, iv] w fun e w' => ∃ v', e = .returned v' ∧ OwnB w' base v' (l ++ sliceB il) ∧ Below base w w' ∧ NB w w' := by
  have HO := Lib.hid h
  have HI := Lib.hid hi
  obtain ⟨ia, ic, rfl⟩ := hi.slice
  clear h hi
  go_enter Tryz.func58, Tryz.ntmps58
  go_wp2_with fail
  refine (rput_any 4 il.length base (by omega) (by omega) v l w HO.out (by omega) hb).mono ?_
  rintro e w2 ⟨v2, rfl, h5, h6, h7⟩
  go_wp2_with fail
  refine (rputInts_any base v2 _ _ il w2 h5 (HI.out.nb h7) (by rw [List.length_append, be_length]; omega) hil (Nat.le_trans hb h6.size)).mono ?_
  rintro e w3 ⟨v3, rfl, k5, k6, k7⟩
  have HF : Hid (OwnB w3 base v3 (l ++ sliceB il) ∧ Below base w w3 ∧ NB w w3) := ⟨by unfold sliceB; rw [← List.append_assoc]; exact k5, h6.trans k6, h7.trans k7⟩
  clear h5 h6 h7 k5 k6 k7
  go_wp2_with fail
  go_ret
  exact ⟨v3, rfl, HF.out⟩
end Go.Proofs.YtpknalpdcfjffaaGreat
/- The reference's putBool. -/
namespace Go.Proofs.YtpknalpdcfjffaaGreat
open Go Go.RowKit

def boolB (q : Bool) : List UInt8 := if q then [1] else [0]
set_option maxHeartbeats 16000000 in
set_option maxRecDepth 100000 in
theorem rputBool_any (base : Nat) (v : Value) (l : List UInt8) (q : Bool) (w : World) (h : OwnB w base v l) (hl : l.length ≤ 100000000) (hb : base ≤ w.heap.size) :
    Calls Tryz.prog 41 #[v, .bool q] w fun e w' => ∃ v', e = .returned v' ∧ OwnB w' base v' (l ++ boolB q) ∧ Below base w w' ∧ NB w w' := by
  have H1 : Hid (∃ (v' : Value) (w' : World), (Builtin.append_ #[22, 22] 22 #[v, .slice (some ⟨w.heap.size, 0, none⟩) 1 1]).run Tryz.prog (w.alloc (.cells #[.int .u8 1] 5)) = .ok v' w' ∧ OwnB w' base v' (l ++ boolB true) ∧ Below base w w' ∧ NB w w') := append_b h 1 (by omega) hb 22
  have H0 : Hid (∃ (v' : Value) (w' : World), (Builtin.append_ #[22, 22] 22 #[v, .slice (some ⟨w.heap.size, 0, none⟩) 1 1]).run Tryz.prog (w.alloc (.cells #[.int .u8 0] 5)) = .ok v' w' ∧ OwnB w' base v' (l ++ boolB false) ∧ Below base w w' ∧ NB w w') := append_b h 0 (by omega) hb 22
  clear h
  go_enter Tryz.func41, Tryz.ntmps41
  cases q
  · go_wp2_with (at_builtin; obtain ⟨v', w', hrun, hs'⟩ := H0.out; have Hrun := Lib.hid hrun; have Hs' := Lib.hid hs'; clear hrun hs'; refine wpList_append_run rfl _ _ _ rfl _ _ _ _ rfl rfl Hrun.out ?_)
    go_ret
    exact ⟨v', rfl, Hs'.out⟩
  · go_wp2_with (at_builtin; obtain ⟨v', w', hrun, hs'⟩ := H1.out; have Hrun := Lib.hid hrun; have Hs' := Lib.hid hs'; clear hrun hs'; refine wpList_append_run rfl _ _ _ rfl _ _ _ _ rfl rfl Hrun.out ?_)
    go_ret
    exact ⟨v', rfl, Hs'.out⟩
end Go.Proofs.YtpknalpdcfjffaaGreat
/- Regions that draw, taken by hand: what is pure or only loads first, the slot that it writes given; the condition on the world made stronger on the way. -/
namespace Go.Proofs.YtpknalpdcfjffaaGreat
open Go Go.RowKit

theorem wpAnyH_takeD {P : Program} {md : Region.Mode} {ops : Array Oper} {Q : Exit → Act → World → Prop} {S : World → Prop} {i : Nat} {oi : Oper} {d : Option Tmp} {v : Value} {fuel : Nat} {listed : Array Bool} {a : Act} {w : World} (hi : ops[i]? = some oi) (hd : oi.dst = d)
    (hs : Region.noSelect ops = true) (hf : Region.free md ops listed i = true) (hr : (Region.ready md ops listed).contains i = true)
    (hQ : ∀ c a w, Q (.panic c) (a.put d v) w → Q (.panic c) a w) (hy : YieldsIf P ops S oi v a) (hS : S w)
    (h : wpAnyH P md ops Q S fuel (listed.setIfInBounds i true) (a.put d v) w) : wpAnyH P md ops Q S (fuel + 1) listed a w := by
  subst hd
  exact wpAnyH_take hi hs hf hr hQ hy hS h
/-- The condition on the world may be made stronger. -/
theorem wpAnyH_more {P : Program} {md : Region.Mode} {ops : Array Oper} {Q : Exit → Act → World → Prop} {S S' : World → Prop} (hSS : ∀ w, S' w → S w) : ∀ {fuel : Nat} {listed : Array Bool} {a : Act} {w : World},
    wpAnyH P md ops Q S' fuel listed a w → wpAnyH P md ops Q S fuel listed a w
  | 0, _, _, _, h => h
  | fuel + 1, _, _, _, h => ⟨h.1, fun i hi => wpOp_mono (fun _ _ h' => ⟨hSS _ h'.1, wpAnyH_more hSS h'.2⟩) (h.2 i hi)⟩
theorem yields_load {P : Program} {ops : Array Oper} {S : World → Prop} {op : Oper} {a : Act} {v : Value} (hw : Region.wanted op (yielded ops a.tmps) = true) (ty : TypeId) (x : Operand) (ho : op.op = .load ty x)
    (ad : Addr) (hx : a.eval x = .pointer (some ad)) (hS : ∀ w, S w → (loadVar ty ad).run P w = .ok v w) : YieldsIf P ops S op v a := .inl ⟨hw, fun w hw' => by
  unfold execOp
  simp only [ho, hx, Instr.loadAt, Instr.sureAddr, Sem.run_bind, Sem.run_pure, Result.andThen_ok, hS w hw']⟩
end Go.Proofs.YtpknalpdcfjffaaGreat
/- A region that draws, by an invariant: each operation once, whatever the order. No program. -/
namespace Go.Proofs.YtpknalpdcfjffaaGreat
open Go Go.RowKit

theorem count_set_lt : ∀ (l : List Bool) (i : Nat), l[i]? = some false → (l.set i true).count false < l.count false
  | [], i, h => by simp at h
  | a :: l, 0, h => by simp at h; subst h; simp
  | a :: l, i + 1, h => by
    have ih := count_set_lt l i (by simpa using h)
    simp only [List.set_cons_succ, List.count_cons]
    omega
section
variable {P : Program} {md : Region.Mode} {ops : Array Oper} {Q : Exit → Act → World → Prop}
theorem wpAny_inv (I : Array Bool → Act → World → Prop)
    (hs : ∀ listed a w i, listed.size = ops.size → I listed a w → i ∈ Region.ready md ops listed → wpOp P ops Q i (fun a' w' => I (listed.setIfInBounds i true) a' w') a w)
    (he : ∀ listed a w, listed.size = ops.size → I listed a w → Region.ready md ops listed = [] → Q .normal a w) :
    ∀ (fuel : Nat) (listed : Array Bool) (a : Act) (w : World), listed.size = ops.size → listed.toList.count false ≤ fuel → I listed a w → wpAny P md ops Q fuel listed a w
  | 0, listed, a, w, hsz, hc, hI => by
    have hr : Region.ready md ops listed = [] := by
      cases hq : Region.ready md ops listed with
      | nil => rfl
      | cons i r =>
        exfalso
        have hi : i ∈ Region.ready md ops listed := by rw [hq]; simp
        have h0 := (mem_ready.1 hi).1
        have hlt : i < listed.size := by
          rcases Nat.lt_or_ge i listed.size with h | h
          · exact h
          · simp [Array.getElem?_eq_none h] at h0
        have hm : false ∈ listed.toList := by
          have : listed[i] = false := by simpa [hlt] using h0
          rw [← this]; simp
        have := List.count_pos_iff.2 hm
        omega
    exact ⟨hr, he listed a w hsz hI hr⟩
  | fuel + 1, listed, a, w, hsz, hc, hI => by
    refine ⟨fun hr => he listed a w hsz hI hr, fun i hi => ?_⟩
    refine wpOp_mono (fun a' w' h' => ?_) (hs listed a w i hsz hI hi)
    have h0 := (mem_ready.1 hi).1
    have hlt : i < listed.size := by
      rcases Nat.lt_or_ge i listed.size with h | h
      · exact h
      · simp [Array.getElem?_eq_none h] at h0
    have hf : listed.toList[i]? = some false := by
      have : listed[i] = false := by simpa [hlt] using h0
      simp [hlt, this]
    refine wpAny_inv I hs he fuel _ a' w' (by simp [hsz]) ?_ h'
    have h1 := count_set_lt listed.toList i hf
    rw [Array.toList_setIfInBounds]
    omega
/-- Edges go back. -/
def backB (ops : Array Oper) : Bool := (List.range ops.size).all fun k => match ops[k]? with
  | some o => o.after.all fun e => decide (e.on < k)
  | none => true
theorem all_listed (hb : backB ops = true) {listed : Array Bool} (hr : Region.ready md ops listed = []) (hsz : listed.size = ops.size) : ∀ k, k < ops.size → listed.getD k false = true := by
  intro k
  induction k using Nat.strongRecOn with
  | ind k ih =>
    intro hk
    have hko : ops[k]? = some ops[k] := Array.getElem?_eq_getElem hk
    cases hq : listed.getD k false with
    | true => rfl
    | false =>
      exfalso
      have hm : k ∈ Region.ready md ops listed := by
        refine mem_ready.2 ⟨?_, ops[k], hko, fun e he _ => ?_⟩
        · have hlt : k < listed.size := by omega
          simp [hlt] at hq ⊢; exact hq
        · have h1 := List.all_eq_true.1 hb k (List.mem_range.2 hk)
          rw [hko] at h1
          have h2 := Array.all_eq_true'.1 h1 e he
          have h3 : e.on < k := by simpa using h2
          exact ih e.on h3 (by omega)
      rw [hr] at hm
      cases hm
/-- What the slot of an operation holds. -/
def slotOf (o : Oper) (a : Act) : Value := match o.dst with
  | some t => a.tmps.getD t undef
  | none => undef
/-- Each operation writes a slot of its own, and the slots are there. -/
def distB (ops : Array Oper) (N : Nat) : Bool := (List.range ops.size).all fun i => match ops[i]? with
  | some o => (match o.dst with
    | some t => decide (t < N) && (List.range ops.size).all fun j => j == i || (match ops[j]? with | some p => p.dst != some t | none => true)
    | none => true)
  | none => true
theorem dist_spec {N : Nat} (h : distB ops N = true) {i : Nat} {o : Oper} {t : Tmp} (ho : ops[i]? = some o) (hd : o.dst = some t) : t < N ∧ ∀ j p, ops[j]? = some p → j ≠ i → p.dst ≠ some t := by
  have hi : i < ops.size := (Array.getElem?_eq_some_iff.1 ho).1
  have h1 := List.all_eq_true.1 h i (List.mem_range.2 hi)
  simp only [ho, hd] at h1
  rw [Bool.and_eq_true] at h1
  refine ⟨by simpa using h1.1, fun j p hp hne => ?_⟩
  have hj : j < ops.size := (Array.getElem?_eq_some_iff.1 hp).1
  have h2 := List.all_eq_true.1 h1.2 j (List.mem_range.2 hj)
  rw [hp] at h2
  rcases Bool.or_eq_true .. ▸ h2 with h3 | h3
  · exact absurd (by simpa using h3) hne
  · simpa using h3
/-- Elsewhere the frame is as it was. -/
def SameAct (ops : Array Oper) (a0 a : Act) : Prop := a.defers = a0.defers ∧ a.tmps.size = a0.tmps.size ∧ ∀ (t : Tmp), (∀ (k : Nat) (o : Oper), ops[k]? = some o → o.dst ≠ some t) → a.tmps.getD t undef = a0.tmps.getD t undef
theorem put_other {a : Act} {d : Option Tmp} {v : Value} {t : Tmp} (h : d ≠ some t) : (a.put d v).tmps.getD t undef = a.tmps.getD t undef := by
  cases d with
  | none => rfl
  | some s =>
    have hne : s ≠ t := fun e => h (by rw [e])
    show (a.tmps.setIfInBounds s v).getD t undef = _
    simp [Array.getElem?_setIfInBounds_ne hne]
theorem put_same {a : Act} {t : Tmp} {v : Value} (h : t < a.tmps.size) : (a.put (some t) v).tmps.getD t undef = v := by
  show (a.tmps.setIfInBounds t v).getD t undef = _
  simp [Array.getElem?_setIfInBounds, h]
theorem SameAct.put {a0 a : Act} (h : SameAct ops a0 a) {i : Nat} {o : Oper} (ho : ops[i]? = some o) (v : Value) : SameAct ops a0 (a.put o.dst v) := by
  refine ⟨?_, ?_, fun t ht => ?_⟩
  · rw [← h.1]; cases o.dst <;> rfl
  · rw [← h.2.1]; cases o.dst <;> simp [Act.put]
  · rw [put_other (ht i o ho)]; exact h.2.2 t ht
/-- **The law**: each operation once, at whatever frame and world, from what is known of those that it comes after. -/
theorem wp_region_inv {id : Nat} {a0 : Act} {w0 : World} (hm : P.follows .mixedOrders = true) (N : Nat) (hN : a0.tmps.size = N) (hd : distB ops N = true) (hb : backB ops = true)
    (S : World → Prop) (R : World → World → Prop) (F : Nat → Value → World → Prop) (hR : ∀ k v w w', F k v w → R w w' → F k v w') (hS0 : S w0.drew)
    (hop : ∀ (i : Nat) (o : Oper), ops[i]? = some o → ∀ (a : Act) (w : World), S w → SameAct ops a0 a → (∀ e ∈ o.after, Region.binds .any e = true → ∀ (p : Oper), ops[e.on]? = some p → F e.on (slotOf p a) w) →
      ∀ K : Act → World → Prop, (∀ v w', F i (match o.dst with | some _ => v | none => undef) w' → R w w' → S w' → K (a.put o.dst v) w') → if Region.wanted o (yielded ops a.tmps) = true then Oper.wp P o a w K Q else K (a.put o.dst undef) w)
    (hend : ∀ (a : Act) (w : World), S w → SameAct ops a0 a → (∀ (k : Nat) (o : Oper), ops[k]? = some o → F k (slotOf o a) w) → Q .normal a w) : (Code.region id ops true).wp P Q a0 w0 := by
  refine wp_region_any hm ?_
  refine wpAny_inv (fun listed a w => S w ∧ SameAct ops a0 a ∧ ∀ k o, ops[k]? = some o → listed.getD k false = true → F k (slotOf o a) w) ?_ ?_ _ _ _ _ (by simp) ?_ ?_
  · rintro listed a w i hsz ⟨hS, hA, hF⟩ hi
    obtain ⟨h0, o, ho, hall⟩ := mem_ready.1 hi
    refine wpOp_step ho fun K' hK => hop i o ho a w hS hA (fun e he hbd p hp => hF e.on p hp (hall e he hbd)) K' (fun v w' hv hr hs => hK _ _ ⟨hs, hA.put ho v, fun k p hp hl => ?_⟩)
    by_cases hki : k = i
    · subst hki
      rw [ho] at hp
      injection hp with hp
      subst hp
      unfold slotOf
      cases hq : o.dst with
      | none => rw [hq] at hv; exact hv
      | some t =>
        rw [hq] at hv
        have hlt := (dist_spec hd ho hq).1
        simp only
        have hlt2 : t < a.tmps.size := by rw [hA.2.1, hN]; exact hlt
        rw [put_same hlt2]
        exact hv
    · have hl' : listed.getD k false = true := by rw [getD_set_ne false (Ne.symm hki)] at hl; exact hl
      have h1 := hR k _ w w' (hF k p hp hl') hr
      have e : slotOf p (a.put o.dst v) = slotOf p a := by
        unfold slotOf
        cases hq : p.dst with
        | none => rfl
        | some t => simp only; exact put_other ((dist_spec hd hp hq).2 i o ho (Ne.symm hki))
      rw [e]; exact h1
  · rintro listed a w hsz ⟨hS, hA, hF⟩ hr
    refine hend a w hS hA fun k o ho => hF k o ho (all_listed hb hr hsz k (Array.getElem?_eq_some_iff.1 ho).1)
  · rw [Array.toList_replicate]; exact Nat.le_trans (List.count_le_length) (by simp)
  · refine ⟨hS0, ⟨rfl, rfl, fun _ _ => rfl⟩, fun k o ho hl => ?_⟩
    exfalso
    have hk := (Array.getElem?_eq_some_iff.1 ho).1
    simp [hk] at hl
end
end Go.Proofs.YtpknalpdcfjffaaGreat
/- A region that draws, by an invariant that may name the operations done so far; each operation once, whatever the order. No program. -/
namespace Go.Proofs.YtpknalpdcfjffaaGreat
open Go Go.RowKit

section
variable {P : Program} {ops : Array Oper} {Q : Exit → Act → World → Prop}
/-- What is done has behind it what it comes after. -/
def ClosedD (ops : Array Oper) (d : Nat → Bool) : Prop := ∀ k p, ops[k]? = some p → d k = true → ∀ e ∈ p.after, Region.binds .any e = true → d e.on = true
/-- What one operation owes. -/
def HopAt (P : Program) (ops : Array Oper) (Q : Exit → Act → World → Prop) (a0 : Act) (S : (Nat → Bool) → World → Prop) (F : Nat → Value → World → Prop) (i : Nat) (o : Oper) : Prop :=
  ∀ (d : Nat → Bool) (a : Act) (w : World), d i = false → ClosedD ops d → S d w → SameAct ops a0 a →
    (∀ e ∈ o.after, Region.binds .any e = true → d e.on = true ∧ ∀ (p : Oper), ops[e.on]? = some p → F e.on (slotOf p a) w) →
    ∀ K : Act → World → Prop, (∀ v w', F i (match o.dst with | some _ => v | none => undef) w' → (∀ k u, d k = true → F k u w → F k u w') → S (fun k => k == i || d k) w' → K (a.put o.dst v) w') → if Region.wanted o (yielded ops a.tmps) = true then Oper.wp P o a w K Q else K (a.put o.dst undef) w
def AllHops (H : Nat → Oper → Prop) : Nat → List Oper → Prop
  | _, [] => True
  | k, o :: r => H k o ∧ AllHops H (k + 1) r
theorem allHops_at {H : Nat → Oper → Prop} : ∀ (l : List Oper) (k i : Nat) (o : Oper), AllHops H k l → l[i]? = some o → H (k + i) o
  | [], _, _, _, _, h => by simp at h
  | p :: l, k, 0, o, ha, h => by simp at h; subst h; exact ha.1
  | p :: l, k, i + 1, o, ha, h => by
    have := allHops_at l (k + 1) i o ha.2 (by simpa using h)
    rw [show k + (i + 1) = k + 1 + i by omega]; exact this
/-- Edges that bind go back. -/
def backC (ops : Array Oper) : Bool := (List.range ops.size).all fun k => match ops[k]? with
  | some o => o.after.all fun e => !Region.binds .any e || decide (e.on < k)
  | none => true
theorem all_listedC (hb : backC ops = true) {listed : Array Bool} (hr : Region.ready .any ops listed = []) (hsz : listed.size = ops.size) : ∀ k, k < ops.size → listed.getD k false = true := by
  intro k
  induction k using Nat.strongRecOn with
  | ind k ih =>
    intro hk
    have hko : ops[k]? = some ops[k] := Array.getElem?_eq_getElem hk
    cases hq : listed.getD k false with
    | true => rfl
    | false =>
      exfalso
      have hm : k ∈ Region.ready .any ops listed := by
        refine mem_ready.2 ⟨?_, ops[k], hko, fun e he hbd => ?_⟩
        · have hlt : k < listed.size := by omega
          simp [hlt] at hq ⊢; exact hq
        · have h1 := List.all_eq_true.1 hb k (List.mem_range.2 hk)
          rw [hko] at h1
          have h2 := Array.all_eq_true'.1 h1 e he
          rw [hbd] at h2
          have h3 : e.on < k := by simpa using h2
          exact ih e.on h3 (by omega)
      rw [hr] at hm
      cases hm
theorem wp_region_phase {id : Nat} {a0 : Act} {w0 : World} (hm : P.follows .mixedOrders = true) (N : Nat) (hN : a0.tmps.size = N) (hd : distB ops N = true) (hb : backC ops = true)
    (S : (Nat → Bool) → World → Prop) (F : Nat → Value → World → Prop) (hS0 : S (fun _ => false) w0.drew)
    (hop : AllHops (HopAt P ops Q a0 S F) 0 ops.toList)
    (hend : ∀ (a : Act) (w : World) (d : Nat → Bool), (∀ k, k < ops.size → d k = true) → S d w → SameAct ops a0 a → (∀ (k : Nat) (o : Oper), ops[k]? = some o → F k (slotOf o a) w) → Q .normal a w) : (Code.region id ops true).wp P Q a0 w0 := by
  refine wp_region_any hm ?_
  refine wpAny_inv (fun listed a w => (∃ d, (∀ k, k < ops.size → d k = listed.getD k false) ∧ ClosedD ops d ∧ S d w) ∧ SameAct ops a0 a ∧ ∀ k o, ops[k]? = some o → listed.getD k false = true → F k (slotOf o a) w) ?_ ?_ _ _ _ _ (by simp) ?_ ?_
  · rintro listed a w i hsz ⟨⟨d, hdl, hcl, hS⟩, hA, hF⟩ hi
    obtain ⟨h0, o, ho, hall⟩ := mem_ready.1 hi
    have hio : i < ops.size := (Array.getElem?_eq_some_iff.1 ho).1
    have hil : i < listed.size := by omega
    have hdi : d i = false := by
      rw [hdl i hio]
      have : listed.getD i true = false := h0
      simp [hil] at this ⊢; exact this
    have hop' := allHops_at _ 0 i o hop (by rw [Array.getElem?_toList]; exact ho)
    rw [Nat.zero_add] at hop'
    refine wpOp_step ho fun K' hK => hop' d a w hdi hcl hS hA (fun e he hbd => ?_) K' (fun v w' hv hr hs => hK _ _ ⟨⟨fun k => k == i || d k, ?_, ?_, hs⟩, hA.put ho v, fun k p hp hl => ?_⟩)
    · have h1 := hall e he hbd
      have hle : e.on < ops.size := by
        rcases Nat.lt_or_ge e.on ops.size with h | h
        · exact h
        · simp [Array.getElem?_eq_none (show listed.size ≤ e.on by omega)] at h1
      exact ⟨by rw [hdl _ hle]; exact h1, fun p hp => hF e.on p hp h1⟩
    · intro k hk
      by_cases hki : k = i
      · subst hki
        simp [hil]
      · rw [getD_set_ne false (Ne.symm hki), ← hdl k hk]
        simp [hki]
    · intro k p hp hk e he hbd
      by_cases hki : k = i
      · subst hki
        obtain rfl := Option.some.inj (ho.symm.trans hp)
        have h1 := hall e he hbd
        have hle : e.on < ops.size := by
          rcases Nat.lt_or_ge e.on ops.size with h | h
          · exact h
          · simp [Array.getElem?_eq_none (show listed.size ≤ e.on by omega)] at h1
        have h2 : d e.on = true := by rw [hdl _ hle]; exact h1
        simp [h2]
      · have hk' : d k = true := by simpa [hki] using hk
        have h2 := hcl k p hp hk' e he hbd
        simp [h2]
    · by_cases hki : k = i
      · subst hki
        rw [ho] at hp
        injection hp with hp
        subst hp
        unfold slotOf
        cases hq : o.dst with
        | none => rw [hq] at hv; exact hv
        | some t =>
          rw [hq] at hv
          have hlt := (dist_spec hd ho hq).1
          simp only
          have hlt2 : t < a.tmps.size := by rw [hA.2.1, hN]; exact hlt
          rw [put_same hlt2]
          exact hv
      · have hl' : listed.getD k false = true := by rw [getD_set_ne false (Ne.symm hki)] at hl; exact hl
        have hko : k < ops.size := (Array.getElem?_eq_some_iff.1 hp).1
        have h1 := hr k _ (by rw [hdl k hko]; exact hl') (hF k p hp hl')
        have e : slotOf p (a.put o.dst v) = slotOf p a := by
          unfold slotOf
          cases hq : p.dst with
          | none => rfl
          | some t => simp only; exact put_other ((dist_spec hd hp hq).2 i o ho (Ne.symm hki))
        rw [e]; exact h1
  · rintro listed a w hsz ⟨⟨d, hdl, hcl, hS⟩, hA, hF⟩ hr
    have hal := all_listedC hb hr hsz
    exact hend a w d (fun k hk => by rw [hdl k hk]; exact hal k hk) hS hA fun k o ho => hF k o ho (hal k (Array.getElem?_eq_some_iff.1 ho).1)
  · rw [Array.toList_replicate]; exact Nat.le_trans (List.count_le_length) (by simp)
  · refine ⟨⟨fun _ => false, fun k hk => by simp [hk], (fun k p _ hk => by cases hk), hS0⟩, ⟨rfl, rfl, fun _ _ => rfl⟩, fun k o ho hl => ?_⟩
    exfalso
    have hk := (Array.getElem?_eq_some_iff.1 ho).1
    simp [hk] at hl
/-- A frame whose slots from s on, t of them, hold what u says. -/
def mixL (u : Nat → Value) : Nat → Nat → Nat → List Value → List Value
  | _, _, _, [] => []
  | s + 1, t, k, v :: r => v :: mixL u s t (k + 1) r
  | 0, t + 1, k, _ :: r => u k :: mixL u 0 t (k + 1) r
  | 0, 0, _, v :: r => v :: r
theorem mixL_get (u : Nat → Value) : ∀ (l : List Value) (s t k i : Nat), (mixL u s t k l)[i]? = (l[i]?).map fun v => if s ≤ i ∧ i < s + t then u (k + i) else v
  | [], s, t, k, i => by cases s <;> cases t <;> simp [mixL]
  | v :: r, s + 1, t, k, 0 => by simp [mixL]
  | v :: r, s + 1, t, k, i + 1 => by
    have ih := mixL_get u r s t (k + 1) i
    simp only [mixL, List.getElem?_cons_succ, ih]
    congr 1
    funext x
    rw [show k + 1 + i = k + (i + 1) by omega]
    by_cases h : s ≤ i ∧ i < s + t
    · rw [if_pos h, if_pos (by omega)]
    · rw [if_neg h, if_neg (by omega)]
  | v :: r, 0, t + 1, k, 0 => by simp [mixL]
  | v :: r, 0, t + 1, k, i + 1 => by
    have ih := mixL_get u r 0 t (k + 1) i
    simp only [mixL, List.getElem?_cons_succ, ih]
    congr 1
    funext x
    rw [show k + 1 + i = k + (i + 1) by omega]
    by_cases h : 0 ≤ i ∧ i < 0 + t
    · rw [if_pos h, if_pos (by omega)]
    · rw [if_neg h, if_neg (by omega)]
  | v :: r, 0, 0, k, i => by
    simp only [mixL]
    cases h : (v :: r)[i]? with
    | none => rfl
    | some x => simp
def slotsB (ops : Array Oper) (lo n : Nat) : Bool := (List.range ops.size).all fun k => match ops[k]? with
  | some o => (match o.dst with | some t => decide (lo ≤ t) && decide (t < lo + n) | none => true)
  | none => true
theorem sameAct_mix {a0 a : Act} (h : SameAct ops a0 a) {lo n : Nat} (hs : slotsB ops lo n = true) : a = ⟨(mixL (fun k => a.tmps.getD k undef) lo n 0 a0.tmps.toList).toArray, a0.defers⟩ := by
  obtain ⟨h1, h2, h3⟩ := h
  obtain ⟨tm, df⟩ := a
  simp only at h1 h2 h3 ⊢
  subst h1
  congr 1
  apply Array.ext'
  apply List.ext_getElem?
  intro i
  rw [mixL_get]
  simp only [Array.getElem?_toList, Nat.zero_add]
  by_cases hi : i < tm.size
  · have hi0 : i < a0.tmps.size := by omega
    rw [Array.getElem?_eq_getElem hi, Array.getElem?_eq_getElem hi0]
    simp only [Option.map_some]
    congr 1
    by_cases hr : lo ≤ i ∧ i < lo + n
    · rw [if_pos hr]; simp [hi]
    · rw [if_neg hr]
      have := h3 i (fun k o ho hd => by
        have hk := (Array.getElem?_eq_some_iff.1 ho).1
        have hq := List.all_eq_true.1 hs k (List.mem_range.2 hk)
        rw [ho] at hq
        simp only [hd, Bool.and_eq_true, decide_eq_true_eq] at hq
        exact hr hq)
      simpa [hi, hi0] using this
  · rw [Array.getElem?_eq_none (by omega), Array.getElem?_eq_none (by omega)]; rfl
/-- The law: what the slots hold behind the region is u. -/
theorem wp_region_slots {id : Nat} {a0 : Act} {w0 : World} (hm : P.follows .mixedOrders = true) (N : Nat) (hN : a0.tmps.size = N) (hd : distB ops N = true) (hb : backC ops = true) (lo n : Nat) (hs : slotsB ops lo n = true)
    (S : (Nat → Bool) → World → Prop) (F : Nat → Value → World → Prop) (hS0 : S (fun _ => false) w0.drew)
    (hop : AllHops (HopAt P ops Q a0 S F) 0 ops.toList)
    (hend : ∀ (u : Nat → Value) (w : World) (d : Nat → Bool), (∀ k, k < ops.size → d k = true) → S d w → (∀ (k : Nat) (o : Oper), ops[k]? = some o → F k (match o.dst with | some t => u t | none => undef) w) →
      Q .normal ⟨(mixL u lo n 0 a0.tmps.toList).toArray, a0.defers⟩ w) : (Code.region id ops true).wp P Q a0 w0 := by
  refine wp_region_phase hm N hN hd hb S F hS0 hop fun a w d h1 h2 h3 h4 => ?_
  rw [sameAct_mix h3 hs]
  refine hend _ w d h1 h2 fun k o ho => ?_
  exact h4 k o ho
/-- An operation that gives a value. -/
theorem hop_val {o : Oper} {a : Act} {w w' : World} {K : Act → World → Prop} (hg : o.guard = none) (v : Value) (hrun : (execOp a.eval o).run P w = .ok (.value v) w') (h : K (a.put o.dst v) w') :
    if Region.wanted o (yielded ops a.tmps) = true then Oper.wp P o a w K Q else K (a.put o.dst undef) w := by
  have hw : Region.wanted o (yielded ops a.tmps) = true := by simp [Region.wanted, hg]
  rw [if_pos hw]
  unfold Oper.wp
  rw [hrun]; exact h
/-- An operation that gives none. -/
theorem hop_none {o : Oper} {a : Act} {w w' : World} {K : Act → World → Prop} (hg : o.guard = none) (hrun : (execOp a.eval o).run P w = .ok .skip w') (h : K (a.put o.dst undef) w') :
    if Region.wanted o (yielded ops a.tmps) = true then Oper.wp P o a w K Q else K (a.put o.dst undef) w := by
  have hw : Region.wanted o (yielded ops a.tmps) = true := by simp [Region.wanted, hg]
  rw [if_pos hw]
  unfold Oper.wp
  rw [hrun]; exact h
/-- A call of a function that returns. -/
theorem hop_call {o : Oper} {a : Act} {w : World} {K : Act → World → Prop} (hg : o.guard = none) {f : FuncId} {fn : Func} (hf : P.funcs[f]? = some fn) (hname : (fn.name == "runtime.NumGoroutine") = false) (hb : fn.body.isNone = false) (args : Array Operand) (ts : Array TypeId) (ho : o.op = .call { callee := .value (.func f), args := args, argTypes := ts }) (vs : Array Value) (hv : args.map a.eval = vs)
    (R : Ending → World → Prop) (hc : Calls P f vs w R) (h : ∀ e w', R e w' → ∃ v, e = .returned v ∧ K (a.put o.dst v) w') :
    if Region.wanted o (yielded ops a.tmps) = true then Oper.wp P o a w K Q else K (a.put o.dst undef) w := by
  have hw : Region.wanted o (yielded ops a.tmps) = true := by simp [Region.wanted, hg]
  rw [if_pos hw]
  subst hv
  have e : (execOp a.eval o).run P w = .ok (.enter f (args.map a.eval)) w := by
    have h1 : fn.name ≠ "runtime.NumGoroutine" := by simpa using hname
    have h2 : ¬ fn.body = none := by intro h; rw [h] at hb; cases hb
    unfold execOp
    simp [ho, resolve, Deferred.ofValue, invoke, Act.eval, callFunc, hf, h1, h2]
  unfold Oper.wp
  rw [e, Oper.upon_enter]
  refine hc.mono fun e w' hr => ?_
  obtain ⟨v, rfl, hk⟩ := h e w' hr
  exact hk
/-- What an operation's slot holds. -/
theorem same_slot {a0 a : Act} (h : SameAct ops a0 a) (t : Tmp) (ht : ((List.range ops.size).all fun k => match ops[k]? with | some o => o.dst != some t | none => true) = true) : a.tmps.getD t undef = a0.tmps.getD t undef := by
  refine h.2.2 t fun k o ho => ?_
  have hk := (Array.getElem?_eq_some_iff.1 ho).1
  have := List.all_eq_true.1 ht k (List.mem_range.2 hk)
  rw [ho] at this
  simpa using this
end
end Go.Proofs.YtpknalpdcfjffaaGreat
/- A region that draws, whose slots lie in two stretches. No program. -/
namespace Go.Proofs.YtpknalpdcfjffaaGreat
open Go Go.RowKit

section
variable {P : Program} {ops : Array Oper} {Q : Exit → Act → World → Prop}
def slotsB2 (ops : Array Oper) (lo n lo2 n2 : Nat) : Bool := (List.range ops.size).all fun k => match ops[k]? with
  | some o => (match o.dst with | some t => (decide (lo ≤ t) && decide (t < lo + n)) || (decide (lo2 ≤ t) && decide (t < lo2 + n2)) | none => true)
  | none => true
theorem sameAct_mix2 {a0 a : Act} (h : SameAct ops a0 a) {lo n lo2 n2 : Nat} (hs : slotsB2 ops lo n lo2 n2 = true) : a = ⟨(mixL (fun k => a.tmps.getD k undef) lo2 n2 0 (mixL (fun k => a.tmps.getD k undef) lo n 0 a0.tmps.toList)).toArray, a0.defers⟩ := by
  obtain ⟨h1, h2, h3⟩ := h
  obtain ⟨tm, df⟩ := a
  simp only at h1 h2 h3 ⊢
  subst h1
  congr 1
  apply Array.ext'
  apply List.ext_getElem?
  intro i
  rw [mixL_get, mixL_get]
  simp only [Array.getElem?_toList, Nat.zero_add]
  by_cases hi : i < tm.size
  · have hi0 : i < a0.tmps.size := by omega
    rw [Array.getElem?_eq_getElem hi, Array.getElem?_eq_getElem hi0]
    simp only [Option.map_some]
    congr 1
    by_cases hr : lo2 ≤ i ∧ i < lo2 + n2
    · rw [if_pos hr]; simp [hi]
    · rw [if_neg hr]
      by_cases hr2 : lo ≤ i ∧ i < lo + n
      · rw [if_pos hr2]; simp [hi]
      · rw [if_neg hr2]
        have := h3 i (fun k o ho hd => by
          have hk := (Array.getElem?_eq_some_iff.1 ho).1
          have hq := List.all_eq_true.1 hs k (List.mem_range.2 hk)
          rw [ho] at hq
          simp only [hd, Bool.and_eq_true, Bool.or_eq_true, decide_eq_true_eq] at hq
          rcases hq with hq | hq
          · exact hr2 hq
          · exact hr hq)
        simpa [hi, hi0] using this
  · rw [Array.getElem?_eq_none (by omega), Array.getElem?_eq_none (by omega)]; rfl
theorem wp_region_slots2 {id : Nat} {a0 : Act} {w0 : World} (hm : P.follows .mixedOrders = true) (N : Nat) (hN : a0.tmps.size = N) (hd : distB ops N = true) (hb : backC ops = true) (lo n lo2 n2 : Nat) (hs : slotsB2 ops lo n lo2 n2 = true)
    (S : (Nat → Bool) → World → Prop) (F : Nat → Value → World → Prop) (hS0 : S (fun _ => false) w0.drew)
    (hop : AllHops (HopAt P ops Q a0 S F) 0 ops.toList)
    (hend : ∀ (u : Nat → Value) (w : World) (d : Nat → Bool), (∀ k, k < ops.size → d k = true) → S d w → (∀ (k : Nat) (o : Oper), ops[k]? = some o → F k (match o.dst with | some t => u t | none => undef) w) →
      Q .normal ⟨(mixL u lo2 n2 0 (mixL u lo n 0 a0.tmps.toList)).toArray, a0.defers⟩ w) : (Code.region id ops true).wp P Q a0 w0 := by
  refine wp_region_phase hm N hN hd hb S F hS0 hop fun a w d h1 h2 h3 h4 => ?_
  rw [sameAct_mix2 h3 hs]
  refine hend _ w d h1 h2 fun k o ho => ?_
  exact h4 k o ho
end
end Go.Proofs.YtpknalpdcfjffaaGreat
/- Slices of readings, and their bytes. -/
namespace Go.Proofs.YtpknalpdcfjffaaGreat
open Go Go.RowKit

/-- A slice of readings in a block that holds no bytes. -/
def ReadsR (w : World) (v : Value) (l : List (Int × Int)) : Prop := ∃ (a : Option Addr) (c : Nat), v = .slice a l.length c ∧ l.length ≤ c ∧ c ≤ 9223372036854775807 ∧ (∀ x ∈ l, I64 x.1 ∧ I64 x.2) ∧
  (0 < l.length → ∃ (ab ao : Nat) (cs : Array Value) (t : TypeId) (f : Nat × Nat), a = some ⟨ab, ao, none⟩ ∧ w.heap[ab]? = some (Obj.cells cs t f) ∧ t ≠ 5 ∧
    ∀ i, (hi : i < l.length) → w.cell? ⟨ab, ao + i * 2, none⟩ = some (.int .i64 l[i].1) ∧ w.cell? ⟨ab, ao + i * 2 + 1, none⟩ = some (.int .i64 l[i].2))
theorem ReadsR.nb {w w' : World} {v : Value} {l : List (Int × Int)} (h : ReadsR w v l) (hn : NB w w') : ReadsR w' v l := by
  obtain ⟨a, c, e, h1, h2, h3, h4⟩ := h
  refine ⟨a, c, e, h1, h2, h3, fun h0 => ?_⟩
  obtain ⟨ab, ao, cs, t, f, ea, hb, ht, hc⟩ := h4 h0
  have hs := hn ab cs t f hb ht
  refine ⟨ab, ao, cs, t, f, ea, by rw [hs]; exact hb, ht, fun i hi => ?_⟩
  exact ⟨(World.cell?_of_block (w := w) (a := ⟨ab, ao + i * 2, none⟩) hs).trans (hc i hi).1, (World.cell?_of_block (w := w) (a := ⟨ab, ao + i * 2 + 1, none⟩) hs).trans (hc i hi).2⟩
theorem ReadsR.slice {w : World} {v : Value} {l : List (Int × Int)} (h : ReadsR w v l) : ∃ a c, v = .slice a l.length c := by
  obtain ⟨a, c, e, _⟩ := h
  exact ⟨a, c, e⟩
def rdsB (l : List (Int × Int)) : List UInt8 := l.flatMap fun x => ints [x.1, x.2]
def readingsB (l : List (Int × Int)) : List UInt8 := be 4 l.length ++ rdsB l
theorem rdsB_length (l : List (Int × Int)) : (rdsB l).length = 16 * l.length := by
  induction l with
  | nil => rfl
  | cons x l ih => simp [rdsB, ints_length] at ih ⊢; omega
theorem rdsB_take (l : List (Int × Int)) (m : Nat) (h : m < l.length) : rdsB (l.take (m + 1)) = rdsB (l.take m) ++ ints [l[m].1, l[m].2] := by
  have : l.take (m + 1) = l.take m ++ [l[m]] := by rw [List.take_add_one]; simp [h]
  unfold rdsB
  rw [this, List.flatMap_append]
  simp
/-- Two ints just laid. -/
theorem readsI_two (w : World) (x y : Int) (hx : I64 x) (hy : I64 y) : ReadsI (w.alloc (.cells #[.int .i64 x, .int .i64 y] 3)) (.slice (some ⟨w.heap.size, 0, none⟩) 2 2) [x, y] := by
  have hh : (w.alloc (.cells #[.int .i64 x, .int .i64 y] 3)).heap[w.heap.size]? = some (.cells #[.int .i64 x, .int .i64 y] 3 (0, 0)) := heap_alloc_new w _
  refine ⟨_, 2, rfl, Nat.le_refl _, by omega, by intro z hz; simp at hz; rcases hz with rfl | rfl <;> assumption, fun _ => ⟨w.heap.size, 0, _, _, _, rfl, hh, by decide, fun i hi => ?_⟩⟩
  have : i = 0 ∨ i = 1 := by simp at hi; omega
  rcases this with rfl | rfl <;> simp only [World.cell?, hh] <;> rfl
end Go.Proofs.YtpknalpdcfjffaaGreat
/- An entry of a journal in plain data, what walks over its fields, its bytes, and how bytes are parsed. No program. -/
namespace Go.Proofs.YtpknalpdcfjffaaGreat
open Go Go.RowKit

/-- What walks over fields. -/
structure Wk (σ : Type) where
  sz : σ → Nat
  int : σ → Int → σ × Int
  word : σ → Nat → σ × Nat
  bool : σ → Bool → σ × Bool
  text : σ → ByteArray → σ × ByteArray
  count : σ → Nat → σ × Nat
structure Pla where
  f : Int
  a : Int
  b : Int
  c : Int
structure Rep where
  kind : Int
  name : ByteArray
  time : Int
  pl : Pla
  rds : List (Int × Int)
structure Cnt where
  name : ByteArray
  total : Int
  rej : Int
structure Ana where
  bg : List Int
  inc : List Int
  field : List Int
  hi : Int
  lo : Nat
  anchor : Int
  radius : Int
  rounds : Int
structure Cyc where
  number : Int
  time : Int
  cutoff : Int
  reps : List Rep
  ana : Ana
  freq : Int
  depth : List Int
  flow : List Int
  cycles : List (List Cnt)
  listed : List ByteArray
structure Ent where
  kind : Int
  now : Int
  rep : Rep
  corr : Int
  arr : Int
  st : Int
  name : ByteArray
  from_ : Int
  closed : Bool
  pl : Pla
  bias : List (Int × Int)
  cyc : Cyc
def Pla.zero : Pla := ⟨0, 0, 0, 0⟩
def Rep.zero : Rep := ⟨0, ⟨#[]⟩, 0, .zero, []⟩
def Cnt.zero : Cnt := ⟨⟨#[]⟩, 0, 0⟩
def Ana.zero : Ana := ⟨[], [], [], 0, 0, 0, 0, 0⟩
def Cyc.zero : Cyc := ⟨0, 0, 0, [], .zero, 0, [], [], [], []⟩
def Ent.zero : Ent := ⟨0, 0, .zero, 0, 0, 0, ⟨#[]⟩, 0, false, .zero, [], .zero⟩

/-- The first i elements of a slice: the state behind them, and what they are. -/
def runE {σ α : Type} (each : σ → α → σ × α) (z : α) (s : σ) (l : List α) : Nat → σ × List α
  | 0 => (s, [])
  | i + 1 => ((each (runE each z s l i).1 (l.getD i z)).1, (runE each z s l i).2 ++ [(each (runE each z s l i).1 (l.getD i z)).2])
namespace Wk
variable {σ : Type} (k : Wk σ)
def slice {α : Type} (each : σ → α → σ × α) (z : α) (s : σ) (l : List α) : σ × List α := runE each z (k.count s l.length).1 l (k.count s l.length).2
def ints : σ → List Int → σ × List Int
  | s, [] => (s, [])
  | s, x :: l =>
    let a := k.int s x
    let b := ints a.1 l
    (b.1, a.2 :: b.2)
def place (s : σ) (p : Pla) : σ × Pla :=
  let a := k.int s p.f
  let b := k.int a.1 p.a
  let c := k.int b.1 p.b
  let d := k.int c.1 p.c
  (d.1, ⟨a.2, b.2, c.2, d.2⟩)
def reading (s : σ) (p : Int × Int) : σ × (Int × Int) :=
  let a := k.int s p.1
  let b := k.int a.1 p.2
  (b.1, (a.2, b.2))
def rep (s : σ) (r : Rep) : σ × Rep :=
  let a := k.int s r.kind
  let b := k.text a.1 r.name
  let c := k.int b.1 r.time
  let d := k.place c.1 r.pl
  let e := k.slice k.reading (0, 0) d.1 r.rds
  (e.1, ⟨a.2, b.2, c.2, d.2, e.2⟩)
def cnt (s : σ) (c : Cnt) : σ × Cnt :=
  let a := k.text s c.name
  let b := k.int a.1 c.total
  let d := k.int b.1 c.rej
  (d.1, ⟨a.2, b.2, d.2⟩)
def cnts (s : σ) (l : List Cnt) : σ × List Cnt := k.slice k.cnt .zero s l
def nums (s : σ) (l : List Int) : σ × List Int := k.slice k.int 0 s l
def ana (s : σ) (x : Ana) : σ × Ana :=
  let a := k.nums s x.bg
  let b := k.nums a.1 x.inc
  let c := k.nums b.1 x.field
  let d := k.int c.1 x.hi
  let e := k.word d.1 x.lo
  let f := k.int e.1 x.anchor
  let g := k.int f.1 x.radius
  let h := k.int g.1 x.rounds
  (h.1, ⟨a.2, b.2, c.2, d.2, e.2, f.2, g.2, h.2⟩)
def cyc (s : σ) (x : Cyc) : σ × Cyc :=
  let a := k.int s x.number
  let b := k.int a.1 x.time
  let c := k.int b.1 x.cutoff
  let d := k.slice k.rep .zero c.1 x.reps
  let e := k.ana d.1 x.ana
  let f := k.int e.1 x.freq
  let g := k.nums f.1 x.depth
  let h := k.nums g.1 x.flow
  let i := k.slice k.cnts [] h.1 x.cycles
  let j := k.slice k.text ⟨#[]⟩ i.1 x.listed
  (j.1, ⟨a.2, b.2, c.2, d.2, e.2, f.2, g.2, h.2, i.2, j.2⟩)
/-- Of an entry what its kind uses; none for another kind. -/
def ent (s : σ) (x : Ent) : Option (σ × Ent) :=
  if x.kind = 1 then
    let a := k.int s x.now
    some (a.1, { x with now := a.2 })
  else if x.kind = 2 then
    let a := k.rep s x.rep
    let b := k.int a.1 x.corr
    let c := k.int b.1 x.arr
    some (c.1, { x with rep := a.2, corr := b.2, arr := c.2 })
  else if x.kind = 3 then
    let a := k.int s x.st
    let b := k.text a.1 x.name
    let c := k.int b.1 x.from_
    let d := k.bool c.1 x.closed
    let e := k.place d.1 x.pl
    let f := k.slice k.reading (0, 0) e.1 x.bias
    some (f.1, { x with st := a.2, name := b.2, from_ := c.2, closed := d.2, pl := e.2, bias := f.2 })
  else if x.kind = 4 then
    let a := k.cyc s x.cyc
    some (a.1, { x with cyc := a.2 })
  else none
end Wk

/-- What is walked over makes no state smaller. -/
structure Wk.Mono {σ : Type} (k : Wk σ) : Prop where
  int : ∀ s x, k.sz s ≤ k.sz (k.int s x).1
  word : ∀ s x, k.sz s ≤ k.sz (k.word s x).1
  bool : ∀ s x, k.sz s ≤ k.sz (k.bool s x).1
  text : ∀ s x, k.sz s ≤ k.sz (k.text s x).1
  count : ∀ s x, k.sz s ≤ k.sz (k.count s x).1
namespace Wk.Mono
variable {σ : Type} {k : Wk σ} (h : k.Mono)
theorem run {α : Type} {each : σ → α → σ × α} (he : ∀ s x, k.sz s ≤ k.sz (each s x).1) (z : α) (s : σ) (l : List α) : ∀ i, k.sz s ≤ k.sz (runE each z s l i).1
  | 0 => Nat.le_refl _
  | i + 1 => Nat.le_trans (run he z s l i) (he _ _)
theorem run_le {α : Type} {each : σ → α → σ × α} (he : ∀ s x, k.sz s ≤ k.sz (each s x).1) (z : α) (s : σ) (l : List α) (i : Nat) : ∀ n, i ≤ n → k.sz (runE each z s l i).1 ≤ k.sz (runE each z s l n).1
  | 0, hi => by
    obtain rfl : i = 0 := by omega
    exact Nat.le_refl _
  | n + 1, hi => by
    rcases Nat.lt_or_ge n i with hn | hn
    · obtain rfl : i = n + 1 := by omega
      exact Nat.le_refl _
    · exact Nat.le_trans (run_le he z s l i n hn) (he _ _)
include h
theorem slice {α : Type} {each : σ → α → σ × α} (he : ∀ s x, k.sz s ≤ k.sz (each s x).1) (z : α) (s : σ) (l : List α) : k.sz s ≤ k.sz (k.slice each z s l).1 :=
  Nat.le_trans (h.count s _) (run he _ _ _ _)
theorem place (s : σ) (p : Pla) : k.sz s ≤ k.sz (k.place s p).1 :=
  Nat.le_trans (Nat.le_trans (Nat.le_trans (h.int _ _) (h.int _ _)) (h.int _ _)) (h.int _ _)
theorem reading (s : σ) (p : Int × Int) : k.sz s ≤ k.sz (k.reading s p).1 := Nat.le_trans (h.int _ _) (h.int _ _)
theorem rep (s : σ) (r : Rep) : k.sz s ≤ k.sz (k.rep s r).1 :=
  Nat.le_trans (Nat.le_trans (Nat.le_trans (Nat.le_trans (h.int _ _) (h.text _ _)) (h.int _ _)) (h.place _ _)) (h.slice h.reading _ _ _)
theorem cnt (s : σ) (c : Cnt) : k.sz s ≤ k.sz (k.cnt s c).1 := Nat.le_trans (Nat.le_trans (h.text _ _) (h.int _ _)) (h.int _ _)
theorem cnts (s : σ) (l : List Cnt) : k.sz s ≤ k.sz (k.cnts s l).1 := h.slice h.cnt _ _ _
theorem nums (s : σ) (l : List Int) : k.sz s ≤ k.sz (k.nums s l).1 := h.slice h.int _ _ _
theorem ana (s : σ) (x : Ana) : k.sz s ≤ k.sz (k.ana s x).1 :=
  Nat.le_trans (Nat.le_trans (Nat.le_trans (Nat.le_trans (Nat.le_trans (Nat.le_trans (Nat.le_trans (h.nums _ _) (h.nums _ _)) (h.nums _ _)) (h.int _ _)) (h.word _ _)) (h.int _ _)) (h.int _ _)) (h.int _ _)
theorem cyc (s : σ) (x : Cyc) : k.sz s ≤ k.sz (k.cyc s x).1 :=
  Nat.le_trans (Nat.le_trans (Nat.le_trans (Nat.le_trans (Nat.le_trans (Nat.le_trans (Nat.le_trans (Nat.le_trans (Nat.le_trans (h.int _ _) (h.int _ _)) (h.int _ _)) (h.slice h.rep _ _ _)) (h.ana _ _)) (h.int _ _)) (h.nums _ _)) (h.nums _ _)) (h.slice h.cnts _ _ _)) (h.slice h.text _ _ _)
end Wk.Mono

/-! ### The writer -/
def wk : Wk (List UInt8) where
  sz := List.length
  int s x := (s ++ be 8 (u64 x), x)
  word s n := (s ++ be 8 n, n)
  bool s q := (s ++ boolB q, q)
  text s t := (s ++ strB t, t)
  count s n := (s ++ be 4 n, n)
def placeB (p : Pla) : List UInt8 := ints [p.f, p.a, p.b, p.c]
def repB (r : Rep) : List UInt8 := ints [r.kind] ++ strB r.name ++ ints [r.time] ++ placeB r.pl ++ readingsB r.rds
def listB {α : Type} (f : α → List UInt8) (l : List α) : List UInt8 := be 4 l.length ++ l.flatMap f
def cntB (c : Cnt) : List UInt8 := strB c.name ++ ints [c.total, c.rej]
def anaB (a : Ana) : List UInt8 := sliceB a.bg ++ sliceB a.inc ++ sliceB a.field ++ ints [a.hi] ++ be 8 a.lo ++ ints [a.anchor, a.radius, a.rounds]
def histB (cs : List (List Cnt)) (ls : List ByteArray) : List UInt8 := listB (listB cntB) cs ++ listB strB ls
def cycB (x : Cyc) : List UInt8 := ints [x.number, x.time, x.cutoff] ++ listB repB x.reps ++ anaB x.ana ++ ints [x.freq] ++ sliceB x.depth ++ sliceB x.flow ++ histB x.cycles x.listed
/-- The bytes of an entry behind its kind. -/
def entB (x : Ent) : Option (List UInt8) :=
  if x.kind = 1 then some (ints [x.now])
  else if x.kind = 2 then some (repB x.rep ++ ints [x.corr, x.arr])
  else if x.kind = 3 then some (ints [x.st] ++ strB x.name ++ ints [x.from_] ++ boolB x.closed ++ placeB x.pl ++ readingsB x.bias)
  else if x.kind = 4 then some (cycB x.cyc)
  else none
theorem wk_mono : wk.Mono := by
  refine ⟨?_, ?_, ?_, ?_, ?_⟩ <;> intro s x <;> simp [wk]
theorem wk_run {α : Type} {each : List UInt8 → α → List UInt8 × α} {f : α → List UInt8} (he : ∀ s x, each s x = (s ++ f x, x)) (z : α) (s : List UInt8) (l : List α) : ∀ i, i ≤ l.length → runE each z s l i = (s ++ (l.take i).flatMap f, l.take i)
  | 0, _ => by simp [runE]
  | i + 1, hi => by
    have ih := wk_run he z s l i (by omega)
    have e : l.getD i z = l[i] := by rw [List.getD_eq_getElem?_getD, List.getElem?_eq_getElem (by omega)]; rfl
    have e2 : l.take (i + 1) = l.take i ++ [l[i]] := by rw [List.take_add_one, List.getElem?_eq_getElem (by omega)]; rfl
    rw [runE, ih, he, e, e2, List.flatMap_append]
    simp
theorem wk_slice {α : Type} {each : List UInt8 → α → List UInt8 × α} {f : α → List UInt8} (he : ∀ (s : List UInt8) (x : α), each s x = (s ++ f x, x)) (z : α) (s : List UInt8) (l : List α) : wk.slice each z s l = (s ++ listB f l, l) := by
  have h := wk_run he z (s ++ be 4 l.length) l l.length (Nat.le_refl _)
  rw [List.take_length, List.append_assoc] at h
  exact h
theorem wk_reading (s : List UInt8) (p : Int × Int) : wk.reading s p = (s ++ ints [p.1, p.2], p) := by
  simp [Wk.reading, wk, ints]
theorem wk_place (s : List UInt8) (p : Pla) : wk.place s p = (s ++ placeB p, p) := by
  simp [Wk.place, wk, ints, placeB]
def rd1B (p : Int × Int) : List UInt8 := ints [p.1, p.2]
def i1B (x : Int) : List UInt8 := be 8 (u64 x)
theorem wk_rds (s : List UInt8) (l : List (Int × Int)) : wk.slice wk.reading (0, 0) s l = (s ++ readingsB l, l) := wk_slice (f := rd1B) wk_reading (0, 0) s l
theorem wk_nums (s : List UInt8) (l : List Int) : wk.nums s l = (s ++ sliceB l, l) := wk_slice (each := wk.int) (f := i1B) (fun _ _ => rfl) 0 s l
theorem wk_texts (s : List UInt8) (l : List ByteArray) : wk.slice wk.text ⟨#[]⟩ s l = (s ++ listB strB l, l) := wk_slice (each := wk.text) (f := strB) (fun _ _ => rfl) _ s l
theorem wk_rep (s : List UInt8) (r : Rep) : wk.rep s r = (s ++ repB r, r) := by
  unfold Wk.rep
  simp only [wk_rds, wk_place]
  simp [wk, ints, repB]
theorem wk_cnt (s : List UInt8) (c : Cnt) : wk.cnt s c = (s ++ cntB c, c) := by
  simp [Wk.cnt, wk, ints, cntB]
theorem wk_cnts (s : List UInt8) (l : List Cnt) : wk.cnts s l = (s ++ listB cntB l, l) := wk_slice wk_cnt _ _ _
theorem wk_ana (s : List UInt8) (x : Ana) : wk.ana s x = (s ++ anaB x, x) := by
  unfold Wk.ana
  simp only [wk_nums]
  simp [wk, ints, anaB]
theorem wk_cyc (s : List UInt8) (x : Cyc) : wk.cyc s x = (s ++ cycB x, x) := by
  unfold Wk.cyc
  simp only [wk_nums, wk_ana, wk_slice wk_rep, wk_slice wk_cnts, wk_texts]
  simp [wk, ints, cycB, histB]
theorem wk_ent (s : List UInt8) (x : Ent) : wk.ent s x = (entB x).map fun b => (s ++ b, x) := by
  unfold Wk.ent entB
  split
  · simp [wk, ints]
  · split
    · simp only [wk_rep]
      simp [wk, ints]
    · split
      · simp only [wk_rds, wk_place]
        simp [wk, ints]
      · split
        · simp only [wk_cyc]
          simp
        · rfl
end Go.Proofs.YtpknalpdcfjffaaGreat
