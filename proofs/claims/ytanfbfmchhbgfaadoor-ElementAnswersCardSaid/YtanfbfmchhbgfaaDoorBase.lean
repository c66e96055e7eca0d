/- Small laws on worlds: what stays as it was when one block and new blocks are written. No conditions, no program. -/
import Derived.WalkKit
import Derived.WalkLawsBesides
import Derived.Deep.Draws
namespace Go.Proofs.YtanfbfmchhbgfaaDoor
open Go Go.RowKit

/-- An int of Go is in its range. -/
def I64 (x : Int) : Prop := -9223372036854775808 ≤ x ∧ x ≤ 9223372036854775807
theorem I64.lo {x : Int} (h : I64 x) : -9223372036854775808 ≤ x := h.1
theorem I64.hi {x : Int} (h : I64 x) : x ≤ 9223372036854775807 := h.2
theorem I64.zero : I64 0 := by unfold I64; omega

/-- Below block number B, and but for block b, the world is as it was. -/
structure But (B b : Nat) (w w' : World) : Prop where
  os : w'.os = w.os
  tape : w'.tape = w.tape
  output : w'.output = w.output
  size : w.heap.size ≤ w'.heap.size
  block : ∀ k, k < B → k ≠ b → w'.heap[k]? = w.heap[k]?

theorem But.refl (B b : Nat) (w : World) : But B b w w := ⟨rfl, rfl, rfl, Nat.le_refl _, fun _ _ _ => rfl⟩
theorem But.trans {B b : Nat} {x y z : World} (h : But B b x y) (k : But B b y z) : But B b x z :=
  ⟨k.os.trans h.os, k.tape.trans h.tape, k.output.trans h.output, Nat.le_trans h.size k.size, fun i hi hn => (k.block i hi hn).trans (h.block i hi hn)⟩
theorem But.mono {B B' b : Nat} {w w' : World} (h : But B b w w') (hB : B' ≤ B) : But B' b w w' :=
  ⟨h.os, h.tape, h.output, h.size, fun k hk => h.block k (Nat.lt_of_lt_of_le hk hB)⟩
theorem But.of_below {B b : Nat} {w w' : World} (h : Below B w w') : But B b w w' := ⟨h.os, h.tape, h.output, h.size, fun k hk _ => h.block k hk⟩
/-- Where the one block lies at B or behind it, all below B is as it was. -/
theorem But.below {B b : Nat} {w w' : World} (h : But B b w w') (hb : B ≤ b) : Below B w w' := ⟨h.os, h.tape, h.output, h.size, fun k hk => h.block k hk (by omega)⟩
theorem But.drewN {B b : Nat} {a w : World} (h : But B b a w) (n : Nat) : But B b a (w.drewN n) := ⟨h.os, h.tape, h.output, h.size, h.block⟩
theorem But.drew {B b : Nat} {a w : World} (h : But B b a w) : But B b a w.drew := ⟨h.os, h.tape, h.output, h.size, h.block⟩
theorem But.alloc {B b : Nat} {a w : World} (h : But B b a w) (hB : B ≤ w.heap.size) (o : Obj) : But B b a (w.alloc o) :=
  h.trans ⟨rfl, rfl, rfl, by simp, fun k hk _ => Below.heap_alloc _ _ _ (by omega)⟩
theorem But.setCell {B b : Nat} {a w : World} (h : But B b a w) {p : Addr} (hp : B ≤ p.block ∨ p.block = b) (u : Value) : But B b a (w.setCell p u) :=
  h.trans ⟨rfl, rfl, rfl, by simp [World.setCell], fun k hk hn => Below.heap_setCell _ _ _ _ (by omega)⟩
theorem But.cell {B b : Nat} {w w' : World} (h : But B b w w') {p : Addr} (hp : p.block < B) (hn : p.block ≠ b) : w'.cell? p = w.cell? p :=
  World.cell?_of_block (w := w) (h.block p.block hp hn)
theorem But.frozen {B b : Nat} {w w' : World} (h : But B b w w') {p : Addr} (hp : p.block < B) (hn : p.block ≠ b) : w'.frozen? p = w.frozen? p :=
  World.frozen?_of_block (w := w) (h.block p.block hp hn)

theorem below_then {w wx w' : World} (h : Below w.heap.size w wx) (hb : Below wx.heap.size wx w') : Below w.heap.size w w' := h.trans (hb.mono h.size)
theorem cell_then {wx w' : World} {a : Addr} {v : Value} (hb : Below wx.heap.size wx w') (h : wx.cell? a = some v) : w'.cell? a = some v := by
  rw [hb.cell (World.block_lt_of_cell? _ _ h)]; exact h
/-- The rules that a walk needs behind a contract that ends in Below. -/
theorem bcell {W w1 : World} (hb : Below W.heap.size W w1) : (∀ b o, b < W.heap.size → w1.cell? ⟨b, o, none⟩ = W.cell? ⟨b, o, none⟩) ∧ (∀ b o, b < W.heap.size → w1.frozen? ⟨b, o, none⟩ = W.frozen? ⟨b, o, none⟩) :=
  ⟨fun b o h => hb.cell (p := ⟨b, o, none⟩) h, fun b o h => hb.frozen (p := ⟨b, o, none⟩) h⟩
/-- The rules that a walk needs behind a contract that ends in But. -/
theorem ucell {b : Nat} {W w1 : World} (hb : But W.heap.size b W w1) : (∀ k o, k < W.heap.size → k ≠ b → w1.cell? ⟨k, o, none⟩ = W.cell? ⟨k, o, none⟩) ∧ (∀ k o, k < W.heap.size → k ≠ b → w1.frozen? ⟨k, o, none⟩ = W.frozen? ⟨k, o, none⟩) :=
  ⟨fun k o h hn => hb.cell (p := ⟨k, o, none⟩) h hn, fun k o h hn => hb.frozen (p := ⟨k, o, none⟩) h hn⟩

/-- Block b is a reader whose numbers still to come are l; the list that it reads lies below block B. -/
def SrcIs (w : World) (B b : Nat) (l : List Int) : Prop :=
  ∃ (a : Option Addr) (len cap k : Nat) (zs : List Int), B ≤ b ∧ w.cell? ⟨b, 0, none⟩ = some (.slice a len cap) ∧ w.cell? ⟨b, 1, none⟩ = some (.int .i64 k) ∧ w.frozen? ⟨b, 1, none⟩ = false ∧
    k ≤ len ∧ len ≤ 2000 ∧ zs.length = len ∧ l = zs.drop k ∧ (∀ z ∈ l, I64 z) ∧
    (∀ i, k ≤ i → i < len → ∃ ab ao : Nat, a = some ⟨ab, ao, none⟩ ∧ ab < B ∧ w.cell? ⟨ab, ao + i, none⟩ = some (.int .i64 (zs.getD i 0)))

theorem SrcIs.lt {w : World} {B b : Nat} {l : List Int} (h : SrcIs w B b l) : b < w.heap.size := by
  obtain ⟨a, len, cap, k, zs, h0, h1, _⟩ := h
  exact World.block_lt_of_cell? (a := ⟨b, 0, none⟩) _ h1
theorem SrcIs.le {w : World} {B b : Nat} {l : List Int} (h : SrcIs w B b l) : B ≤ b := by
  obtain ⟨a, len, cap, k, zs, h0, h1, _⟩ := h
  exact h0

theorem SrcIs.of_same {w w' : World} {B b : Nat} {l : List Int} (h : SrcIs w B b l) (hb : w'.heap[b]? = w.heap[b]?) (hB : ∀ k, k < B → k < w.heap.size → w'.heap[k]? = w.heap[k]?) : SrcIs w' B b l := by
  obtain ⟨a, len, cap, k, zs, h0, h1, h2, h3, h4, h5, h6, h7, h8, h9⟩ := h
  refine ⟨a, len, cap, k, zs, h0, ?_, ?_, ?_, h4, h5, h6, h7, h8, ?_⟩
  · rw [World.cell?_of_block (w := w) hb]; exact h1
  · rw [World.cell?_of_block (w := w) hb]; exact h2
  · rw [World.frozen?_of_block (w := w) hb]; exact h3
  · intro i hi hl
    obtain ⟨ab, ao, ha, hlt, hc⟩ := h9 i hi hl
    have hb' := hB _ hlt (World.block_lt_of_cell? (a := ⟨ab, ao + i, none⟩) _ hc)
    refine ⟨ab, ao, ha, hlt, ?_⟩
    have e : w'.cell? ⟨ab, ao + i, none⟩ = w.cell? ⟨ab, ao + i, none⟩ := World.cell?_of_block (w := w) hb'
    rw [e]; exact hc

theorem SrcIs.below {w w' : World} {B b C : Nat} {l : List Int} (h : SrcIs w B b l) (hw : Below C w w') (hC : b < C) : SrcIs w' B b l :=
  h.of_same (hw.block _ hC) (fun k hk _ => hw.block k (by have := h.le; omega))
theorem SrcIs.but {w w' : World} {B b C c : Nat} {l : List Int} (h : SrcIs w B b l) (hw : But C c w w') (hC : b < C) (hc : b ≠ c) (hBc : B ≤ c) : SrcIs w' B b l :=
  h.of_same (hw.block _ hC hc) (fun k hk _ => hw.block k (by have := h.le; omega) (by omega))
theorem SrcIs.setCell {w : World} {B b : Nat} {l : List Int} (h : SrcIs w B b l) {p : Addr} (hp : p.block ≠ b) (hB : B ≤ p.block) (u : Value) : SrcIs (w.setCell p u) B b l :=
  h.of_same (Below.heap_setCell _ _ _ _ (by omega)) (fun k hk _ => Below.heap_setCell _ _ _ _ (by omega))
theorem SrcIs.alloc {w : World} {B b : Nat} {l : List Int} (h : SrcIs w B b l) (o : Obj) : SrcIs (w.alloc o) B b l :=
  h.of_same (Below.heap_alloc _ _ _ h.lt) (fun _ _ hk => Below.heap_alloc _ _ _ hk)
theorem SrcIs.drewN {w : World} {B b : Nat} {l : List Int} (h : SrcIs w B b l) (n : Nat) : SrcIs (w.drewN n) B b l :=
  h.of_same rfl (fun _ _ _ => rfl)
theorem SrcIs.drew {w : World} {B b : Nat} {l : List Int} (h : SrcIs w B b l) : SrcIs w.drew B b l :=
  h.of_same rfl (fun _ _ _ => rfl)

/-- A reader that has nothing more to read. -/
theorem SrcIs.nil_iff {w : World} {B b : Nat} {l : List Int} (h : SrcIs w B b l) : I64 (l.headD 0) := by
  obtain ⟨a, len, cap, k, zs, h0, h1, h2, h3, h4, h5, h6, h7, h8, h9⟩ := h
  cases l with
  | nil => exact I64.zero
  | cons z t => exact h8 z (by simp)

def modOf (x n : Int) : Int := if n < 1 then 0 else if x.tmod n < 0 then x.tmod n + n else x.tmod n

theorem modOf_lt {x n : Int} (h : 1 ≤ n) : 0 ≤ modOf x n ∧ modOf x n < n := by
  unfold modOf
  have h1 := Int.tmod_lt_of_pos x (show 0 < n by omega)
  have h2 : -n < x.tmod n := by
    rcases Int.le_total 0 x with h | h
    · have := Int.tmod_nonneg n h; omega
    · have e : x.tmod n = -((-x).tmod n) := by rw [Int.neg_tmod]; omega
      have := Int.tmod_lt_of_pos (-x) (show 0 < n by omega)
      omega
  split <;> (try split) <;> omega

theorem modOf_I64 {x n : Int} (hn : I64 n) : I64 (modOf x n) := by
  unfold I64 at *
  by_cases h : n < 1
  · simp [modOf, h]
  · have := @modOf_lt x n (by omega); omega
end Go.Proofs.YtanfbfmchhbgfaaDoor
