/- Part 1 of the proof: laws on memory and what functions of the program return. No conditions but those that each theorem names. -/
import Derived.Test.YtmmmebdgannpgaaGreatDoorChecked
import Derived.Lib.Builder
import Derived.Lib.AppendStr
import Derived.Lib.UnsafeStr
import Derived.Lib.MakeNoZero
import Derived.Lib.Strings
import Derived.Lib.Walk
import Derived.WalkKit
import Derived.WalkLawsBesides
import Derived.Laws.Externs
import Derived.Outline
import Derived.Lib.Hide
import Derived.RegionTactic
import Derived.Deep.Draws
import Derived.Test.YtmmmebdgannpgaaGreatDoorShelf
import Derived.Lib.ItoaLen
import Derived.Lib.SmallJoins
import Derived.Lib.AppendIntMem
import Derived.RangeFuncNested
import Derived.RangeFuncBox
import Derived.RangeFuncBound
import Derived.RangeFuncCalls
import Derived.RangeFuncLeaves
import Derived.Shelf.Abstract
import Derived.Shelf.RegionOpen
import Derived.OwnWalkIn
import Derived.TacticsInMore
import Derived.LoopNIn
import Derived.LoopIn
import Derived.RegionIn
import Derived.Stop.RegionWithIn
import Derived.Maps.AppendAt
import Derived.BigFrameIn
import Derived.Sort.QuietIn
import Derived.Deep.RegionHeld3
import Derived.Deep.QuietTactic
import Derived.BigQuiet
import Derived.IntWalk
set_option linter.unusedVariables false
set_option linter.unusedSimpArgs false
/- The methods of strings.Builder that the monitor uses, on a builder that lies at the head of a block of the call's own. The lengths stay below 2^47. -/
namespace Go.Proofs.YtmmmebdgannpgaaGreatDoor
open Go Go.RowKit

abbrev WT : TypeId := 90
theorem binfo : (Tryz.prog.info? 5).map (fun i => (i.zero, i.size, i.bytes)) = some (some (.int .u8 0), 1, 1) := by kernel_rfl
theorem wsize : (Tryz.prog.info? 88).map (·.size) = some 2 := by kernel_rfl
theorem wlies : liesAt Tryz.prog Tryz.prog.depth 90 (2 / Tryz.prog.cellsOf 90) 0 88 1 = true := by kernel_rfl

/-- Blocks of other types than the bytes, but for block b, hold what they held. -/
def KeepsT (b : Nat) (w w' : World) : Prop := ∀ k cs T fr, w.heap[k]? = some (.cells cs T fr) → T ≠ 5 → k ≠ b → w'.heap[k]? = some (.cells cs T fr)
theorem KeepsT.refl (b : Nat) (w : World) : KeepsT b w w := fun _ _ _ _ h _ _ => h
theorem KeepsT.trans {b : Nat} {x y z : World} (h : KeepsT b x y) (k : KeepsT b y z) : KeepsT b x z := fun i cs T fr e hT hi => k i cs T fr (h i cs T fr e hT hi) hT hi
theorem KeepsT.setCell (b o : Nat) (w : World) (u : Value) : KeepsT b w (w.setCell ⟨b, o, none⟩ u) := fun k cs T fr e _ hk => by
  rw [Below.heap_setCell _ _ _ _ (fun e => hk e)]; exact e
theorem KeepsT.alloc (b : Nat) (w : World) (o : Obj) : KeepsT b w (w.alloc o) := fun k cs T fr e _ _ => by
  have hlt : k < w.heap.size := (Array.getElem?_eq_some_iff.1 e).1
  rw [Below.heap_alloc _ _ _ hlt]; exact e
theorem KeepsT.drew (b : Nat) (w : World) : KeepsT b w w.drew := fun _ _ _ _ h _ _ => h
theorem KeepsT.grown {b B n : Nat} {w w' : World} {v : Value} {bs : List Value} (hown : w.ownsRow B 5 1 v n bs) (hg : w.grownBy w' v.ownBlock) : KeepsT b w w' := fun k cs T fr e hT _ => by
  have hlt : k < w.heap.size := (Array.getElem?_eq_some_iff.1 e).1
  rw [hg.block k hlt ?_]; exact e
  intro hk
  rcases hown.2 with ⟨hv, _⟩ | ⟨g, cap, cur, hv, _, hgg, _⟩
  · rw [hv] at hk; cases hk
  · rw [hv] at hk
    obtain rfl : k = g := by simpa [Value.ownBlock] using hk
    rw [e] at hgg
    simp at hgg
    exact hT hgg.2.1

set_option maxHeartbeats 1000000 in
set_option maxRecDepth 100000 in
theorem check_used (b : Nat) (w : World) (h0 : w.cell? ⟨b, 0, none⟩ = some (.pointer (some ⟨b, 0, none⟩))) :
    Calls Tryz.prog 84 #[.pointer (some ⟨b, 0, none⟩)] w fun e w' => e = .returned (.tuple #[]) ∧ w' = w := by
  obtain ⟨j, hj, _⟩ := Option.map_eq_some_iff.1 wsize
  go_enter Tryz.func84, Tryz.ntmps84
  go_wp2
  rw [Lib.run_neq_ptr_same w _ Tryz.underlying86 hj]
  go_wp2
  go_end0
  exact ⟨rfl, rfl⟩

set_option maxHeartbeats 1000000 in
set_option maxRecDepth 100000 in
theorem check_fresh (b : Nat) (w : World) (h0 : w.cell? ⟨b, 0, none⟩ = some (.pointer none)) (hsh : w.shape? b = some (WT, 2)) (hfz : w.frozen? ⟨b, 0, none⟩ = false) :
    Calls Tryz.prog 84 #[.pointer (some ⟨b, 0, none⟩)] w fun e w' => e = .returned (.tuple #[]) ∧ w' = w.setCell ⟨b, 0, none⟩ (.pointer (some ⟨b, 0, none⟩)) := by
  obtain ⟨j, hj, hjs⟩ := Option.map_eq_some_iff.1 wsize
  go_enter Tryz.func84, Tryz.ntmps84
  go_wp2
  rw [Lib.run_to_unsafe w ⟨b, 0, none⟩ Tryz.underlying86 Tryz.underlying159 hj (by rw [hjs]; decide) hsh (Nat.zero_lt_succ 1)]
  simp only [Result.andThen]
  rw [Oper.upon_value]
  go_wp2
  rw [run_callFunc_extern Tryz.func103 (by kernel_rfl) (by kernel_rfl) (by kernel_rfl) (e := Extern.AbiNoEscape.same) (by kernel_rfl)]
  rw [Lib.run_noEscape]
  simp only [Result.andThen]
  rw [Oper.upon_value]
  go_wp2
  rw [Lib.run_from_unsafe w ⟨b, 0, none⟩ Tryz.underlying159 Tryz.underlying86 hj hsh wlies]
  simp only [Result.andThen]
  rw [Oper.upon_value]
  go_wp2
  go_end0
  exact ⟨rfl, rfl⟩

theorem check_any (B b : Nat) (bs : List Value) (w : World) (h : Lib.IsBuilder WT 5 B b bs w) :
    Calls Tryz.prog 84 #[.pointer (some ⟨b, 0, none⟩)] w fun e w' => e = .returned (.tuple #[]) ∧ (Lib.BuilderAt WT 5 B b (.pointer (some ⟨b, 0, none⟩)) bs w' ∧ Below B w w' ∧ KeepsT b w w') := by
  rcases h with h | h
  · refine (check_fresh b w h.cell0 h.shape h.frozen0).mono ?_
    rintro e w' ⟨rfl, rfl⟩
    exact ⟨rfl, h.used _, (Below.refl B w).setCell (p := ⟨b, 0, none⟩) h.1 _, KeepsT.setCell _ _ _ _⟩
  · refine (check_used b w h.cell0).mono ?_
    rintro e w' ⟨rfl, rfl⟩
    exact ⟨rfl, h, Below.refl B _, KeepsT.refl _ _⟩

set_option maxHeartbeats 1000000 in
set_option maxRecDepth 100000 in
theorem len_any (B b : Nat) (bs : List Value) (w : World) (h : Lib.IsBuilder WT 5 B b bs w) :
    Calls Tryz.prog 73 #[.pointer (some ⟨b, 0, none⟩)] w fun e w' => e = .returned (.int .i64 bs.length) ∧ w = w' := by
  obtain ⟨p, hB, v, hbk, hown, hne⟩ : ∃ p, Lib.BuilderAt WT 5 B b p bs w := by
    rcases h with h | h
    · exact ⟨_, h⟩
    · exact ⟨_, h⟩
  obtain ⟨ao, cap, rfl⟩ : ∃ ao cap, v = .slice ao bs.length cap := by
    rcases hown.2 with ⟨hv, h0⟩ | ⟨g, cap, cur, hv, _⟩
    · exact ⟨none, 0, by rw [hv, h0]⟩
    · exact ⟨_, _, hv⟩
  have c1 : w.cell? ⟨b, 1, none⟩ = some (.slice ao bs.length cap) := by rw [Lib.cell_of_heap hbk]; rfl
  clear hbk hown hne h
  generalize bs.length = n at *
  go_enter Tryz.func73, Tryz.ntmps73
  go_wp2
  go_ret
  exact ⟨rfl, rfl⟩

set_option maxHeartbeats 2000000 in
set_option maxRecDepth 100000 in
theorem wbyte_any (B b : Nat) (bs : List Value) (c : Int) (w : World) (h : Lib.IsBuilder WT 5 B b bs w) (hlen : bs.length + 1 ≤ 140737488355328) (hBw : B ≤ w.heap.size) :
    Calls Tryz.prog 74 #[.pointer (some ⟨b, 0, none⟩), .int .u8 c] w fun e w' => e = .returned .nilIface ∧ (Lib.BuilderAt WT 5 B b (.pointer (some ⟨b, 0, none⟩)) (bs ++ [.int .u8 c]) w' ∧ Below B w w' ∧ KeepsT b w w') := by
  obtain ⟨i0, hi, hz0, hz1, hz2⟩ := info_parts binfo
  go_enter Tryz.func74, Tryz.ntmps74
  go_wp2_with fail
  refine (check_any B b bs _ h).mono ?_
  rintro e w1 ⟨rfl, h1, hb1, hk1⟩
  have HK1 := Lib.hid hk1
  clear hk1
  obtain ⟨hB, v, hbk, hown, hne⟩ := h1
  have c0 : w1.cell? ⟨b, 0, none⟩ = some (.pointer (some ⟨b, 0, none⟩)) := by rw [Lib.cell_of_heap hbk]; rfl
  have c1 : w1.cell? ⟨b, 1, none⟩ = some v := by rw [Lib.cell_of_heap hbk]; rfl
  go_wp2_with (at_builtin; refine wpList_append_own _ rfl _ _ 22 rfl B 5 i0 (.int .u8 0) 1 1 Tryz.underlying22 hi hz0 hz1 hz2 rfl (by decide) _ _ _ rfl (hown.alloc _) ⟨w1.heap.size, 0, none⟩ 1 1 [.int .u8 c] rfl rfl ?c1 ?c2 ?c3 ?c4 ?c5 ?_)
  case c1 =>
    intro j u hj
    match j, hj with
    | 0, hj => simp at hj; subst hj; simp [Addr.add]
  case c2 => intro u hu; simp at hu; subst hu; rfl
  case c3 => unfold maxLen; omega
  case c4 => omega
  case c5 => have := hb1.size; simp; omega
  intro v' w2 hown' hgrow _
  have hlt : b < w1.heap.size := by
    rcases Nat.lt_or_ge b w1.heap.size with h' | h'
    · exact h'
    · simp [Array.getElem?_eq_none h'] at hbk
  have hb2 : w2.heap[b]? = some (.cells #[.pointer (some ⟨b, 0, none⟩), v] WT (0, 0)) := by
    rw [hgrow.block b (by simp; omega) (fun e => hne e.symm), Lib.alloc_old w1 _ b hlt]
    exact hbk
  have d0 : w2.cell? ⟨b, 0, none⟩ = some (.pointer (some ⟨b, 0, none⟩)) := by rw [Lib.cell_of_heap hb2]; rfl
  have d1 : w2.cell? ⟨b, 1, none⟩ = some v := by rw [Lib.cell_of_heap hb2]; rfl
  have f1 : w2.frozen? ⟨b, 1, none⟩ = false := Lib.frozen_of_heap hb2 1
  obtain ⟨g, cap, rfl⟩ : ∃ g cap, v' = .slice (some ⟨g, 0, none⟩) (bs.length + 1) cap := by
    rcases hown'.2 with ⟨_, h0⟩ | ⟨g, cap, cur, hv, _⟩
    · omega
    · exact ⟨g, cap, hv⟩
  go_wp2
  go_ret
  refine ⟨rfl, ?_, ?_, ((HK1.out.trans (KeepsT.alloc _ _ _)).trans (KeepsT.grown (hown.alloc _) hgrow)).trans (KeepsT.setCell _ _ _ _)⟩
  · exact Lib.BuilderAt.put (T := WT) (e := 5) hB hb2 (bs' := bs ++ [.int .u8 c]) (by simpa using hown') (by decide)
  · exact ((hb1.alloc (by have := hb1.size; omega) _).grown hgrow (by have := hb1.size; simp; omega) (fun k hk => (hown.lt k hk).1)).setCell (p := ⟨b, 1, none⟩) hB _

set_option maxHeartbeats 2000000 in
set_option maxRecDepth 100000 in
theorem wstring_any (B b : Nat) (bs : List Value) (s : ByteArray) (w : World) (h : Lib.IsBuilder WT 5 B b bs w) (hlen : bs.length + s.size ≤ 140737488355328) (hBw : B ≤ w.heap.size) :
    Calls Tryz.prog 71 #[.pointer (some ⟨b, 0, none⟩), .string s] w fun e w' => e = .returned (.tuple #[.int .i64 s.size, .nilIface]) ∧ (Lib.BuilderAt WT 5 B b (.pointer (some ⟨b, 0, none⟩)) (bs ++ Lib.strCells s) w' ∧ Below B w w' ∧ KeepsT b w w') := by
  obtain ⟨i0, hi, hz0, hz1, hz2⟩ := info_parts binfo
  go_enter Tryz.func71, Tryz.ntmps71
  go_wp2_with fail
  refine (check_any B b bs _ h).mono ?_
  rintro e w1 ⟨rfl, h1, hb1, hk1⟩
  have HK1 := Lib.hid hk1
  clear hk1
  obtain ⟨hB, v, hbk, hown, hne⟩ := h1
  have c0 : w1.cell? ⟨b, 0, none⟩ = some (.pointer (some ⟨b, 0, none⟩)) := by rw [Lib.cell_of_heap hbk]; rfl
  have c1 : w1.cell? ⟨b, 1, none⟩ = some v := by rw [Lib.cell_of_heap hbk]; rfl
  go_wp2_with (at_builtin; refine Lib.wpList_append_own_string _ rfl _ _ 22 9 rfl B 5 i0 Tryz.underlying22 Tryz.underlying9 hi hz0 hz1 hz2 _ _ _ rfl hown s rfl ?c3 ?c4 ?c5 ?_)
  case c3 => unfold maxLen; omega
  case c4 => omega
  case c5 => have := hb1.size; omega
  intro v' w2 hown' hgrow _
  have hlt : b < w1.heap.size := by
    rcases Nat.lt_or_ge b w1.heap.size with h' | h'
    · exact h'
    · simp [Array.getElem?_eq_none h'] at hbk
  have hb2 : w2.heap[b]? = some (.cells #[.pointer (some ⟨b, 0, none⟩), v] WT (0, 0)) := by
    rw [hgrow.block b hlt (fun e => hne e.symm)]
    exact hbk
  have d0 : w2.cell? ⟨b, 0, none⟩ = some (.pointer (some ⟨b, 0, none⟩)) := by rw [Lib.cell_of_heap hb2]; rfl
  have d1 : w2.cell? ⟨b, 1, none⟩ = some v := by rw [Lib.cell_of_heap hb2]; rfl
  have f1 : w2.frozen? ⟨b, 1, none⟩ = false := Lib.frozen_of_heap hb2 1
  obtain ⟨ao, n', cap, rfl⟩ : ∃ ao n' cap, v' = .slice ao n' cap := by
    rcases hown'.2 with ⟨hv, _⟩ | ⟨g, cap, cur, hv, _⟩
    · exact ⟨_, _, _, hv⟩
    · exact ⟨_, _, _, hv⟩
  go_wp2
  go_ret2
  refine ⟨rfl, ?_, ?_, (HK1.out.trans (KeepsT.grown hown hgrow)).trans (KeepsT.setCell _ _ _ _)⟩
  · exact Lib.BuilderAt.put (T := WT) (e := 5) hB hb2 (bs' := bs ++ Lib.strCells s) (by simpa [Lib.strCells_length] using hown') (by decide)
  · exact (hb1.grown hgrow (by have := hb1.size; omega) (fun k hk => (hown.lt k hk).1)).setCell (p := ⟨b, 1, none⟩) hB _

set_option maxHeartbeats 1000000 in
set_option maxRecDepth 100000 in
/-- String of a builder that holds at least one byte. -/
theorem string_any (B b : Nat) (l : List UInt8) (w : World) (h : Lib.IsBuilder WT 5 B b (Lib.byteCells l) w) (h0 : l ≠ []) :
    Calls Tryz.prog 44 #[.pointer (some ⟨b, 0, none⟩)] w fun e w' => e = .returned (.string ⟨l.toArray⟩) ∧ Below B w w' := by
  obtain ⟨p, hB, v, hbk, hown, hne⟩ : ∃ p, Lib.BuilderAt WT 5 B b p (Lib.byteCells l) w := by
    rcases h with h | h
    · exact ⟨_, h⟩
    · exact ⟨_, h⟩
  have hl0 : l.length ≠ 0 := by simpa using h0
  rw [Lib.byteCells_length] at hown
  obtain ⟨g, cap, cur, rfl, hbg, hg, hnc, hcm, hcs, htake⟩ : ∃ g cap cur, v = .slice (some ⟨g, 0, none⟩) l.length cap ∧ B ≤ g ∧ w.heap[g]? = some (.cells cur 5 (0, 0)) ∧ l.length ≤ cap ∧ cap ≤ maxLen ∧ cur.size = cap * 1 ∧ cur.toList.take (l.length * 1) = Lib.byteCells l := by
    rcases hown.2 with ⟨_, hz⟩ | ⟨g, cap, cur, hv, r⟩
    · exact absurd hz hl0
    · exact ⟨g, cap, cur, hv, r⟩
  have c1 : w.drew.cell? ⟨b, 1, none⟩ = some (.slice (some ⟨g, 0, none⟩) l.length cap) := by
    have : w.drew.heap[b]? = some (.cells #[p, .slice (some ⟨g, 0, none⟩) l.length cap] WT (0, 0)) := hbk
    rw [Lib.cell_of_heap this]; rfl
  have hSD : (Builtin.unsafeSliceData_ #[22] 119 #[.slice (some ⟨g, 0, none⟩) l.length cap]).run Tryz.prog w.drew = .ok (.pointer (some ⟨g, 0, none⟩)) w.drew :=
    Lib.run_unsafeSliceData_row _ _ _ _ _ _ (by omega)
  have hUS : (Builtin.unsafeString_ #[119, 3] 9 #[.pointer (some ⟨g, 0, none⟩), .int .i64 l.length]).run Tryz.prog w.drew = .ok (.string ⟨l.toArray⟩) (w.drew.freeze ⟨g, 0, none⟩ l.length) := by
    refine Lib.run_unsafeString_row w.drew 119 3 9 5 Tryz.underlying119 (by kernel_rfl) g cur.size (by have hg' : w.drew.heap[g]? = some (.cells cur 5 (0, 0)) := hg; simp [World.shape?, hg']) l h0 (by omega) (by unfold maxLen at hcm; omega) ?_
    intro j x hx
    have := hown.cells (g := g) rfl j (.int .u8 x.toNat) (by simp [Lib.byteCells, hx])
    exact this
  have Hb := Lib.hid hbg
  clear hbk hg htake hown
  generalize l.length = n at *
  go_enter Tryz.func44, Tryz.ntmps44
  go_wp2
  go_region
  all_goals (go_wp2; go_ret; exact ⟨rfl, Lib.below_freeze (Below.drew (Below.refl B w)) (p := ⟨g, 0, none⟩) Hb.out _⟩)
end Go.Proofs.YtmmmebdgannpgaaGreatDoor
/- Small laws on worlds: what stays as it was when one block and new blocks are written. No conditions, no program. -/
namespace Go.Proofs.YtmmmebdgannpgaaGreatDoor
open Go Go.RowKit

/-- An int of Go is in its range. -/
def I64 (x : Int) : Prop := -9223372036854775808 ≤ x ∧ x ≤ 9223372036854775807
theorem I64.lo {x : Int} (h : I64 x) : -9223372036854775808 ≤ x := h.1
theorem I64.hi {x : Int} (h : I64 x) : x ≤ 9223372036854775807 := h.2
theorem I64.zero : I64 0 := by unfold I64; omega

/-- Below block number B, and but for block b, the world is as it was. -/
structure But (B b : Nat) (w w' : World) : Prop where
  os : w'.os = w.os
  tape : w'.tape = w.tape
  output : w'.output = w.output
  size : w.heap.size ≤ w'.heap.size
  block : ∀ k, k < B → k ≠ b → w'.heap[k]? = w.heap[k]?

theorem But.refl (B b : Nat) (w : World) : But B b w w := ⟨rfl, rfl, rfl, Nat.le_refl _, fun _ _ _ => rfl⟩
theorem But.trans {B b : Nat} {x y z : World} (h : But B b x y) (k : But B b y z) : But B b x z :=
  ⟨k.os.trans h.os, k.tape.trans h.tape, k.output.trans h.output, Nat.le_trans h.size k.size, fun i hi hn => (k.block i hi hn).trans (h.block i hi hn)⟩
theorem But.mono {B B' b : Nat} {w w' : World} (h : But B b w w') (hB : B' ≤ B) : But B' b w w' :=
  ⟨h.os, h.tape, h.output, h.size, fun k hk => h.block k (Nat.lt_of_lt_of_le hk hB)⟩
theorem But.of_below {B b : Nat} {w w' : World} (h : Below B w w') : But B b w w' := ⟨h.os, h.tape, h.output, h.size, fun k hk _ => h.block k hk⟩
/-- Where the one block lies at B or behind it, all below B is as it was. -/
theorem But.below {B b : Nat} {w w' : World} (h : But B b w w') (hb : B ≤ b) : Below B w w' := ⟨h.os, h.tape, h.output, h.size, fun k hk => h.block k hk (by omega)⟩
theorem But.drewN {B b : Nat} {a w : World} (h : But B b a w) (n : Nat) : But B b a (w.drewN n) := ⟨h.os, h.tape, h.output, h.size, h.block⟩
theorem But.drew {B b : Nat} {a w : World} (h : But B b a w) : But B b a w.drew := ⟨h.os, h.tape, h.output, h.size, h.block⟩
theorem But.alloc {B b : Nat} {a w : World} (h : But B b a w) (hB : B ≤ w.heap.size) (o : Obj) : But B b a (w.alloc o) :=
  h.trans ⟨rfl, rfl, rfl, by simp, fun k hk _ => Below.heap_alloc _ _ _ (by omega)⟩
theorem But.setCell {B b : Nat} {a w : World} (h : But B b a w) {p : Addr} (hp : B ≤ p.block ∨ p.block = b) (u : Value) : But B b a (w.setCell p u) :=
  h.trans ⟨rfl, rfl, rfl, by simp [World.setCell], fun k hk hn => Below.heap_setCell _ _ _ _ (by omega)⟩
theorem But.cell {B b : Nat} {w w' : World} (h : But B b w w') {p : Addr} (hp : p.block < B) (hn : p.block ≠ b) : w'.cell? p = w.cell? p :=
  World.cell?_of_block (w := w) (h.block p.block hp hn)
theorem But.frozen {B b : Nat} {w w' : World} (h : But B b w w') {p : Addr} (hp : p.block < B) (hn : p.block ≠ b) : w'.frozen? p = w.frozen? p :=
  World.frozen?_of_block (w := w) (h.block p.block hp hn)

theorem below_then {w wx w' : World} (h : Below w.heap.size w wx) (hb : Below wx.heap.size wx w') : Below w.heap.size w w' := h.trans (hb.mono h.size)
theorem cell_then {wx w' : World} {a : Addr} {v : Value} (hb : Below wx.heap.size wx w') (h : wx.cell? a = some v) : w'.cell? a = some v := by
  rw [hb.cell (World.block_lt_of_cell? _ _ h)]; exact h
/-- The rules that a walk needs behind a contract that ends in Below. -/
theorem bcell {W w1 : World} (hb : Below W.heap.size W w1) : (∀ b o, b < W.heap.size → w1.cell? ⟨b, o, none⟩ = W.cell? ⟨b, o, none⟩) ∧ (∀ b o, b < W.heap.size → w1.frozen? ⟨b, o, none⟩ = W.frozen? ⟨b, o, none⟩) :=
  ⟨fun b o h => hb.cell (p := ⟨b, o, none⟩) h, fun b o h => hb.frozen (p := ⟨b, o, none⟩) h⟩
/-- The rules that a walk needs behind a contract that ends in But. -/
theorem ucell {b : Nat} {W w1 : World} (hb : But W.heap.size b W w1) : (∀ k o, k < W.heap.size → k ≠ b → w1.cell? ⟨k, o, none⟩ = W.cell? ⟨k, o, none⟩) ∧ (∀ k o, k < W.heap.size → k ≠ b → w1.frozen? ⟨k, o, none⟩ = W.frozen? ⟨k, o, none⟩) :=
  ⟨fun k o h hn => hb.cell (p := ⟨k, o, none⟩) h hn, fun k o h hn => hb.frozen (p := ⟨k, o, none⟩) h hn⟩

end Go.Proofs.YtmmmebdgannpgaaGreatDoor
/- words of the monitor's writer, and Itoa: what is written. Lengths stay below 2^47. -/
namespace Go.Proofs.YtmmmebdgannpgaaGreatDoor
open Go Go.RowKit

/-- The library's table of powers lies where it should. -/
def Tab (w : World) : Prop := Lib.TabIs Tryz.prog w "internal/strconv.uint64pow10" .u64 Lib.pow10Tab ∧ 1 < w.heap.size
theorem gPow : Tryz.prog.globalNamed "internal/strconv.uint64pow10" = some 1 := by kernel_rfl
theorem Tab.below {w w' : World} (h : Tab w) (hb : Below w.heap.size w w') : Tab w' := ⟨Joins.tab_stays gPow h.1 hb (Nat.le_refl _), by have := hb.size; have := h.2; omega⟩

theorem itoa_any (n : Int) (hn : I64 n) (w : World) (hT : Tab w) :
    Calls Tryz.prog 32 #[.int .i64 n] w fun e w' => e = .returned (.string ⟨(Lib.itoa n).toArray⟩) ∧ Below w.heap.size w w' := by
  refine (Tryz.strconv_Itoa n hn.1 hn.2 w hT.1).mono ?_
  rintro e w' ⟨rfl, k, os, rfl⟩
  exact ⟨rfl, Lib.below_grow _ _ (Nat.le_refl _) _ _⟩

/-- Words with single blanks between them, behind what has been written. -/
def wordsOf : List UInt8 → List (List UInt8) → List UInt8
  | a, [] => a
  | a, s :: ss => wordsOf (if a = [] then s else a ++ 32 :: s) ss
theorem wordsOf_snoc (a : List UInt8) (ss : List (List UInt8)) (s : List UInt8) : wordsOf a (ss ++ [s]) = if wordsOf a ss = [] then s else wordsOf a ss ++ 32 :: s := by
  induction ss generalizing a with
  | nil => rfl
  | cons x l ih => exact ih _
theorem wordsOf_len (a : List UInt8) (ss : List (List UInt8)) : (wordsOf a ss).length ≤ a.length + (ss.map (fun s => s.length + 1)).sum := by
  induction ss generalizing a with
  | nil => simp [wordsOf]
  | cons x l ih =>
    have := ih (if a = [] then x else a ++ 32 :: x)
    unfold wordsOf
    simp only [List.map_cons, List.sum_cons]
    have h : (if a = [] then x else a ++ 32 :: x).length ≤ a.length + (x.length + 1) := by
      split
      · omega
      · rw [List.length_append, List.length_cons]; omega
    omega

theorem byteCells_append (a b : List UInt8) : Lib.byteCells (a ++ b) = Lib.byteCells a ++ Lib.byteCells b := by simp [Lib.byteCells]
theorem strCells_eq (s : List UInt8) : Lib.strCells ⟨s.toArray⟩ = Lib.byteCells s := rfl

/-- The block c of strings. -/
def StrsAt (w : World) (c : Nat) (ss : List (List UInt8)) : Prop := ∃ cs fr, w.heap[c]? = some (.cells cs 9 fr) ∧ ∀ i, i < ss.length → cs[i]? = some (.string ⟨(ss.getD i []).toArray⟩)
theorem StrsAt.cell {w : World} {c : Nat} {ss : List (List UInt8)} (h : StrsAt w c ss) {i : Nat} (hi : i < ss.length) : w.cell? ⟨c, i, none⟩ = some (.string ⟨(ss.getD i []).toArray⟩) := by
  obtain ⟨cs, fr, h1, h2⟩ := h
  simp [World.cell?, h1, h2 i hi]
theorem StrsAt.keeps {w w' : World} {b c : Nat} {ss : List (List UInt8)} (h : StrsAt w c ss) (hk : KeepsT b w w') (hc : c ≠ b) : StrsAt w' c ss := by
  obtain ⟨cs, fr, h1, h2⟩ := h
  exact ⟨cs, fr, hk c cs _ fr h1 (by decide) hc, h2⟩

/-- What has been written, and that nothing else has turned. -/
def Wrote (B b : Nat) (l : List UInt8) (w w' : World) : Prop := Lib.IsBuilder WT 5 B b (Lib.byteCells l) w' ∧ Below B w w' ∧ KeepsT b w w'

set_option maxRecDepth 100000 in
set_option maxHeartbeats 2000000 in
theorem words_any (B b c n cap : Nat) (l : List UInt8) (ss : List (List UInt8)) (w : World) (h : Lib.IsBuilder WT 5 B b (Lib.byteCells l) w) (hs : StrsAt w c ss) (hn : ss.length = n) (hcb : c ≠ b)
    (hlen : l.length + (ss.map (fun s => s.length + 1)).sum ≤ 100000000000) (hB : B ≤ w.heap.size) :
    Calls Tryz.prog 42 #[.pointer (some ⟨b, 0, none⟩), .slice (some ⟨c, 0, none⟩) n cap] w fun e w' => e = .returned (.pointer (some ⟨b, 0, none⟩)) ∧ Wrote B b (wordsOf l ss) w w' := by
  have Hs := Lib.hid hs
  have Hn := Lib.hid hn
  have Hlen := Lib.hid hlen
  have H0 : Hid (Wrote B b (wordsOf l (ss.take 0)) w w) := ⟨h, Below.refl _ _, KeepsT.refl _ _⟩
  have hn9 : n ≤ 1000000000000 := by
    have : ss.length ≤ (ss.map (fun s => s.length + 1)).sum := by
      clear hs hlen hn Hs Hlen H0 Hn
      induction ss with
      | nil => simp
      | cons x l ih => simp only [List.length_cons, List.map_cons, List.sum_cons]; omega
    omega
  clear hs hn hlen h
  go_enter Tryz.func42, Tryz.ntmps42
  go_wp2_with fail
  go_loopw [9] (fun x wr => ∃ k : Nat, k ≤ n ∧ x = .int .i64 k ∧ Hid (Wrote B b (wordsOf l (ss.take k)) w wr)) (fun x _ => (n - intOf x).toNat)
  case atStart => exact ⟨0, by omega, rfl, H0⟩
  case round =>
    obtain ⟨k, hk, rfl, hW⟩ := hrel
    by_cases hlt : k < n
    · have hc := (Hs.out.keeps hW.out.2.2 hcb).cell (i := k) (by have := Hn.out; omega)
      have Hsn := Lib.hid (wordsOf_snoc l (ss.take k) (ss.getD k []))
      have Htk : Hid (ss.take (k + 1) = ss.take k ++ [ss.getD k []]) := by
        unfold Hid
        have := Hn.out
        rw [List.take_succ_eq_append_getElem (by omega)]
        simp [List.getD_eq_getElem?_getD, show k < ss.length by omega]
      have Hl2 : Hid ((wordsOf l (ss.take (k + 1))).length ≤ 100000000000) := by
        unfold Hid
        refine Nat.le_trans (wordsOf_len l _) (Nat.le_trans ?_ Hlen.out)
        have : ((ss.take (k + 1)).map (fun s : List UInt8 => s.length + 1)).sum ≤ (ss.map (fun s : List UInt8 => s.length + 1)).sum := by
          conv => rhs; rw [← List.take_append_drop (k + 1) ss]
          rw [List.map_append, List.sum_append]; omega
        omega
      rw [← Htk.out] at Hsn
      have hsz := hW.out.2.1.size
      generalize hx : ss.getD k [] = x at *
      generalize hy : wordsOf l (ss.take (k + 1)) = y at *
      have HY := Lib.hid hy
      clear hy hx
      rcases Nat.eq_zero_or_pos (wordsOf l (ss.take k)).length with h0 | h0
      · have ha : wordsOf l (ss.take k) = [] := List.eq_nil_of_length_eq_zero h0
        rw [ha] at hW Hsn
        have Hyx := Lib.hid (Hsn.out.trans (if_pos rfl))
        clear h0 ha Hsn
        have L := Lib.hid (len_any B b _ wr hW.out.1)
        simp only [Lib.byteCells, List.map_nil, List.length_nil] at L
        go_wp2_with fail
        refine L.out.mono ?_
        rintro e w1 ⟨rfl, rfl⟩
        go_wp2_with fail
        refine (wstring_any B b [] ⟨x.toArray⟩ wr hW.out.1 (by have := Hl2.out; rw [Hyx.out] at this; simp [ByteArray.size]; omega) (by omega)).mono ?_
        rintro e w2 ⟨rfl, hb2, hB2, hK2⟩
        have HW2 : Hid (Wrote B b y w w2) := ⟨Or.inr (by rw [Hyx.out]; rw [strCells_eq] at hb2; exact hb2), hW.out.2.1.trans hB2, hW.out.2.2.trans hK2⟩
        clear hb2 hB2 hK2
        go_wp2_with fail
        go_roundw
        case rel => exact ⟨k + 1, by omega, by go_num, by unfold Hid; rw [HY.out]; exact HW2.out⟩
        case measure => simp [intOf]; omega
      · have ha : wordsOf l (ss.take k) ≠ [] := by intro h; rw [h] at h0; simp at h0
        have Hyx := Lib.hid (Hsn.out.trans (if_neg ha))
        have L := Lib.hid (len_any B b _ wr hW.out.1)
        rw [Lib.byteCells_length] at L
        have hpos : (0 : Int) < ((wordsOf l (ss.take k)).length : Int) := by omega
        generalize wordsOf l (ss.take k) = z at *
        have Hz : Hid (z.length + 1 + x.length ≤ 100000000000) := by unfold Hid; have := Hl2.out; rw [Hyx.out] at this; simp at this; omega
        generalize hzl : z.length = zl at *
        have Hzl := Lib.hid hzl
        clear h0 ha Hsn hzl
        go_wp2_with fail
        refine L.out.mono ?_
        rintro e w1 ⟨rfl, rfl⟩
        go_wp2_with fail
        refine (wbyte_any B b _ 32 wr hW.out.1 (by rw [Lib.byteCells_length, Hzl.out]; have := Hz.out; omega) (by omega)).mono ?_
        rintro e w2 ⟨rfl, hb2, hB2, hK2⟩
        have HW2 : Hid (Wrote B b (z ++ [32]) w w2) := ⟨Or.inr (by rw [byteCells_append]; exact hb2), hW.out.2.1.trans hB2, hW.out.2.2.trans hK2⟩
        have hsz2 := HW2.out.2.1.size
        clear hb2 hB2 hK2
        go_wp2_with fail
        refine (wstring_any B b _ ⟨x.toArray⟩ w2 HW2.out.1 (by rw [Lib.byteCells_length]; have := Hz.out; simp [ByteArray.size, Hzl.out]; omega) (by omega)).mono ?_
        rintro e w3 ⟨rfl, hb3, hB3, hK3⟩
        have HW3 : Hid (Wrote B b y w w3) := ⟨Or.inr (by rw [Hyx.out]; rw [strCells_eq, ← byteCells_append, List.append_assoc] at hb3; exact hb3), HW2.out.2.1.trans hB3, HW2.out.2.2.trans hK3⟩
        clear hb3 hB3 hK3
        go_wp2_with fail
        go_roundw
        case rel => exact ⟨k + 1, by omega, by go_num, by unfold Hid; rw [HY.out]; exact HW3.out⟩
        case measure => simp [intOf]; omega
    · obtain rfl : k = n := by omega
      have Ht : Hid (ss.take k = ss) := List.take_of_length_le (by have := Hn.out; omega)
      go_wp2_with fail
      go_ret
      exact ⟨rfl, by have := hW.out; rw [Ht.out] at this; exact this⟩
end Go.Proofs.YtmmmebdgannpgaaGreatDoor
/- slices.Chunk of a list of at most 300 ints, by ten: the pieces come in order. -/
namespace Go.Proofs.YtmmmebdgannpgaaGreatDoor
open Go Go.RowKit Go.Shelf

attribute [local go_sem] Oper.semAt_some

theorem Below.drewN' {B : Nat} {w w' : World} (h : Below B w w') (n : Nat) : Below B w (w'.drewN n) := ⟨h.os, h.tape, h.output, h.size, h.block⟩
/-- What a round of the loop over the pieces must keep: what lay below n₀, and the closure's two boxes. -/
def KpC (s n n₀ : Nat) (W W' : World) : Prop := Below n₀ W W' ∧ ∀ v k, k = s ∨ k = n → W.cell? ⟨k, 0, none⟩ = some v → W'.cell? ⟨k, 0, none⟩ = some v
theorem KpC.refl (s n n₀ : Nat) (W : World) : KpC s n n₀ W W := ⟨Below.refl _ _, fun _ _ _ h => h⟩
theorem KpC.trans {s n n₀ : Nat} {A B C : World} (h : KpC s n n₀ A B) (k : KpC s n n₀ B C) : KpC s n n₀ A C := ⟨h.1.trans k.1, fun v i hi e => k.2 v i hi (h.2 v i hi e)⟩
theorem KpC.putObj {s n n₀ : Nat} {w : World} (hn : n₀ ≤ w.heap.size) (W : World) (l : Nat) (o o' : Obj) (hl : w.heap.size ≤ l) (h : W.heap[l]? = some o) (ho : o.isCells = false) (_hw : o.isWalk = false) : KpC s n n₀ W (W.putObj l o') :=
  ⟨belowK_b hn W l o o' hl h ho _hw, fun _ _ _ e => cell_kept e (grownBy_putObj' W l o') (fun r e' => by cases e'; exact ⟨o, h, ho⟩)⟩
/-- The number k piece of a slice. -/
def piece (b off len : Nat) (k : Nat) : Array Value := #[.slice (some ⟨b, off + 10 * k, none⟩) (min 10 (len - 10 * k)) (min 10 (len - 10 * k))]

set_option maxRecDepth 100000 in
set_option maxHeartbeats 2000000 in
theorem chunk1_in (n : Nat) (hn : 1 ≤ n) (l Bs Bn n₀ b off len cap : Nat) (hlen : len ≤ 300) (hlc : len ≤ cap) (hcap : cap ≤ 9223372036854775807) (J Jx : List Nat → World → Prop) (hJd : ∀ pre W q, J pre W → J pre (W.drewN q))
    (hY : ∀ pre x W, J pre W → pre.length < (len + 9) / 10 → 10 * x < len → YieldAt Fence.wide (n - 1) Tryz.prog l (piece b off len x) W fun e W' =>
      (e = .returned (.bool true) ∧ J (pre ++ [x]) W' ∧ KpC Bs Bn n₀ W W') ∨ (e = .returned (.bool false) ∧ Jx (pre ++ [x]) W'))
    (W : World) (hs : W.cell? ⟨Bs, 0, none⟩ = some (.slice (some ⟨b, off, none⟩) len cap)) (hten : W.cell? ⟨Bn, 0, none⟩ = some (.int .i64 10)) (h0 : J [] W) :
    CallsIn Fence.wide n Tryz.prog 79 #[.func (.yield l) #[] #[], .pointer (some ⟨Bs, 0, none⟩), .pointer (some ⟨Bn, 0, none⟩)] W fun e W' => (∃ v, e = .returned v) ∧
      ((∃ ys, ys = List.range ((len + 9) / 10) ∧ J ys W') ∨ (∃ pre, (∃ k, k ≤ (len + 9) / 10 ∧ pre = List.range k) ∧ Jx pre W')) := by
  refine callsIn_of_wp Tryz.func79 rfl trivial ?_ rfl
  simp only [Tryz.ntmps79, List.size_toArray, List.length_cons, List.length_nil, Nat.reduceAdd, Nat.reduceSub, Array.replicate_succ, Array.replicate_zero, List.push_toArray, List.append_toArray, List.nil_append, List.cons_append]
  gi_wp2
  gi_loopw [4] (fun i wr => ∃ k : Nat, k ≤ (len + 9) / 10 ∧ i = .int .i64 ((10 * k : Nat) : Int) ∧ J (List.range k) wr ∧ KpC Bs Bn n₀ W wr)
    (fun i _ => len + 10 - (intOf i).toNat)
  case atStart => exact ⟨0, Nat.zero_le _, rfl, h0, KpC.refl _ _ _ _⟩
  case round =>
    obtain ⟨k, hk, rfl, hJs, hnx⟩ := hrel
    have hs' : wr.cell? ⟨Bs, 0, none⟩ = some (.slice (some ⟨b, off, none⟩) len cap) := hnx.2 _ _ (.inl rfl) hs
    have ht' : wr.cell? ⟨Bn, 0, none⟩ = some (.int .i64 10) := hnx.2 _ _ (.inr rfl) hten
    by_cases hlt : 10 * k < len
    · obtain ⟨m, hm⟩ : ∃ m, min 10 (len - 10 * k) = m := ⟨_, rfl⟩
      have HY := Lib.hid (fun q => hY (List.range k) k (wr.drewN q) (hJd _ _ _ hJs) (by simp; omega) hlt)
      simp only [piece, hm] at HY
      have hks : 10 * (k + 1) = 10 * k + 10 := by omega
      have Hks := Lib.hid hks
      clear hks
      have hk1 : k + 1 ≤ (len + 9) / 10 := by omega
      generalize 10 * k = i at *
      have em : min (10 : Int) ((len - i : Nat) : Int) = (m : Int) := by omega
      have Hm := Lib.hid hm
      have e1 : (0 : Int) ≤ (i : Int) := by omega
      have e2 : (i : Int) ≤ len := by omega
      have e3 : (i : Int) ≤ cap := by omega
      have e4 : IntKind.i64.wrap (i : Int) = i := IntWalk.i64_in _ (by omega)
      have e5 : (i : Int) + (m : Int) ≤ cap := by omega
      have e6 : (0 : Int) ≤ (m : Int) := by omega
      have hml : m ≤ len := by omega
      clear hm
      gi_wp2
      gi_quiet (fail)
      rename_i nq _
      obtain ⟨fn, tmps, assign, body, hy, hR⟩ := HY.out nq
      gi_wp2
      refine hR.mono ?_
      rintro e W3 (⟨rfl, hJ3, hk3⟩ | ⟨rfl, hJx3⟩)
      · have hk3' : KpC Bs Bn n₀ wr W3 := ⟨(Below.drewN' (Below.refl n₀ wr) nq).trans hk3.1, fun v k hk e => hk3.2 v k hk (by rw [World.cell?_drewN]; exact e)⟩
        have ht3 : W3.cell? ⟨Bn, 0, none⟩ = some (.int .i64 10) := hk3'.2 _ _ (.inr rfl) ht'
        gi_wp2
        go_roundw
        case rel => exact ⟨k + 1, hk1, by rw [Hks.out]; go_num, by rw [List.range_succ]; exact hJ3, hnx.trans hk3'⟩
        case measure => simp [intOf]; omega
      · gi_wp2
        refine bodyPost_ret (results_none rfl _ _ _) rfl ?_
        exact ⟨⟨_, rfl⟩, .inr ⟨_, ⟨k + 1, hk1, (List.range_succ).symm⟩, hJx3⟩⟩
    · gi_wp2
      go_end0
      obtain rfl : k = (len + 9) / 10 := by omega
      exact ⟨⟨_, rfl⟩, .inl ⟨_, rfl, hJs⟩⟩

set_option maxRecDepth 100000 in
set_option maxHeartbeats 1000000 in
theorem chunk1_nil (n : Nat) (l Bs Bn : Nat) (a : Option Addr) (c : Nat) (J : List Nat → World → Prop) (W : World) (hs : W.cell? ⟨Bs, 0, none⟩ = some (.slice a 0 c)) (h0 : J [] W) :
    CallsIn Fence.wide n Tryz.prog 79 #[.func (.yield l) #[] #[], .pointer (some ⟨Bs, 0, none⟩), .pointer (some ⟨Bn, 0, none⟩)] W fun e W' => (∃ v, e = .returned v) ∧ J [] W' := by
  refine callsIn_of_wp Tryz.func79 rfl trivial ?_ rfl
  simp only [Tryz.ntmps79, List.size_toArray, List.length_cons, List.length_nil, Nat.reduceAdd, Nat.reduceSub, Array.replicate_succ, Array.replicate_zero, List.push_toArray, List.append_toArray, List.nil_append, List.cons_append]
  gi_wp2
  gi_loopw [4] (fun i wr => i = .int .i64 0 ∧ J [] wr ∧ wr = W) (fun _ _ => 0)
  case atStart => exact ⟨rfl, h0, rfl⟩
  case round =>
    obtain ⟨rfl, hJs, rfl⟩ := hrel
    gi_wp2
    go_end0
    exact ⟨⟨_, rfl⟩, hJs⟩

/-- A slice of ints that reads as zs, in a block below n₀, or nil. -/
def IntsIn (n₀ : Nat) (W : World) (v : Value) (zs : List Int) : Prop :=
  (∃ a c, v = .slice a 0 c ∧ zs = []) ∨ ∃ b off cap, v = .slice (some ⟨b, off, none⟩) zs.length cap ∧ zs.length ≤ cap ∧ cap ≤ 9223372036854775807 ∧ b < n₀ ∧ ∀ j, j < zs.length → W.cell? ⟨b, off + j, none⟩ = some (.int .i64 (zs.getD j 0))
theorem IntsIn.below {n₀ : Nat} {A B : World} {v : Value} {zs : List Int} (h : Below n₀ A B) : IntsIn n₀ A v zs → IntsIn n₀ B v zs
  | .inl e => .inl e
  | .inr ⟨b, off, cap, e, h1, h2, hb, hc⟩ => .inr ⟨b, off, cap, e, h1, h2, hb, fun j hj => (h.cell (p := ⟨b, off + j, none⟩) hb).trans (hc j hj)⟩

/-- Where the slice lies. -/
def atOf : Value → Nat × Nat
  | .slice (some a) _ _ => (a.block, a.off)
  | _ => (0, 0)

/-- The numbers of the pieces. -/
abbrev PieceNo (zs : List Int) := { k : Nat // 10 * k < zs.length }
theorem chunk_stops (n : Nat) (hn : 1 ≤ n) (Bs Bn n₀ : Nat) (v : Value) (zs : List Int) (hlen : zs.length ≤ 300) (w : World) (hBs : Bs < w.heap.size) (hBn : Bn < w.heap.size) (hn₀ : n₀ ≤ w.heap.size)
    (hs : w.cell? ⟨Bs, 0, none⟩ = some v) (hten : w.cell? ⟨Bn, 0, none⟩ = some (.int .i64 10)) (hI : IntsIn n₀ w v zs) :
    SeqStopsK Fence.wide n Tryz.prog 79 #[.pointer (some ⟨Bs, 0, none⟩), .pointer (some ⟨Bn, 0, none⟩)] (fun x : PieceNo zs => piece (atOf v).1 (atOf v).2 zs.length x.1) (KpC Bs Bn n₀) (fun ys => ys.map (·.1) = List.range ((zs.length + 9) / 10))
      (fun _ => True) ((zs.length + 9) / 10) w := fun l J Jx W hW hJ _ hY h0 => by
  have hs' := (hW.cell (p := ⟨Bs, 0, none⟩) hBs).trans hs
  have ht' := (hW.cell (p := ⟨Bn, 0, none⟩) hBn).trans hten
  rcases hI.below (hW.mono hn₀) with ⟨a, c, rfl, rfl⟩ | ⟨b, off, cap, rfl, hlc, hcap, hb, hcs⟩
  · exact (chunk1_nil n l Bs Bn a c (fun _ W => J [] W) W hs' h0).mono fun e W' ⟨he, hj⟩ => ⟨he, .inl ⟨[], rfl, hj⟩⟩
  · refine (chunk1_in n hn l Bs Bn n₀ b off zs.length cap hlen hlc hcap (fun pre W => ∃ p : List (PieceNo zs), p.map (·.1) = pre ∧ J p W) (fun pre W => ∃ p : List (PieceNo zs), p.map (·.1) = pre ∧ Jx p W)
      (fun pre W' q ⟨p, e, h⟩ => ⟨p, e, hJ p W' (W'.drewN q) none h ⟨rfl, rfl, rfl, Nat.le_refl _, fun _ _ _ => rfl⟩ (fun r e => by cases e)⟩) ?_ W hs' ht' ⟨[], rfl, h0⟩).mono ?_
    · rintro pre x W1 ⟨p, rfl, hp⟩ hl hx
      refine YieldAt.mono (hY p ⟨x, hx⟩ W1 hp (by simpa using hl)) ?_
      rintro e W' (⟨rfl, h1, h2⟩ | ⟨rfl, h1⟩)
      · exact .inl ⟨rfl, ⟨_, by simp, h1⟩, h2⟩
      · exact .inr ⟨rfl, ⟨_, by simp, h1⟩⟩
    · rintro e W' ⟨he, ⟨ys, rfl, p, h1, h2⟩ | ⟨pre, _, p, h1, h2⟩⟩
      · exact ⟨he, .inl ⟨p, h1, h2⟩⟩
      · exact ⟨he, .inr ⟨p, trivial, h2⟩⟩

set_option maxHeartbeats 1000000 in
/-- Chunk boxes its two arguments. -/
theorem chunk_any (a : Option Addr) (len cap : Nat) (w : World) :
    Calls Tryz.prog 61 #[.slice a len cap, .int .i64 10] w fun e w' => e = .returned (.func (.func 79) #[] #[.pointer (some ⟨w.heap.size, 0, none⟩), .pointer (some ⟨w.heap.size + 1, 0, none⟩)]) ∧
      w' = (w.alloc (.cells #[.slice a len cap] 34)).alloc (.cells #[.int .i64 10] 3) := by
  have hmf : ∀ (fn : Fn) (first cap : Array Value) (w : World), (Instr.makeFunc fn first cap).run Tryz.prog w = .ok (.func fn first cap) w := fun _ _ _ _ => rfl
  go_enter Tryz.func61, Tryz.ntmps61
  go_wp2
  go_ret
  exact ⟨rfl, rfl⟩
end Go.Proofs.YtmmmebdgannpgaaGreatDoor
/- Map of the monitor returns the lines of a field of at most 300 ints. -/
namespace Go.Proofs.YtmmmebdgannpgaaGreatDoor
open Go Go.RowKit Go.Shelf

attribute [local go_sem] Oper.semAt_some

theorem divided_any (n : Int) (hn : I64 n) (w : World) :
    Calls Tryz.prog 62 #[.int .i64 n, .int .i64 256] w fun e w' => e = .returned (.int .i64 (n / 256)) ∧ w = w' := by
  unfold I64 at hn
  have hr : n.tmod 256 = n - 256 * n.tdiv 256 := by have := Int.mul_tdiv_add_tmod n 256; omega
  by_cases h : n.tmod 256 < 0
  · have hq : n / 256 = n.tdiv 256 - 1 := by
      have h1 : n < 0 := by
        rcases Int.lt_or_le n 0 with q | q
        · exact q
        · have := Int.tmod_nonneg 256 q; omega
      have := Int.lt_tmod_of_pos n (show (0 : Int) < 256 by omega)
      omega
    rw [hq]
    have b1 : -9223372036854775808 < n.tdiv 256 := by omega
    have b2 : n.tdiv 256 ≤ 9223372036854775807 := by omega
    clear hq hr
    go_enter Tryz.func62, Tryz.ntmps62
    go_wp2
    go_ret
    exact ⟨rfl, rfl⟩
  · have hq : n / 256 = n.tdiv 256 := by
      have := Int.tmod_lt_of_pos n (show (0 : Int) < 256 by omega)
      omega
    rw [hq]
    clear hq hr
    go_enter Tryz.func62, Tryz.ntmps62
    go_wp2
    go_ret
    exact ⟨rfl, rfl⟩

/-- The numbers of a piece, as words. -/
def pieceW (zs : List Int) (k : Nat) : List (List UInt8) := ((zs.drop (10 * k)).take 10).map fun z => Lib.itoa (z / 256)
/-- The line of a piece. -/
def lineOf (zs : List Int) (k : Nat) : List UInt8 := wordsOf [] (pieceW zs k)

theorem isb_below {B b : Nat} {bs : List Value} {w w' : World} (h : Lib.IsBuilder WT 5 B b bs w) (hb : Below w.heap.size w w') : Lib.IsBuilder WT 5 B b bs w' := by
  have key : ∀ p, Lib.BuilderAt WT 5 B b p bs w → Lib.BuilderAt WT 5 B b p bs w' := by
    rintro p ⟨h1, v, h2, h3, h4⟩
    refine ⟨h1, v, ?_, ?_, h4⟩
    · rw [hb.block b (Array.getElem?_eq_some_iff.1 h2).1]; exact h2
    · obtain ⟨a1, a2⟩ := h3
      refine ⟨a1, ?_⟩
      rcases a2 with a2 | ⟨g, cap, cur, e, hg, hh, r⟩
      · exact .inl a2
      · exact .inr ⟨g, cap, cur, e, hg, by rw [hb.block g (Array.getElem?_eq_some_iff.1 hh).1]; exact hh, r⟩
  exact h.imp (key _) (key _)

theorem itoa_ne (n : Int) : Lib.itoa n ≠ [] := by
  unfold Lib.itoa
  split
  · simp
  · intro h
    have := congrArg List.length h
    rw [Lib.decDigits_length] at this
    have : 1 ≤ Lib.nDigits n.toNat := by
      unfold Lib.nDigits; split <;> omega
    simp at *
    omega
theorem wordsOf_ne (a : List UInt8) (ss : List (List UInt8)) (h : a ≠ [] ∨ ss ≠ []) (hs : ∀ s ∈ ss, s ≠ []) : wordsOf a ss ≠ [] := by
  induction ss generalizing a with
  | nil => simpa [wordsOf] using h
  | cons x l ih =>
    unfold wordsOf
    refine ih _ (Or.inl ?_) (fun s hs' => hs s (by simp [hs']))
    split
    · exact hs x (by simp)
    · simp

theorem wordsOf_append (a : List UInt8) (x y : List (List UInt8)) : wordsOf a (x ++ y) = wordsOf (wordsOf a x) y := by
  induction x generalizing a with
  | nil => rfl
  | cons s l ih => exact ih _
theorem isb_lt {B b : Nat} {bs : List Value} {w : World} (h : Lib.IsBuilder WT 5 B b bs w) : b < w.heap.size := by
  rcases h with h | h <;> exact h.lt
theorem isb_alloc {B b : Nat} {bs : List Value} {w : World} (h : Lib.IsBuilder WT 5 B b bs w) (o : Obj) : Lib.IsBuilder WT 5 B b bs (w.alloc o) := isb_below h ((Below.refl _ _).alloc (Nat.le_refl _) o)
theorem strs_one (w : World) (s : List UInt8) : StrsAt (w.alloc (.cells #[.string ⟨s.toArray⟩] 9)) w.heap.size [s] := by
  refine ⟨_, _, World.alloc_heap_new w _, fun i hi => ?_⟩
  obtain rfl : i = 0 := by simp at hi; omega
  rfl

/-- An append whose run is known, as a step of a region that draws, inside a fence. -/
theorem stepIn_append_run {F : Fence} {n : Nat} {P : Program} {ops : Array Oper} {o : Oper} {a : Act} {w : World} {K : Act → World → Prop} {Q : Exit → Act → World → Prop} {E : Prop} (hgd : o.guard = none) (s x : Operand) (t : TypeId)
    (ho : o.op = .call { callee := .builtin .append, args := #[s, x], argTypes := #[t, t] }) (v xv v' : Value) (w' : World) (hs : a.eval s = v) (hx : a.eval x = xv)
    (hrun : (Builtin.append_ #[t, t] o.type #[v, xv]).run P w = .ok v' w') (h : K (a.put o.dst v') w') :
    if Region.wanted o (yielded ops a.tmps) = true then Oper.wpIn F n P o a w K Q else E := by
  have hw : Region.wanted o (yielded ops a.tmps) = true := by simp [Region.wanted, hgd]
  rw [if_pos hw]
  refine ⟨?_, ?_⟩
  · simp [Oper.about, ho, resolve, Target.leads, Sem.run_pure]
  · rw [Oper.semAt_plain F _ _ (by rw [ho]; intro c h; cases h)]
    unfold execOp
    simp only [ho, resolve, invoke, builtin, Sem.run_bind, Sem.run_pure, Result.andThen_ok, List.map_toArray, List.map_cons, List.map_nil, hs, hx, hrun]
    exact h
theorem grown_of_below {W w' : World} (h : Below W.heap.size W w') : W.grownBy w' none := ⟨h.os, h.tape, h.output, h.size, fun k hk _ => h.block k hk⟩
theorem keepsOthers_of_below {W w' : World} (h : Below W.heap.size W w') : KeepsOthers W w' := ⟨h.size, fun k _ hk _ => (h.block k (Array.getElem?_eq_some_iff.1 hk).1).trans hk⟩

/-- The lines as cells. -/
def linesV (zs : List Int) (pre : List Nat) : List Value := pre.map fun k => Value.string ⟨(lineOf zs k).toArray⟩
theorem strinfo : (Tryz.prog.info? 9).map (fun i => (i.zero, i.size, i.bytes)) = some (some (.string ⟨#[]⟩), 1, 16) := by kernel_rfl

/-- The lines of a field, new. -/
def NewMap (zs : List Int) (w : World) (e : Ending) (w' : World) : Prop := ∃ v, e = .returned v ∧ w'.ownsRow w.heap.size 9 1 v ((zs.length + 9) / 10) (linesV zs (List.range ((zs.length + 9) / 10))) ∧ Below w.heap.size w w'

set_option maxRecDepth 100000 in
set_option maxHeartbeats 4000000 in
theorem map_any (v : Value) (zs : List Int) (w : World) (hT : Tab w) (hI : IntsIn w.heap.size w v zs) (hz : ∀ z ∈ zs, I64 z) (hlen : zs.length ≤ 300) :
    Calls Tryz.prog 23 #[v] w (NewMap zs w) := by
  obtain ⟨i0, hi, hz0, hz1, hz2⟩ := info_parts strinfo
  obtain ⟨va, vl, vc, rfl⟩ : ∃ a l c, v = .slice a l c := by rcases hI with ⟨a, c, e, _⟩ | ⟨b, off, cap, e, _⟩ <;> exact ⟨_, _, _, e⟩
  refine (callsIn_wide (n := 9)).1 ?_
  refine callsIn_of_wp_marks Tryz.func23 rfl trivial ?_ rfl
  simp only [Tryz.ntmps23, List.size_toArray, List.length_cons, List.length_nil, Nat.reduceAdd, Nat.reduceSub, Array.replicate_succ, Array.replicate_zero, List.push_toArray, List.append_toArray, List.nil_append, List.cons_append]
  gi_wp2_with (refine ⟨trivial, ?_⟩; gi_at_call 61; refine (callsIn_wide.2 (chunk_any _ _ _ _)).mono ?_; rintro e w' ⟨rfl, rfl⟩)
  have hB0 : Below w.heap.size w (((w.alloc (.cells #[.slice none 0 0] 52)).alloc (.cells #[.slice va vl vc] 34)).alloc (.cells #[.int .i64 10] 3)) := (((Below.refl _ w).alloc (Nat.le_refl _) _).alloc (by simp) _).alloc (by simp; omega) _
  have bO : Boxed (((w.alloc (.cells #[.slice none 0 0] 52)).alloc (.cells #[.slice va vl vc] 34)).alloc (.cells #[.int .i64 10] 3)) w.heap.size 52 (.slice none 0 0) := ((Boxed.new w 52 (.slice none 0 0)).alloc _).alloc _
  have bS := (Boxed.new (w.alloc (.cells #[.slice none 0 0] 52)) 34 (.slice va vl vc)).alloc (.cells #[.int .i64 10] 3)
  rw [World.size_alloc] at bS
  have bN := Boxed.new ((w.alloc (.cells #[.slice none 0 0] 52)).alloc (.cells #[.slice va vl vc] 34)) 3 (.int .i64 10)
  rw [World.size_alloc, World.size_alloc] at bN
  obtain ⟨Wc, hWc⟩ : ∃ Wc, Wc = ((w.alloc (.cells #[.slice none 0 0] 52)).alloc (.cells #[.slice va vl vc] 34)).alloc (.cells #[.int .i64 10] 3) := ⟨_, rfl⟩
  have hWsz : Wc.heap.size = w.heap.size + 3 := by rw [hWc]; simp
  rw [← hWc] at hB0 bO bS bN ⊢
  obtain ⟨ab, ao, hab⟩ : ∃ ab ao, atOf (.slice va vl vc) = (ab, ao) := ⟨_, _, rfl⟩
  have hstops := chunk_stops 8 (by omega) (w.heap.size + 1) (w.heap.size + 1 + 1) w.heap.size (.slice va vl vc) zs hlen Wc (by omega) (by omega) (by omega) bS.cell bN.cell (hI.below hB0)
  rw [hab] at hstops
  have HB0 := Lib.hid hB0
  have HbO := Lib.hid bO
  have HW := Lib.hid hWc
  have Hcell : Hid (∀ x : PieceNo zs, ∀ j, j < min 10 (zs.length - 10 * x.1) → w.cell? ⟨ab, ao + 10 * x.1 + j, none⟩ = some (.int .i64 (((zs.drop (10 * x.1)).take 10).getD j 0))) := by
    intro x j hj
    rcases hI with ⟨_, _, e, rfl⟩ | ⟨b, off, cap, e, h1, h2, h3, h4⟩
    · have := x.2; simp at this
    · rw [e] at hab
      obtain ⟨rfl, rfl⟩ : b = ab ∧ off = ao := by simpa [atOf] using hab
      have := h4 (10 * x.1 + j) (by omega)
      rw [show off + 10 * x.1 + j = off + (10 * x.1 + j) by omega, this]
      simp [List.getD_eq_getElem?_getD, List.getElem?_take_of_lt (show j < 10 by omega)]
  have HT := Lib.hid hT
  have Hz := Lib.hid hz
  refine wpIn_rangeFunc_ownG rfl (by omega) (gf := 79) (lb := #[.pointer (some ⟨w.heap.size + 1, 0, none⟩), .pointer (some ⟨w.heap.size + 1 + 1, 0, none⟩)]) rfl trivial (enters_of Tryz.func79 (by kernel_rfl) rfl)
    hstops (fun h k => KpC.trans h k) (fun W l o o' hl h ho hw => KpC.putObj (w := Wc) (by omega) W l o o' hl h ho hw) (Below.refl _ _) (fun _ => rfl)
    (fun pre W => (∃ u, Boxed W w.heap.size 52 u ∧ W.ownsRow w.heap.size 9 1 u pre.length (linesV zs (pre.map (·.1))) ∧ True) ∧ (Boxed W (w.heap.size + 1) 34 (.slice va vl vc) ∧ Boxed W (w.heap.size + 1 + 1) 3 (.int .i64 10)) ∧ Below w.heap.size w W)
    (fun _ _ _ => False)
    (OwnFrom.and (Own.from (holdsRow_own w.heap.size w.heap.size 52 9 1 (fun pre : List (PieceNo zs) => pre.length) (fun pre => linesV zs (pre.map (·.1))) (fun _ _ => True)) _) (OwnFrom.and (OwnFrom.and (Own.from (boxed_own _ _ (fun _ => .slice va vl vc)) _) (Own.from (boxed_own _ _ (fun _ => .int .i64 10)) _)) (ownFrom_below (Nat.le_refl _) (by omega))))
    (fun _ _ _ _ _ hs _ _ => hs)
    ⟨⟨_, bO, World.ownsRow_nil _ _ _ _, trivial⟩, ⟨bS, bN⟩, hB0⟩
    (fun x => { tmps := #[.slice va vl vc, undef, .slice none 0 0, .pointer (some ⟨w.heap.size, 0, none⟩), .slice (some ⟨ab, ao + 10 * x.1, none⟩) (min 10 (zs.length - 10 * x.1)) (min 10 (zs.length - 10 * x.1)), undef, undef, undef, .slice va vl vc, .func (.func 79) #[] #[.pointer (some ⟨w.heap.size + 1, 0, none⟩), .pointer (some ⟨w.heap.size + 1 + 1, 0, none⟩)], .slice (some ⟨ab, ao + 10 * x.1, none⟩) (min 10 (zs.length - 10 * x.1)) (min 10 (zs.length - 10 * x.1)), undef, undef, undef, undef, undef, undef, undef, undef, undef, undef, undef, undef, undef, undef, undef, undef, undef, undef, undef, undef, undef, undef, undef], defers := [] }) ?assign ?body ?done ?stop
  case assign =>
    intro l x W K hK
    dsimp only [piece]
    gi_wp2
    exact hK
  case body =>
    rintro l pre x W ⟨⟨u, hv, hrow, _⟩, ⟨hS, hN⟩, hB⟩ hlt
    have hsz := hB.size
    have HBW := Lib.hid hB
    have HTW := Lib.hid (HT.out.below hB)
    have Hv := Lib.hid hv
    have Hrow := Lib.hid hrow
    have HS := Lib.hid hS
    have HN := Lib.hid hN
    have Hplen : Hid (pre.length < (zs.length + 9) / 10) := hlt
    obtain ⟨k, hk⟩ := x
    dsimp only
    have Hcl := Lib.hid (fun j hj => Hcell.out ⟨k, hk⟩ j hj)
    have Hss : Hid ((pieceW zs k).length = min 10 (zs.length - 10 * k)) := by unfold Hid pieceW; simp
    have Hsj : Hid (∀ j, j < min 10 (zs.length - 10 * k) → ∃ z, ((zs.drop (10 * k)).take 10).getD j 0 = z ∧ I64 z ∧ (pieceW zs k).getD j [] = Lib.itoa (z / 256)) := by
      intro j hj
      have hjl : j < ((zs.drop (10 * k)).take 10).length := by simp; omega
      refine ⟨_, rfl, ?_, ?_⟩
      · rw [List.getD_eq_getElem?_getD, List.getElem?_eq_getElem hjl]
        exact Hz.out _ (List.mem_of_mem_drop (List.mem_of_mem_take (List.getElem_mem hjl)))
      · unfold pieceW
        rw [List.getD_eq_getElem?_getD, List.getD_eq_getElem?_getD, List.getElem?_map, List.getElem?_eq_getElem hjl]; rfl
    obtain ⟨m, hm⟩ : ∃ m, min 10 (zs.length - 10 * k) = m := ⟨_, rfl⟩
    rw [hm] at Hss
    simp only [hm] at Hcl Hsj ⊢
    have hm10 : m ≤ 10 := by omega
    have hm1 : 1 ≤ m := by omega
    have HB1 : Hid (Lib.IsBuilder WT 5 W.heap.size W.heap.size (Lib.byteCells []) (W.alloc (.cells #[.pointer none, .slice none 0 0] WT))) :=
      Or.inl ⟨Nat.le_refl _, _, World.alloc_heap_new W _, World.ownsRow_nil _ _ _ _, by simp [Value.ownBlock]⟩
    have HB2 : Hid (Below W.heap.size W (W.alloc (.cells #[.pointer none, .slice none 0 0] WT))) := (Below.refl _ _).alloc (Nat.le_refl _) _
    clear hB hv hrow hm hS hN hlt
    gi_wp2
    generalize W.alloc (.cells #[.pointer none, .slice none 0 0] WT) = W1 at *
    have HBs := Lib.hid (show W.heap.size ≤ W1.heap.size from HB2.out.size)
    gi_loopw [15] (fun y wr => ∃ j : Nat, j ≤ m ∧ y = .int .i64 j ∧ Hid (Lib.IsBuilder WT 5 W.heap.size W.heap.size (Lib.byteCells (wordsOf [] ((pieceW zs k).take j))) wr) ∧ Hid (Below W.heap.size W wr) ∧ Hid ((wordsOf [] ((pieceW zs k).take j)).length ≤ 22 * j)) (fun y _ => m - (intOf y).toNat)
    case atStart => exact ⟨0, by omega, rfl, HB1, HB2, by simp [Hid, wordsOf]⟩
    case round =>
      obtain ⟨j, hj, rfl, hb, hbel, hwl⟩ := hrel
      by_cases hltj : j < m
      · have hcell0 := Hcl.out j hltj
        obtain ⟨z, hzj, hz64, hsj⟩ := Hsj.out j hltj
        rw [hzj] at hcell0
        have hcell : wr.cell? ⟨ab, ao + 10 * k + j, none⟩ = some (.int .i64 z) := cell_then (HBW.out.trans (hbel.out.mono hsz)) hcell0
        have Hcw := Lib.hid hcell
        have Hzs := Lib.hid hsj
        have D1 := Lib.hid (fun w' => divided_any z hz64 w')
        have hz2 : I64 (z / 256) := by unfold I64 at *; omega
        have I1 := Lib.hid (fun w' h => itoa_any (z / 256) hz2 w' h)
        have HTr := Lib.hid (HTW.out.below (hbel.out.mono (Nat.le_refl _)))
        have hszr := hbel.out.size
        have Htk : Hid ((pieceW zs k).take (j + 1) = (pieceW zs k).take j ++ [Lib.itoa (z / 256)]) := by
          unfold Hid
          have := Hss.out
          rw [List.take_succ_eq_append_getElem (by omega), ← hsj]
          simp [List.getD_eq_getElem?_getD, show j < (pieceW zs k).length by omega]
        clear hcell0 hzj hsj hz64
        have Hil := Lib.hid (Lib.itoa_length_le (z / 256) hz2.1 hz2.2)
        have Hwl2 : Hid ((wordsOf [] ((pieceW zs k).take (j + 1))).length ≤ 22 * (j + 1)) := by
          unfold Hid
          rw [Htk.out, wordsOf_snoc]
          have h1 := hwl.out
          have h2 := Hil.out
          split
          · omega
          · rw [List.length_append, List.length_cons]; omega
        generalize Lib.itoa (z / 256) = s at *
        gi_wp2
        refine ⟨trivial, ?_⟩
        refine (CallsIn.inRound l (callsIn_wide.2 (D1.out wr))).mono ?_
        rintro e w2 ⟨rfl, rfl⟩
        gi_wp2
        refine ⟨trivial, ?_⟩
        refine (CallsIn.inRound l (callsIn_wide.2 (I1.out wr HTr.out))).mono ?_
        rintro e w2 ⟨rfl, hbi⟩
        have hb2 := Lib.hid (isb_alloc (isb_below hb.out hbi) (.cells #[.string ⟨s.toArray⟩] 9))
        have hbel2 := Lib.hid ((hbel.out.trans (hbi.mono hszr)).alloc (by have := hbi.size; omega) (.cells #[.string ⟨s.toArray⟩] 9))
        have hne : w2.heap.size ≠ W.heap.size := by have := isb_lt hb.out; have := hbi.size; omega
        have hs1 := Lib.hid (strs_one w2 s)
        have Hwa := Lib.hid (words_any W.heap.size W.heap.size w2.heap.size 1 1 _ [s] _ hb2.out hs1.out rfl hne (by have := hwl.out; have := Hil.out; simp; omega) hbel2.out.size)
        clear hbi hne
        gi_wp2
        refine ⟨trivial, ?_⟩
        refine (CallsIn.inRound l (callsIn_wide.2 Hwa.out)).mono ?_
        rintro e w3 ⟨rfl, h1, h2, _⟩
        have hb3 : Hid (Lib.IsBuilder WT 5 W.heap.size W.heap.size (Lib.byteCells (wordsOf [] ((pieceW zs k).take (j + 1)))) w3) := by
          unfold Hid
          rw [Htk.out, wordsOf_append]; exact h1
        have hbel3 := Lib.hid (hbel2.out.trans h2)
        clear h1 h2
        gi_wp2
        go_roundw
        case rel => exact ⟨j + 1, by omega, by go_num, hb3, hbel3, Hwl2⟩
        case measure => simp [intOf]; omega
      · obtain rfl : j = m := by omega
        have HL : Hid (wordsOf [] (pieceW zs k) ≠ []) := wordsOf_ne _ _ (Or.inr (by intro h; have := Hss.out; rw [h] at this; simp at this; omega)) (fun s hs => by
          unfold pieceW at hs
          rw [List.mem_map] at hs
          obtain ⟨z, _, rfl⟩ := hs
          exact itoa_ne _)
        have hb' := hb.out
        rw [List.take_of_length_le (by have := Hss.out; omega)] at hb'
        have Hb' := Lib.hid hb'
        have HV := Lib.hid (Hv.out.kept (grown_of_below hbel.out) (by simp))
        have hld : wr.cell? ⟨w.heap.size, 0, none⟩ = some u := HV.out.cell
        have HST := Lib.hid (string_any W.heap.size W.heap.size (wordsOf [] (pieceW zs k)) wr.drew (isb_below Hb'.out (Below.refl _ _).drew) HL.out)
        have Hlin : Hid (lineOf zs k = wordsOf [] (pieceW zs k)) := rfl
        have Hfin : Hid (∀ w5, Below W.heap.size wr.drew w5 → w5.cell? ⟨w.heap.size, 0, none⟩ = some u ∧ (w5.alloc (.cells #[.string ⟨(wordsOf [] (pieceW zs k)).toArray⟩] 9)).cell? ⟨w.heap.size, 0, none⟩ = some u ∧ ∃ v' w6,
            Hid ((Builtin.append_ #[52, 52] 52 #[u, .slice (some ⟨w5.heap.size, 0, none⟩) 1 1]).run Tryz.prog (w5.alloc (.cells #[.string ⟨(wordsOf [] (pieceW zs k)).toArray⟩] 9)) = .ok v' w6) ∧
            w6.cell? ⟨w.heap.size, 0, none⟩ = some u ∧ w6.frozen? ⟨w.heap.size, 0, none⟩ = false ∧ (∃ a' l' c', v' = .slice a' l' c') ∧
            Hid (ownPostG Wc.heap.size (KpC (w.heap.size + 1) (w.heap.size + 1 + 1) w.heap.size)
              (fun (pre : List (PieceNo zs)) W => (∃ u, Boxed W w.heap.size 52 u ∧ W.ownsRow w.heap.size 9 1 u pre.length (linesV zs (pre.map (·.1))) ∧ True) ∧ (Boxed W (w.heap.size + 1) 34 (.slice va vl vc) ∧ Boxed W (w.heap.size + 1 + 1) 3 (.int .i64 10)) ∧ Below w.heap.size w W)
              (fun _ _ _ => False) (pre ++ [⟨k, hk⟩]) W .normal { tmps := #[], defers := [] } (w6.setCell ⟨w.heap.size, 0, none⟩ v'))) := by
          intro w5 hb5
          have hW5 : Below W.heap.size W w5 := hbel.out.trans ((Below.refl _ _).drew.trans hb5)
          have v5 := Hv.out.kept (grown_of_below hW5) (by simp)
          have s5 := HS.out.kept (grown_of_below hW5) (by simp)
          have n5 := HN.out.kept (grown_of_below hW5) (by simp)
          have r5 := Hrow.out.kept (grown_of_below hW5) (by cases Value.ownBlock u <;> simp)
          have hsz5 := hW5.size
          obtain ⟨v', w6, hrun, hown', hgrow, _⟩ := run_append_own (P := Tryz.prog) (w5.alloc (.cells #[.string ⟨(wordsOf [] (pieceW zs k)).toArray⟩] 9)) w.heap.size 52 52 9 i0 (.string ⟨#[]⟩) 1 16 Tryz.underlying52 hi hz0 hz1 hz2 rfl (by decide)
            u pre.length _ (r5.alloc _) ⟨w5.heap.size, 0, none⟩ 1 1 [.string ⟨(wordsOf [] (pieceW zs k)).toArray⟩] rfl (cell_one_new _ _ _) (by simp [Value.oneCell']) (by have := Hplen.out; unfold maxLen; omega) (by have := Hplen.out; omega) (by simp; omega)
          obtain ⟨g', c', rfl⟩ := ownsRow_succ hown'
          obtain ⟨hv1, hv2, hr2, hk2, hb2⟩ := v5.appended (by decide) r5 (by omega) (Nat.le_refl _) hown' hgrow
          have s6 := ((s5.alloc (.cells #[.string ⟨(wordsOf [] (pieceW zs k)).toArray⟩] 9)).kept hgrow (s5.not_row (by decide) r5)).other (B' := w.heap.size) (by omega) (.slice (some ⟨g', 0, none⟩) (pre.length + 1) c')
          have n6 := ((n5.alloc (.cells #[.string ⟨(wordsOf [] (pieceW zs k)).toArray⟩] 9)).kept hgrow (n5.not_row (by decide) r5)).other (B' := w.heap.size) (by omega) (.slice (some ⟨g', 0, none⟩) (pre.length + 1) c')
          have hBf : Below w.heap.size W (w6.setCell ⟨w.heap.size, 0, none⟩ (.slice (some ⟨g', 0, none⟩) (pre.length + 1) c')) := (hW5.mono hsz).trans hb2
          refine ⟨v5.cell, (v5.alloc _).cell, _, w6, hrun, hv1.cell, hv1.frozen, ⟨_, _, _, rfl⟩, ?_⟩
          refine ⟨((keepsOthers_of_below hW5).trans hk2).from _, ⟨hBf, fun v i hi e => ?_⟩, ⟨_, hv2, ?_, trivial⟩, ⟨s6, n6⟩, HBW.out.trans hBf⟩
          · rcases hi with rfl | rfl
            · rw [HS.out.cell] at e; rw [s6.cell]; exact e
            · rw [HN.out.cell] at e; rw [n6.cell]; exact e
          · have : linesV zs ((pre ++ [(⟨k, hk⟩ : PieceNo zs)]).map (·.1)) = linesV zs (pre.map (·.1)) ++ [.string ⟨(wordsOf [] (pieceW zs k)).toArray⟩] := by
              unfold linesV; simp [lineOf]
            rw [this, List.length_append]; exact hr2
        clear hb'
        gi_wp2
        refine wpIn_region_any (by kernel_rfl) ?_
        change wpAnyIn _ _ _ _ _ _ _ _ _ (World.drew _)
        refine wpAnyIn_ready (rs := [0, 1]) (by kernel_rfl) (by simp) ?_
        refine AllReadyIn.cons rfl (fun K hK => ?_) ?_
        · go_simp
          refine hK _ _ ?_; clear hK K
          refine wpAnyIn_ready (rs := [1]) (by kernel_rfl) (by simp) ?_
          refine AllReadyIn.cons rfl (fun K hK => ?_) ?_
          · go_simp
            refine hK _ _ ?_; clear hK K
            refine wpAnyIn_ready (rs := [2]) (by kernel_rfl) (by simp) ?_
            refine AllReadyIn.cons rfl (fun K hK => ?_) ?_
            · go_simp
              refine hK _ _ ?_; clear hK K
              refine wpAnyIn_ready (rs := [3]) (by kernel_rfl) (by simp) ?_
              refine AllReadyIn.cons rfl (fun K hK => ?_) ?_
              · go_simp
                refine hK _ _ ?_; clear hK K
                refine wpAnyIn_ready (rs := [4]) (by kernel_rfl) (by simp) ?_
                refine AllReadyIn.cons rfl (fun K hK => ?_) ?_
                · go_simp
                  refine ⟨trivial, ?_⟩
                  refine (CallsIn.inRound l (callsIn_wide.2 HST.out)).mono ?_
                  rintro e w5 ⟨rfl, hb5⟩
                  obtain ⟨q1, q2, v', w6, Hrun, c6, f6, ⟨a', l', c', rfl⟩, Hpost⟩ := Hfin.out w5 hb5
                  refine hK _ _ ?_; clear hK K
                  refine wpAnyIn_ready (rs := [5]) (by kernel_rfl) (by simp) ?_
                  refine AllReadyIn.cons rfl (fun K hK => ?_) ?_
                  · go_simp
                    refine hK _ _ ?_; clear hK K
                    refine wpAnyIn_ready (rs := [6]) (by kernel_rfl) (by simp) ?_
                    refine AllReadyIn.cons rfl (fun K hK => ?_) ?_
                    · refine stepIn_append_run (by rfl) (.tmp 26) (.tmp 31) 52 (by rfl) _ _ _ _ (by rfl) (by rfl) Hrun.out ?_
                      refine hK _ _ ?_; clear hK K
                      refine wpAnyIn_ready (rs := [7]) (by kernel_rfl) (by simp) ?_
                      refine AllReadyIn.cons rfl (fun K hK => ?_) ?_
                      · go_simp
                        refine hK _ _ ?_; clear hK K
                        refine wpAnyIn_done (by kernel_rfl) ?_ _
                        gi_wp2
                        exact Hpost.out
                      exact AllReadyIn.nil
                    exact AllReadyIn.nil
                  exact AllReadyIn.nil
                exact AllReadyIn.nil
              exact AllReadyIn.nil
            exact AllReadyIn.nil
          exact AllReadyIn.nil
        refine AllReadyIn.cons rfl (fun K hK => ?_) ?_
        · go_simp
          refine hK _ _ ?_; clear hK K
          refine wpAnyIn_ready (rs := [0, 2]) (by kernel_rfl) (by simp) ?_
          refine AllReadyIn.cons rfl (fun K hK => ?_) ?_
          · go_simp
            refine hK _ _ ?_; clear hK K
            refine wpAnyIn_ready (rs := [2]) (by kernel_rfl) (by simp) ?_
            refine AllReadyIn.cons rfl (fun K hK => ?_) ?_
            · go_simp
              refine hK _ _ ?_; clear hK K
              refine wpAnyIn_ready (rs := [3]) (by kernel_rfl) (by simp) ?_
              refine AllReadyIn.cons rfl (fun K hK => ?_) ?_
              · go_simp
                refine hK _ _ ?_; clear hK K
                refine wpAnyIn_ready (rs := [4]) (by kernel_rfl) (by simp) ?_
                refine AllReadyIn.cons rfl (fun K hK => ?_) ?_
                · go_simp
                  refine ⟨trivial, ?_⟩
                  refine (CallsIn.inRound l (callsIn_wide.2 HST.out)).mono ?_
                  rintro e w5 ⟨rfl, hb5⟩
                  obtain ⟨q1, q2, v', w6, Hrun, c6, f6, ⟨a', l', c', rfl⟩, Hpost⟩ := Hfin.out w5 hb5
                  refine hK _ _ ?_; clear hK K
                  refine wpAnyIn_ready (rs := [5]) (by kernel_rfl) (by simp) ?_
                  refine AllReadyIn.cons rfl (fun K hK => ?_) ?_
                  · go_simp
                    refine hK _ _ ?_; clear hK K
                    refine wpAnyIn_ready (rs := [6]) (by kernel_rfl) (by simp) ?_
                    refine AllReadyIn.cons rfl (fun K hK => ?_) ?_
                    · refine stepIn_append_run (by rfl) (.tmp 26) (.tmp 31) 52 (by rfl) _ _ _ _ (by rfl) (by rfl) Hrun.out ?_
                      refine hK _ _ ?_; clear hK K
                      refine wpAnyIn_ready (rs := [7]) (by kernel_rfl) (by simp) ?_
                      refine AllReadyIn.cons rfl (fun K hK => ?_) ?_
                      · go_simp
                        refine hK _ _ ?_; clear hK K
                        refine wpAnyIn_done (by kernel_rfl) ?_ _
                        gi_wp2
                        exact Hpost.out
                      exact AllReadyIn.nil
                    exact AllReadyIn.nil
                  exact AllReadyIn.nil
                exact AllReadyIn.nil
              exact AllReadyIn.nil
            exact AllReadyIn.nil
          refine AllReadyIn.cons rfl (fun K hK => ?_) ?_
          · go_simp
            refine hK _ _ ?_; clear hK K
            refine wpAnyIn_ready (rs := [0, 3]) (by kernel_rfl) (by simp) ?_
            refine AllReadyIn.cons rfl (fun K hK => ?_) ?_
            · go_simp
              refine hK _ _ ?_; clear hK K
              refine wpAnyIn_ready (rs := [3]) (by kernel_rfl) (by simp) ?_
              refine AllReadyIn.cons rfl (fun K hK => ?_) ?_
              · go_simp
                refine hK _ _ ?_; clear hK K
                refine wpAnyIn_ready (rs := [4]) (by kernel_rfl) (by simp) ?_
                refine AllReadyIn.cons rfl (fun K hK => ?_) ?_
                · go_simp
                  refine ⟨trivial, ?_⟩
                  refine (CallsIn.inRound l (callsIn_wide.2 HST.out)).mono ?_
                  rintro e w5 ⟨rfl, hb5⟩
                  obtain ⟨q1, q2, v', w6, Hrun, c6, f6, ⟨a', l', c', rfl⟩, Hpost⟩ := Hfin.out w5 hb5
                  refine hK _ _ ?_; clear hK K
                  refine wpAnyIn_ready (rs := [5]) (by kernel_rfl) (by simp) ?_
                  refine AllReadyIn.cons rfl (fun K hK => ?_) ?_
                  · go_simp
                    refine hK _ _ ?_; clear hK K
                    refine wpAnyIn_ready (rs := [6]) (by kernel_rfl) (by simp) ?_
                    refine AllReadyIn.cons rfl (fun K hK => ?_) ?_
                    · refine stepIn_append_run (by rfl) (.tmp 26) (.tmp 31) 52 (by rfl) _ _ _ _ (by rfl) (by rfl) Hrun.out ?_
                      refine hK _ _ ?_; clear hK K
                      refine wpAnyIn_ready (rs := [7]) (by kernel_rfl) (by simp) ?_
                      refine AllReadyIn.cons rfl (fun K hK => ?_) ?_
                      · go_simp
                        refine hK _ _ ?_; clear hK K
                        refine wpAnyIn_done (by kernel_rfl) ?_ _
                        gi_wp2
                        exact Hpost.out
                      exact AllReadyIn.nil
                    exact AllReadyIn.nil
                  exact AllReadyIn.nil
                exact AllReadyIn.nil
              exact AllReadyIn.nil
            refine AllReadyIn.cons rfl (fun K hK => ?_) ?_
            · go_simp
              refine hK _ _ ?_; clear hK K
              refine wpAnyIn_ready (rs := [0, 4]) (by kernel_rfl) (by simp) ?_
              refine AllReadyIn.cons rfl (fun K hK => ?_) ?_
              · go_simp
                refine hK _ _ ?_; clear hK K
                refine wpAnyIn_ready (rs := [4]) (by kernel_rfl) (by simp) ?_
                refine AllReadyIn.cons rfl (fun K hK => ?_) ?_
                · go_simp
                  refine ⟨trivial, ?_⟩
                  refine (CallsIn.inRound l (callsIn_wide.2 HST.out)).mono ?_
                  rintro e w5 ⟨rfl, hb5⟩
                  obtain ⟨q1, q2, v', w6, Hrun, c6, f6, ⟨a', l', c', rfl⟩, Hpost⟩ := Hfin.out w5 hb5
                  refine hK _ _ ?_; clear hK K
                  refine wpAnyIn_ready (rs := [5]) (by kernel_rfl) (by simp) ?_
                  refine AllReadyIn.cons rfl (fun K hK => ?_) ?_
                  · go_simp
                    refine hK _ _ ?_; clear hK K
                    refine wpAnyIn_ready (rs := [6]) (by kernel_rfl) (by simp) ?_
                    refine AllReadyIn.cons rfl (fun K hK => ?_) ?_
                    · refine stepIn_append_run (by rfl) (.tmp 26) (.tmp 31) 52 (by rfl) _ _ _ _ (by rfl) (by rfl) Hrun.out ?_
                      refine hK _ _ ?_; clear hK K
                      refine wpAnyIn_ready (rs := [7]) (by kernel_rfl) (by simp) ?_
                      refine AllReadyIn.cons rfl (fun K hK => ?_) ?_
                      · go_simp
                        refine hK _ _ ?_; clear hK K
                        refine wpAnyIn_done (by kernel_rfl) ?_ _
                        gi_wp2
                        exact Hpost.out
                      exact AllReadyIn.nil
                    exact AllReadyIn.nil
                  exact AllReadyIn.nil
                exact AllReadyIn.nil
              refine AllReadyIn.cons rfl (fun K hK => ?_) ?_
              · go_simp
                refine ⟨trivial, ?_⟩
                refine (CallsIn.inRound l (callsIn_wide.2 HST.out)).mono ?_
                rintro e w5 ⟨rfl, hb5⟩
                obtain ⟨q1, q2, v', w6, Hrun, c6, f6, ⟨a', l', c', rfl⟩, Hpost⟩ := Hfin.out w5 hb5
                refine hK _ _ ?_; clear hK K
                refine wpAnyIn_ready (rs := [0, 5]) (by kernel_rfl) (by simp) ?_
                refine AllReadyIn.cons rfl (fun K hK => ?_) ?_
                · go_simp
                  refine hK _ _ ?_; clear hK K
                  refine wpAnyIn_ready (rs := [5]) (by kernel_rfl) (by simp) ?_
                  refine AllReadyIn.cons rfl (fun K hK => ?_) ?_
                  · go_simp
                    refine hK _ _ ?_; clear hK K
                    refine wpAnyIn_ready (rs := [6]) (by kernel_rfl) (by simp) ?_
                    refine AllReadyIn.cons rfl (fun K hK => ?_) ?_
                    · refine stepIn_append_run (by rfl) (.tmp 26) (.tmp 31) 52 (by rfl) _ _ _ _ (by rfl) (by rfl) Hrun.out ?_
                      refine hK _ _ ?_; clear hK K
                      refine wpAnyIn_ready (rs := [7]) (by kernel_rfl) (by simp) ?_
                      refine AllReadyIn.cons rfl (fun K hK => ?_) ?_
                      · go_simp
                        refine hK _ _ ?_; clear hK K
                        refine wpAnyIn_done (by kernel_rfl) ?_ _
                        gi_wp2
                        exact Hpost.out
                      exact AllReadyIn.nil
                    exact AllReadyIn.nil
                  exact AllReadyIn.nil
                refine AllReadyIn.cons rfl (fun K hK => ?_) ?_
                · go_simp
                  refine hK _ _ ?_; clear hK K
                  refine wpAnyIn_ready (rs := [0]) (by kernel_rfl) (by simp) ?_
                  refine AllReadyIn.cons rfl (fun K hK => ?_) ?_
                  · go_simp
                    refine hK _ _ ?_; clear hK K
                    refine wpAnyIn_ready (rs := [6]) (by kernel_rfl) (by simp) ?_
                    refine AllReadyIn.cons rfl (fun K hK => ?_) ?_
                    · refine stepIn_append_run (by rfl) (.tmp 26) (.tmp 31) 52 (by rfl) _ _ _ _ (by rfl) (by rfl) Hrun.out ?_
                      refine hK _ _ ?_; clear hK K
                      refine wpAnyIn_ready (rs := [7]) (by kernel_rfl) (by simp) ?_
                      refine AllReadyIn.cons rfl (fun K hK => ?_) ?_
                      · go_simp
                        refine hK _ _ ?_; clear hK K
                        refine wpAnyIn_done (by kernel_rfl) ?_ _
                        gi_wp2
                        exact Hpost.out
                      exact AllReadyIn.nil
                    exact AllReadyIn.nil
                  exact AllReadyIn.nil
                exact AllReadyIn.nil
              exact AllReadyIn.nil
            exact AllReadyIn.nil
          exact AllReadyIn.nil
        exact AllReadyIn.nil
  case done =>
    rintro D ys W hD hys ⟨⟨u, hv, hrow, _⟩, _, hB⟩ hK
    have hc := hv.cell
    have hyl : ys.length = (zs.length + 9) / 10 := by have := congrArg List.length hys; simpa using this
    rw [hys, hyl] at hrow
    have Hrow := Lib.hid hrow
    clear hys hyl hrow
    gi_wp2
    refine ⟨by simp, .inl ⟨_, _, rfl, run_takeDeferred hK, ?_⟩⟩
    exact ⟨_, results_tmp rfl _ _ _, u, rfl, ownsRow_putObj Hrow.out _ hK rfl, hB.trans (belowK_b (w := w) (Nat.le_refl _) W D _ _ (by omega) hK rfl rfl)⟩
  case stop =>
    rintro D c pre W _ _ h _
    exact h.elim
end Go.Proofs.YtmmmebdgannpgaaGreatDoor
/- Fraction of the monitor, and the law's sanity check. No conditions. -/
namespace Go.Proofs.YtmmmebdgannpgaaGreatDoor
open Go Go.RowKit

theorem Tab.drew {w : World} (h : Tab w) : Tab w.drew := h.below (Below.refl _ _).drew
theorem Tab.alloc {w : World} (h : Tab w) (o : Obj) : Tab (w.alloc o) := h.below ((Below.refl _ _).alloc (Nat.le_refl _) o)
theorem bytes_append (a b : List UInt8) : (⟨a.toArray⟩ ++ ⟨b.toArray⟩ : ByteArray) = ⟨(a ++ b).toArray⟩ := by
  apply ByteArray.ext; simp [ByteArray.data_append]

set_option maxRecDepth 100000 in
theorem frac_any (p q : Int) (hp : I64 p) (hq : I64 q) (h1 : q ≠ 1) (w : World) (hT : Tab w) :
    Calls Tryz.prog 12 #[.agg #[.int .i64 p, .int .i64 q]] w fun e w' => e = .returned (.string ⟨(Lib.itoa p ++ 47 :: Lib.itoa q).toArray⟩) ∧ Below w.heap.size w w' := by
  have hb1 : (q == 1) = false := by simpa using h1
  have I0 := Lib.hid (fun w' (h : Tab w') => itoa_any p hp w' h)
  have I1 := Lib.hid (fun w' (h : Tab w') => itoa_any q hq w' h)
  have h0 : (w.alloc (.cells #[.int .i64 p, .int .i64 q] 24)).cell? ⟨w.heap.size, 0, none⟩ = some (.int .i64 p) := by simp
  have h1' : (w.alloc (.cells #[.int .i64 p, .int .i64 q] 24)).cell? ⟨w.heap.size, 1, none⟩ = some (.int .i64 q) := by simp
  have HT := Lib.hid (hT.alloc (.cells #[.int .i64 p, .int .i64 q] 24))
  have HB := Lib.hid ((Below.refl w.heap.size w).alloc (Nat.le_refl _) (.cells #[.int .i64 p, .int .i64 q] 24))
  have Hap : Hid ((⟨(Lib.itoa p).toArray⟩ ++ ⟨#[47]⟩ ++ ⟨(Lib.itoa q).toArray⟩ : ByteArray) = ⟨(Lib.itoa p ++ 47 :: Lib.itoa q).toArray⟩) := by
    have : (⟨#[47]⟩ : ByteArray) = ⟨([47] : List UInt8).toArray⟩ := rfl
    unfold Hid
    rw [this, bytes_append, bytes_append, List.append_assoc]; rfl
  have hsp : (⟨(Lib.itoa p).toArray⟩ : ByteArray).size ≤ 21 := by have := Lib.itoa_length_le p hp.1 hp.2; simpa [ByteArray.size] using this
  have hsq : (⟨(Lib.itoa q).toArray⟩ : ByteArray).size ≤ 21 := by have := Lib.itoa_length_le q hq.1 hq.2; simpa [ByteArray.size] using this
  clear h1 hp hq hT
  generalize (⟨(Lib.itoa p ++ 47 :: Lib.itoa q).toArray⟩ : ByteArray) = r at *
  generalize (⟨(Lib.itoa p).toArray⟩ : ByteArray) = sp at *
  generalize (⟨(Lib.itoa q).toArray⟩ : ByteArray) = sq at *
  have s1 : (⟨#[47]⟩ : ByteArray).size = 1 := rfl
  have a1 : ∀ w', (Op.stringOp .add sp ⟨#[47]⟩).run Tryz.prog w' = .ok (.string (sp ++ ⟨#[47]⟩)) w' := fun w' => run_string_add_sum _ _ _ (by omega)
  have a2 : ∀ w', (Op.stringOp .add (sp ++ ⟨#[47]⟩) sq).run Tryz.prog w' = .ok (.string (sp ++ ⟨#[47]⟩ ++ sq)) w' := fun w' => run_string_add_sum _ _ _ (by rw [ByteArray.size_append]; omega)
  go_enter Tryz.func12, Tryz.ntmps12
  go_wp2_with fail
  generalize w.alloc (.cells #[.int .i64 p, .int .i64 q] 24) = w0 at *
  go_region_held3 (fun w' => w'.cell? ⟨w.heap.size, 0, none⟩ = some (.int .i64 p) ∧ w'.cell? ⟨w.heap.size, 1, none⟩ = some (.int .i64 q) ∧ Tab w' ∧ Below w.heap.size w w')
    (first | assumption | exact ⟨h0, h1', HT.out.drew, HB.out.drew⟩ | (go_split_ands; exact ⟨cell_then hb (by assumption), cell_then hb (by assumption), Tab.below (by assumption) hb, below_then (by assumption) hb⟩))
    (first | (go_at_call 32; ((with_reducible refine (I0.out _ (by go_split_ands; assumption)).mono ?_); rintro e w' ⟨rfl, hb⟩)) | (go_at_call 32; ((with_reducible refine (I1.out _ (by go_split_ands; assumption)).mono ?_); rintro e w' ⟨rfl, hb⟩)))
  all_goals
    go_wp2_with fail
    go_ret
    exact ⟨by rw [← Hap.out]; rfl, by go_split_ands; assumption⟩

set_option maxRecDepth 100000 in
set_option maxHeartbeats 1000000 in
theorem awake_any (w : World) (hT : Tab w) : Calls Tryz.prog 4 #[] w fun e w' => e = .returned (.bool true) ∧ Below w.heap.size w w' := by
  have F := Lib.hid (frac_any 3 4 (by unfold I64; omega) (by unfold I64; omega) (by omega) w hT)
  rw [show (⟨(Lib.itoa 3 ++ 47 :: Lib.itoa 4).toArray⟩ : ByteArray) = ⟨#[51, 47, 52]⟩ by kernel_rfl] at F
  have HT := Lib.hid hT
  have hmk : ∀ w : World, (Instr.makeSlice 34 (.int .i64 12) (.int .i64 12)).run Tryz.prog w = .ok (.slice (some ⟨w.heap.size, 0, none⟩) 12 12) (w.alloc (.cells #[.int .i64 0, .int .i64 0, .int .i64 0, .int .i64 0, .int .i64 0, .int .i64 0, .int .i64 0, .int .i64 0, .int .i64 0, .int .i64 0, .int .i64 0, .int .i64 0] 3)) := fun _ => by kernel_rfl
  clear hT
  go_enter Tryz.func4, Tryz.ntmps4
  go_wp2_with fail
  refine F.out.mono ?_
  rintro e w1 ⟨rfl, hb⟩
  go_wp2_with fail
  have HT1 := Lib.hid (HT.out.below hb)
  have HB1 : Hid (Below w1.heap.size w1 (w1.alloc (.cells #[.int .i64 0, .int .i64 0, .int .i64 0, .int .i64 0, .int .i64 0, .int .i64 0, .int .i64 0, .int .i64 0, .int .i64 0, .int .i64 0, .int .i64 0, .int .i64 0] 3))) := (Below.refl _ _).alloc (Nat.le_refl _) _
  have HI : Hid (IntsIn (w1.alloc (.cells #[.int .i64 0, .int .i64 0, .int .i64 0, .int .i64 0, .int .i64 0, .int .i64 0, .int .i64 0, .int .i64 0, .int .i64 0, .int .i64 0, .int .i64 0, .int .i64 0] 3)).heap.size (w1.alloc (.cells #[.int .i64 0, .int .i64 0, .int .i64 0, .int .i64 0, .int .i64 0, .int .i64 0, .int .i64 0, .int .i64 0, .int .i64 0, .int .i64 0, .int .i64 0, .int .i64 0] 3)) (.slice (some ⟨w1.heap.size, 0, none⟩) 12 12) (List.replicate 12 0)) := by
    refine .inr ⟨w1.heap.size, 0, 12, rfl, by simp, by omega, by simp, fun j hj => ?_⟩
    simp at hj
    have : j = 0 ∨ j = 1 ∨ j = 2 ∨ j = 3 ∨ j = 4 ∨ j = 5 ∨ j = 6 ∨ j = 7 ∨ j = 8 ∨ j = 9 ∨ j = 10 ∨ j = 11 := by omega
    rcases this with rfl | rfl | rfl | rfl | rfl | rfl | rfl | rfl | rfl | rfl | rfl | rfl <;> simp
  have M := Lib.hid (map_any _ _ _ (HT1.out.below HB1.out) HI.out (fun z hz => by rw [List.mem_replicate] at hz; rw [hz.2]; unfold I64; omega) (by simp))
  clear HI
  refine M.out.mono ?_
  rintro e w2 ⟨v, rfl, hown, hb2⟩
  obtain ⟨g, cap, rfl⟩ : ∃ g cap, v = .slice (some ⟨g, 0, none⟩) 2 cap := by
    rcases hown.2 with ⟨_, h0⟩ | ⟨g, cap, cur, e, _⟩
    · simp at h0
    · exact ⟨g, cap, e⟩
  have HB2 := Lib.hid (below_then hb (below_then HB1.out hb2))
  clear hown hb2 hb
  go_wp2_with fail
  go_ret
  exact ⟨rfl, HB2.out⟩
end Go.Proofs.YtmmmebdgannpgaaGreatDoor
/- Describe of element and of its reference return the row of the same table. No conditions. -/
namespace Go.Proofs.YtmmmebdgannpgaaGreatDoor
open Go Go.RowKit

/-- The table of the least and the greatest values, as the program lays it. -/
def bnds : List Int := [8000, 11000, 1800, 3300, 1800, 3300, -1000, 1000, -1000, 1000, 900, 1700, 2000, 3200, 2400, 3400, 2000, 3000, 4400, 6200, 2000, 2900]
def lets : List UInt8 := [80, 84, 68, 69, 78, 65, 66, 70, 71, 74, 75]
/-- Block 0 holds it. -/
def Bnds (w : World) : Prop := ∀ i, i < 22 → w.cell? ⟨0, i, none⟩ = some (.int .i64 (bnds.getD i 0))

def infoV (L : ByteArray) (a b d : Int) : Value := .agg #[.string L, .int .i64 a, .int .i64 b, .int .i64 d]

theorem desc_none (c : Int) (w : World) (h : c < 1 ∨ 11 < c) :
    Calls Tryz.prog 69 #[.int .i64 c] w fun e w' => e = .returned (.tuple #[infoV ⟨#[]⟩ 0 0 0, .int .i64 4]) ∧ Below w.heap.size w w' := by
  have h0 : c < 1 ∨ ¬ c < 1 := by omega
  rcases h0 with h1 | h1
  · clear h
    go_enter Tryz.func69, Tryz.ntmps69
    go_wp2
    exact bodyPost_ret (v := .tuple #[infoV ⟨#[]⟩ 0 0 0, .int .i64 4]) (by simp [results, Tryz.results69, go_sem, infoV]) rfl ⟨rfl, (Below.refl _ _).alloc (Nat.le_refl _) _⟩
  · have h2 : 11 < c := by omega
    clear h
    go_enter Tryz.func69, Tryz.ntmps69
    go_wp2
    exact bodyPost_ret (v := .tuple #[infoV ⟨#[]⟩ 0 0 0, .int .i64 4]) (by simp [results, Tryz.results69, go_sem, infoV]) rfl ⟨rfl, (Below.refl _ _).alloc (Nat.le_refl _) _⟩

theorem desc_more (k : Nat) (lo hi : Int) (L : ByteArray) (w : World) (hk : 1 ≤ k) (hk' : k < 11) (h0 : w.cell? ⟨0, k * 2, none⟩ = some (.int .i64 lo)) (h1 : w.cell? ⟨0, k * 2 + 1, none⟩ = some (.int .i64 hi))
    (hL : ∀ h : k < (ByteArray.mk #[80, 84, 68, 69, 78, 65, 66, 70, 71, 74, 75]).size, Utf8.encode (((ByteArray.mk #[80, 84, 68, 69, 78, 65, 66, 70, 71, 74, 75])[k]'h).toNat : Int) = L) :
    Calls Tryz.prog 69 #[.int .i64 (k + 1)] w fun e w' => e = .returned (.tuple #[infoV L lo hi 4, .int .i64 0]) ∧ Below w.heap.size w w' := by
  have hsz : 0 < w.heap.size := World.block_lt_of_cell? (a := ⟨0, k * 2, none⟩) _ h0
  have h1b : (((k : Int) + 1) == 1) = false := by simp; omega
  have HL := Lib.hid hL
  clear hL
  go_enter Tryz.func69, Tryz.ntmps69
  go_wp2
  have ek : IntKind.i64.wrap (k : Int) = k := IntWalk.i64_in _ (by omega)
  have e0 : (0 : Int) ≤ k := by omega
  have e1 : (k : Int) < 11 := by omega
  go_region
  clear ek
  go_wp2
  exact bodyPost_ret (v := .tuple #[infoV L lo hi 4, .int .i64 0]) (by simp [results, Tryz.results69, go_sem, infoV, HL.out]) rfl ⟨rfl, ((((Below.refl _ _).alloc (Nat.le_refl _) _).alloc (by simp) _).alloc (by simp; omega) _).drew⟩

theorem desc_1 (w : World) (h0 : w.cell? ⟨0, 0, none⟩ = some (.int .i64 8000)) (h1 : w.cell? ⟨0, 1, none⟩ = some (.int .i64 11000)) :
    Calls Tryz.prog 69 #[.int .i64 1] w fun e w' => e = .returned (.tuple #[infoV ⟨#[80]⟩ 8000 11000 5, .int .i64 0]) ∧ Below w.heap.size w w' := by
  have hsz : 0 < w.heap.size := World.block_lt_of_cell? (a := ⟨0, 0, none⟩) _ h0
  go_enter Tryz.func69, Tryz.ntmps69
  go_wp2
  go_region
  go_wp2
  exact bodyPost_ret (v := .tuple #[infoV ⟨#[80]⟩ 8000 11000 5, .int .i64 0]) (by simp [results, Tryz.results69, go_sem, infoV]; decide) rfl ⟨rfl, ((((Below.refl _ _).alloc (Nat.le_refl _) _).alloc (by simp) _).alloc (by simp; omega) _).drew⟩

def letter (c : Int) : ByteArray := if 1 ≤ c ∧ c ≤ 11 then ⟨#[lets.getD (c - 1).toNat 0]⟩ else ⟨#[]⟩
def least (c : Int) : Int := if 1 ≤ c ∧ c ≤ 11 then bnds.getD (2 * (c - 1).toNat) 0 else 0
def most (c : Int) : Int := if 1 ≤ c ∧ c ≤ 11 then bnds.getD (2 * (c - 1).toNat + 1) 0 else 0
def digits (c : Int) : Int := if c = 1 then 5 else if 1 ≤ c ∧ c ≤ 11 then 4 else 0
def descE (c : Int) : Int := if 1 ≤ c ∧ c ≤ 11 then 0 else 4
def infoOf (c : Int) : Value := infoV (letter c) (least c) (most c) (digits c)

theorem eleven {P : Int → Prop} (h1 : P 1) (h2 : P 2) (h3 : P 3) (h4 : P 4) (h5 : P 5) (h6 : P 6) (h7 : P 7) (h8 : P 8) (h9 : P 9) (h10 : P 10) (h11 : P 11) (c : Int) (h : 1 ≤ c ∧ c ≤ 11) : P c := by
  have : c = 1 ∨ c = 2 ∨ c = 3 ∨ c = 4 ∨ c = 5 ∨ c = 6 ∨ c = 7 ∨ c = 8 ∨ c = 9 ∨ c = 10 ∨ c = 11 := by omega
  rcases this with rfl | rfl | rfl | rfl | rfl | rfl | rfl | rfl | rfl | rfl | rfl <;> assumption

def DescOk (f : FuncId) (w : World) (c : Int) : Prop :=
  Calls Tryz.prog f #[.int .i64 c] w fun e w' => e = .returned (.tuple #[infoOf c, .int .i64 (descE c)]) ∧ Below w.heap.size w w'

theorem desc_any (c : Int) (w : World) (hB : Bnds w) : DescOk 69 w c := by
  by_cases h : 1 ≤ c ∧ c ≤ 11
  · revert c
    intro c h
    refine eleven (P := DescOk 69 w) ?_ ?_ ?_ ?_ ?_ ?_ ?_ ?_ ?_ ?_ ?_ c h
    · exact desc_1 w (hB 0 (by omega)) (hB 1 (by omega))
    · exact desc_more 1 _ _ _ w (by omega) (by omega) (hB 2 (by omega)) (hB 3 (by omega)) (fun _ => by kernel_rfl)
    · exact desc_more 2 _ _ _ w (by omega) (by omega) (hB 4 (by omega)) (hB 5 (by omega)) (fun _ => by kernel_rfl)
    · exact desc_more 3 _ _ _ w (by omega) (by omega) (hB 6 (by omega)) (hB 7 (by omega)) (fun _ => by kernel_rfl)
    · exact desc_more 4 _ _ _ w (by omega) (by omega) (hB 8 (by omega)) (hB 9 (by omega)) (fun _ => by kernel_rfl)
    · exact desc_more 5 _ _ _ w (by omega) (by omega) (hB 10 (by omega)) (hB 11 (by omega)) (fun _ => by kernel_rfl)
    · exact desc_more 6 _ _ _ w (by omega) (by omega) (hB 12 (by omega)) (hB 13 (by omega)) (fun _ => by kernel_rfl)
    · exact desc_more 7 _ _ _ w (by omega) (by omega) (hB 14 (by omega)) (hB 15 (by omega)) (fun _ => by kernel_rfl)
    · exact desc_more 8 _ _ _ w (by omega) (by omega) (hB 16 (by omega)) (hB 17 (by omega)) (fun _ => by kernel_rfl)
    · exact desc_more 9 _ _ _ w (by omega) (by omega) (hB 18 (by omega)) (hB 19 (by omega)) (fun _ => by kernel_rfl)
    · exact desc_more 10 _ _ _ w (by omega) (by omega) (hB 20 (by omega)) (hB 21 (by omega)) (fun _ => by kernel_rfl)
  · have := desc_none c w (by omega)
    unfold DescOk
    have h1 : c ≠ 1 := by omega
    have e1 : infoOf c = infoV ⟨#[]⟩ 0 0 0 := by simp [infoOf, letter, least, most, digits, h, h1]
    have e2 : descE c = 4 := by simp [descE, h]
    rw [e1, e2]; exact this

end Go.Proofs.YtmmmebdgannpgaaGreatDoor
/- Describe of the reference of element returns the row of the same table. No conditions. -/
namespace Go.Proofs.YtmmmebdgannpgaaGreatDoor
open Go Go.RowKit

theorem rdesc_none (c : Int) (w : World) (h : c < 1 ∨ 11 < c) :
    Calls Tryz.prog 40 #[.int .i64 c] w fun e w' => e = .returned (.tuple #[infoV ⟨#[]⟩ 0 0 0, .int .i64 4]) ∧ Below w.heap.size w w' := by
  have h0 : c < 1 ∨ ¬ c < 1 := by omega
  rcases h0 with h1 | h1
  · clear h
    go_enter Tryz.func40, Tryz.ntmps40
    go_wp2
    exact bodyPost_ret (v := .tuple #[infoV ⟨#[]⟩ 0 0 0, .int .i64 4]) (by simp [results, Tryz.results40, go_sem, infoV]) rfl ⟨rfl, (Below.refl _ _).alloc (Nat.le_refl _) _⟩
  · have h2 : 11 < c := by omega
    clear h
    go_enter Tryz.func40, Tryz.ntmps40
    go_wp2
    exact bodyPost_ret (v := .tuple #[infoV ⟨#[]⟩ 0 0 0, .int .i64 4]) (by simp [results, Tryz.results40, go_sem, infoV]) rfl ⟨rfl, (Below.refl _ _).alloc (Nat.le_refl _) _⟩

set_option maxHeartbeats 2000000 in
theorem rdesc_1 (w : World) : DescOk 40 w 1 := by
  unfold DescOk
  rw [show infoOf 1 = infoV ⟨#[80]⟩ (8000) (11000) 5 from rfl, show descE 1 = 0 from rfl]
  go_enter Tryz.func40, Tryz.ntmps40
  go_wp2
  exact bodyPost_ret (v := .tuple #[infoV ⟨#[80]⟩ (8000) (11000) 5, .int .i64 0]) (by simp [results, Tryz.results40, go_sem, infoV]) rfl ⟨rfl, ((Below.refl _ _).alloc (Nat.le_refl _) _).alloc (by simp) _⟩

set_option maxHeartbeats 2000000 in
theorem rdesc_2 (w : World) : DescOk 40 w 2 := by
  unfold DescOk
  rw [show infoOf 2 = infoV ⟨#[84]⟩ (1800) (3300) 4 from rfl, show descE 2 = 0 from rfl]
  go_enter Tryz.func40, Tryz.ntmps40
  go_wp2
  exact bodyPost_ret (v := .tuple #[infoV ⟨#[84]⟩ (1800) (3300) 4, .int .i64 0]) (by simp [results, Tryz.results40, go_sem, infoV]) rfl ⟨rfl, ((Below.refl _ _).alloc (Nat.le_refl _) _).alloc (by simp) _⟩

set_option maxHeartbeats 2000000 in
theorem rdesc_3 (w : World) : DescOk 40 w 3 := by
  unfold DescOk
  rw [show infoOf 3 = infoV ⟨#[68]⟩ (1800) (3300) 4 from rfl, show descE 3 = 0 from rfl]
  go_enter Tryz.func40, Tryz.ntmps40
  go_wp2
  exact bodyPost_ret (v := .tuple #[infoV ⟨#[68]⟩ (1800) (3300) 4, .int .i64 0]) (by simp [results, Tryz.results40, go_sem, infoV]) rfl ⟨rfl, ((Below.refl _ _).alloc (Nat.le_refl _) _).alloc (by simp) _⟩

set_option maxHeartbeats 2000000 in
theorem rdesc_4 (w : World) : DescOk 40 w 4 := by
  unfold DescOk
  rw [show infoOf 4 = infoV ⟨#[69]⟩ (-1000) (1000) 4 from rfl, show descE 4 = 0 from rfl]
  go_enter Tryz.func40, Tryz.ntmps40
  go_wp2
  exact bodyPost_ret (v := .tuple #[infoV ⟨#[69]⟩ (-1000) (1000) 4, .int .i64 0]) (by simp [results, Tryz.results40, go_sem, infoV]) rfl ⟨rfl, ((Below.refl _ _).alloc (Nat.le_refl _) _).alloc (by simp) _⟩

set_option maxHeartbeats 2000000 in
theorem rdesc_5 (w : World) : DescOk 40 w 5 := by
  unfold DescOk
  rw [show infoOf 5 = infoV ⟨#[78]⟩ (-1000) (1000) 4 from rfl, show descE 5 = 0 from rfl]
  go_enter Tryz.func40, Tryz.ntmps40
  go_wp2
  exact bodyPost_ret (v := .tuple #[infoV ⟨#[78]⟩ (-1000) (1000) 4, .int .i64 0]) (by simp [results, Tryz.results40, go_sem, infoV]) rfl ⟨rfl, ((Below.refl _ _).alloc (Nat.le_refl _) _).alloc (by simp) _⟩

set_option maxHeartbeats 2000000 in
theorem rdesc_6 (w : World) : DescOk 40 w 6 := by
  unfold DescOk
  rw [show infoOf 6 = infoV ⟨#[65]⟩ (900) (1700) 4 from rfl, show descE 6 = 0 from rfl]
  go_enter Tryz.func40, Tryz.ntmps40
  go_wp2
  exact bodyPost_ret (v := .tuple #[infoV ⟨#[65]⟩ (900) (1700) 4, .int .i64 0]) (by simp [results, Tryz.results40, go_sem, infoV]) rfl ⟨rfl, ((Below.refl _ _).alloc (Nat.le_refl _) _).alloc (by simp) _⟩

set_option maxHeartbeats 2000000 in
theorem rdesc_7 (w : World) : DescOk 40 w 7 := by
  unfold DescOk
  rw [show infoOf 7 = infoV ⟨#[66]⟩ (2000) (3200) 4 from rfl, show descE 7 = 0 from rfl]
  go_enter Tryz.func40, Tryz.ntmps40
  go_wp2
  exact bodyPost_ret (v := .tuple #[infoV ⟨#[66]⟩ (2000) (3200) 4, .int .i64 0]) (by simp [results, Tryz.results40, go_sem, infoV]) rfl ⟨rfl, ((Below.refl _ _).alloc (Nat.le_refl _) _).alloc (by simp) _⟩

set_option maxHeartbeats 2000000 in
theorem rdesc_8 (w : World) : DescOk 40 w 8 := by
  unfold DescOk
  rw [show infoOf 8 = infoV ⟨#[70]⟩ (2400) (3400) 4 from rfl, show descE 8 = 0 from rfl]
  go_enter Tryz.func40, Tryz.ntmps40
  go_wp2
  exact bodyPost_ret (v := .tuple #[infoV ⟨#[70]⟩ (2400) (3400) 4, .int .i64 0]) (by simp [results, Tryz.results40, go_sem, infoV]) rfl ⟨rfl, ((Below.refl _ _).alloc (Nat.le_refl _) _).alloc (by simp) _⟩

set_option maxHeartbeats 2000000 in
theorem rdesc_9 (w : World) : DescOk 40 w 9 := by
  unfold DescOk
  rw [show infoOf 9 = infoV ⟨#[71]⟩ (2000) (3000) 4 from rfl, show descE 9 = 0 from rfl]
  go_enter Tryz.func40, Tryz.ntmps40
  go_wp2
  exact bodyPost_ret (v := .tuple #[infoV ⟨#[71]⟩ (2000) (3000) 4, .int .i64 0]) (by simp [results, Tryz.results40, go_sem, infoV]) rfl ⟨rfl, ((Below.refl _ _).alloc (Nat.le_refl _) _).alloc (by simp) _⟩

set_option maxHeartbeats 2000000 in
theorem rdesc_10 (w : World) : DescOk 40 w 10 := by
  unfold DescOk
  rw [show infoOf 10 = infoV ⟨#[74]⟩ (4400) (6200) 4 from rfl, show descE 10 = 0 from rfl]
  go_enter Tryz.func40, Tryz.ntmps40
  go_wp2
  exact bodyPost_ret (v := .tuple #[infoV ⟨#[74]⟩ (4400) (6200) 4, .int .i64 0]) (by simp [results, Tryz.results40, go_sem, infoV]) rfl ⟨rfl, ((Below.refl _ _).alloc (Nat.le_refl _) _).alloc (by simp) _⟩

set_option maxHeartbeats 2000000 in
theorem rdesc_11 (w : World) : DescOk 40 w 11 := by
  unfold DescOk
  rw [show infoOf 11 = infoV ⟨#[75]⟩ (2000) (2900) 4 from rfl, show descE 11 = 0 from rfl]
  go_enter Tryz.func40, Tryz.ntmps40
  go_wp2
  exact bodyPost_ret (v := .tuple #[infoV ⟨#[75]⟩ (2000) (2900) 4, .int .i64 0]) (by simp [results, Tryz.results40, go_sem, infoV]) rfl ⟨rfl, ((Below.refl _ _).alloc (Nat.le_refl _) _).alloc (by simp) _⟩

theorem rdesc_any (c : Int) (w : World) : DescOk 40 w c := by
  by_cases h : 1 ≤ c ∧ c ≤ 11
  · exact eleven (P := DescOk 40 w) (rdesc_1 w) (rdesc_2 w) (rdesc_3 w) (rdesc_4 w) (rdesc_5 w) (rdesc_6 w) (rdesc_7 w) (rdesc_8 w) (rdesc_9 w) (rdesc_10 w) (rdesc_11 w) c h
  · have := rdesc_none c w (by omega)
    unfold DescOk
    have h1 : c ≠ 1 := by omega
    have e1 : infoOf c = infoV ⟨#[]⟩ 0 0 0 := by simp [infoOf, letter, least, most, digits, h, h1]
    have e2 : descE c = 4 := by simp [descE, h]
    rw [e1, e2]; exact this
end Go.Proofs.YtmmmebdgannpgaaGreatDoor
/- The calendar: what a minute's date is, by its marks. No program. -/
namespace Go.Proofs.YtmmmebdgannpgaaGreatDoor
open Go

/-- The minute with which a year begins. -/
def fstY (y : Nat) : Nat := 1440 * (365 * (y - 2000) + (y - 2000 + 3) / 4)
/-- The days of a year. -/
def lenY (y : Nat) : Nat := if y % 4 = 0 then 366 else 365
/-- The days of a month. -/
def lenM (y m : Nat) : Nat := if m = 4 ∨ m = 6 ∨ m = 9 ∨ m = 11 then 30 else if m = 2 then (if y % 4 = 0 then 29 else 28) else 31
/-- The days of the first months. -/
def cumM (y : Nat) : Nat → Nat
  | 0 => 0
  | m + 1 => cumM y m + lenM y (m + 1)
theorem fstY_succ {y : Nat} (h : 2000 ≤ y) : fstY (y + 1) = fstY y + 1440 * lenY y := by
  unfold fstY lenY
  split <;> omega
theorem cumM_all (y : Nat) : cumM y 12 = lenY y := by
  simp only [cumM, lenM, lenY]
  by_cases h : y % 4 = 0 <;> simp [h]
theorem cumM_mono (y : Nat) {m n : Nat} (h : m ≤ n) : cumM y m ≤ cumM y n := by
  obtain ⟨k, rfl⟩ := Nat.exists_eq_add_of_le h
  clear h
  induction k with
  | zero => exact Nat.le_refl _
  | succ k ih => exact Nat.le_trans ih (by rw [← Nat.add_assoc]; exact Nat.le_add_right _ _)
theorem fstY_mono {x y : Nat} (h : x ≤ y) : fstY x ≤ fstY y := by
  unfold fstY
  have h1 : x - 2000 ≤ y - 2000 := by omega
  have h2 : (x - 2000 + 3) / 4 ≤ (y - 2000 + 3) / 4 := Nat.div_le_div_right (by omega)
  omega
theorem lenM_pos (y m : Nat) : 28 ≤ lenM y m ∧ lenM y m ≤ 31 := by
  unfold lenM
  repeat' split
  all_goals omega
/-- The date of a minute. -/
structure DateOf (minute y m d h mi : Nat) : Prop where
  y0 : 2000 ≤ y
  y1 : y ≤ 2099
  m0 : 1 ≤ m
  m1 : m ≤ 12
  d0 : 1 ≤ d
  d1 : d ≤ lenM y m
  h1 : h < 24
  i1 : mi < 60
  eq : minute = fstY y + 1440 * (cumM y (m - 1) + (d - 1)) + 60 * h + mi
theorem DateOf.days {minute y m d h mi : Nat} (g : DateOf minute y m d h mi) : cumM y (m - 1) + (d - 1) < cumM y m := by
  have h1 := g.d1
  have h2 := g.d0
  have h3 : cumM y m = cumM y (m - 1) + lenM y m := by
    obtain ⟨k, rfl⟩ := Nat.exists_eq_add_of_le' g.m0
    rfl
  omega
theorem DateOf.within {minute y m d h mi : Nat} (g : DateOf minute y m d h mi) : fstY y ≤ minute ∧ minute < fstY (y + 1) := by
  have h1 := g.days
  have h2 := cumM_mono y g.m1
  rw [cumM_all] at h2
  rw [fstY_succ g.y0]
  have := g.eq; have := g.h1; have := g.i1
  omega
theorem DateOf.unique {minute y m d h mi y' m' d' h' mi' : Nat} (g : DateOf minute y m d h mi) (g' : DateOf minute y' m' d' h' mi') : y = y' ∧ m = m' ∧ d = d' ∧ h = h' ∧ mi = mi' := by
  have hy : y = y' := by
    have a := g.within
    have b := g'.within
    rcases Nat.lt_trichotomy y y' with h | h | h
    · have := fstY_mono (show y + 1 ≤ y' by omega); omega
    · exact h
    · have := fstY_mono (show y' + 1 ≤ y by omega); omega
  subst hy
  have e := g.eq; have e' := g'.eq
  have a1 := g.h1; have a2 := g.i1; have b1 := g'.h1; have b2 := g'.i1
  have hD : cumM y (m - 1) + (d - 1) = cumM y (m' - 1) + (d' - 1) := by omega
  have hm : m = m' := by
    have a := g.days
    have b := g'.days
    have := g.m0; have := g'.m0
    rcases Nat.lt_trichotomy m m' with h | h | h
    · have := cumM_mono y (show m ≤ m' - 1 by omega); omega
    · exact h
    · have := cumM_mono y (show m' ≤ m - 1 by omega); omega
  subst hm
  have := g.d0; have := g'.d0
  exact ⟨rfl, rfl, by omega, by omega, by omega⟩
end Go.Proofs.YtmmmebdgannpgaaGreatDoor
/- The clocks of the program and of its reference: the small functions. Years from 2000 to 2100. -/
namespace Go.Proofs.YtmmmebdgannpgaaGreatDoor
open Go Go.RowKit

/-- The minutes that have a date. -/
def inM (m : Int) : Bool := decide (0 ≤ m) && decide (m ≤ 52595999)
theorem in_any (m : Int) (w : World) : Calls Tryz.prog 100 #[.int .i64 m] w fun e w' => e = .returned (.bool (inM m)) ∧ w = w' := by
  unfold inM
  by_cases h : m ≥ 0
  · by_cases h2 : m ≤ 52595999
    · go_enter Tryz.func100, Tryz.ntmps100
      go_wp2
      go_ret
      exact ⟨by simp [h, h2], rfl⟩
    · go_enter Tryz.func100, Tryz.ntmps100
      go_wp2
      go_ret
      exact ⟨by simp [h, h2], rfl⟩
  · go_enter Tryz.func100, Tryz.ntmps100
    go_wp2
    go_ret
    exact ⟨by simp; omega, rfl⟩
theorem rin_any (m : Int) (w : World) : Calls Tryz.prog 105 #[.int .i64 m] w fun e w' => e = .returned (.bool (inM m)) ∧ w = w' := by
  unfold inM
  by_cases h : m ≥ 0
  · by_cases h2 : m ≤ 52595999
    · go_enter Tryz.func105, Tryz.ntmps105
      go_wp2
      go_ret
      exact ⟨by simp [h, h2], rfl⟩
    · go_enter Tryz.func105, Tryz.ntmps105
      go_wp2
      go_ret
      exact ⟨by simp [h, h2], rfl⟩
  · go_enter Tryz.func105, Tryz.ntmps105
    go_wp2
    go_ret
    exact ⟨by simp; omega, rfl⟩

theorem first_any (y : Nat) (h0 : 2000 ≤ y) (h1 : y ≤ 2100) (w : World) : Calls Tryz.prog 101 #[.int .i64 y] w fun e w' => e = .returned (.int .i64 (fstY y : Nat)) ∧ w = w' := by
  have e1 : ((y : Int) - 2000 + 3).tdiv 4 = (((y - 2000 + 3) / 4 : Nat) : Int) := by rw [Int.tdiv_eq_ediv_of_nonneg (by omega)]; omega
  have hb : (y - 2000 + 3) / 4 ≤ 100 := by omega
  have hy : fstY y = 1440 * (365 * (y - 2000) + (y - 2000 + 3) / 4) := rfl
  have Hy : Hid (((fstY y : Nat) : Int) = 1440 * (365 * ((y : Int) - 2000) + (((y - 2000 + 3) / 4 : Nat) : Int))) := by unfold Hid; rw [hy]; omega
  clear hy
  generalize (y - 2000 + 3) / 4 = q at *
  go_enter Tryz.func101, Tryz.ntmps101
  go_wp2
  go_ret
  exact ⟨by rw [Hy.out]; rfl, rfl⟩

/-- The lengths of the months of a year. -/
def lenV (y : Nat) : Value := .agg #[.int .i64 31, .int .i64 (if y % 4 = 0 then 29 else 28), .int .i64 31, .int .i64 30, .int .i64 31, .int .i64 30, .int .i64 31, .int .i64 31, .int .i64 30, .int .i64 31, .int .i64 30, .int .i64 31]
theorem lengths_any (y : Nat) (h0 : 2000 ≤ y) (h1 : y ≤ 2100) (w : World) : Calls Tryz.prog 102 #[.int .i64 y] w fun e w' => e = .returned (lenV y) ∧ Below w.heap.size w w' := by
  unfold lenV
  by_cases h : y % 4 = 0
  · have e1 : ((y : Int)).tmod 4 = 0 := by rw [Int.tmod_eq_emod_of_nonneg (by omega)]; omega
    rw [if_pos h]
    go_enter Tryz.func102, Tryz.ntmps102
    go_wp2
    exact bodyPost_ret (v := .agg #[.int .i64 31, .int .i64 29, .int .i64 31, .int .i64 30, .int .i64 31, .int .i64 30, .int .i64 31, .int .i64 31, .int .i64 30, .int .i64 31, .int .i64 30, .int .i64 31]) (by simp [results, Tryz.results102, go_sem]) rfl ⟨rfl, ((Below.refl _ _).alloc (Nat.le_refl _) _).alloc (by simp) _⟩
  · have e1 : (((y : Int)).tmod 4 == 0) = false := by rw [Int.tmod_eq_emod_of_nonneg (by omega)]; simp; omega
    rw [if_neg h]
    go_enter Tryz.func102, Tryz.ntmps102
    go_wp2
    exact bodyPost_ret (v := .agg #[.int .i64 31, .int .i64 28, .int .i64 31, .int .i64 30, .int .i64 31, .int .i64 30, .int .i64 31, .int .i64 31, .int .i64 30, .int .i64 31, .int .i64 30, .int .i64 31]) (by simp [results, Tryz.results102, go_sem]) rfl ⟨rfl, ((Below.refl _ _).alloc (Nat.le_refl _) _).alloc (by simp) _⟩
end Go.Proofs.YtmmmebdgannpgaaGreatDoor
/- The reference's clock: the days of a month, and the minutes before a month. Years from 2000 to 2100. -/
namespace Go.Proofs.YtmmmebdgannpgaaGreatDoor
open Go Go.RowKit

theorem days_1 (y : Nat) (h0 : 2000 ≤ y) (h1 : y ≤ 2099) (w : World) : Calls Tryz.prog 119 #[.int .i64 y, .int .i64 1] w fun e w' => e = .returned (.int .i64 31) ∧ w = w' := by
  go_enter Tryz.func119, Tryz.ntmps119
  go_wp2
  go_ret
  exact ⟨rfl, rfl⟩
theorem days_3 (y : Nat) (h0 : 2000 ≤ y) (h1 : y ≤ 2099) (w : World) : Calls Tryz.prog 119 #[.int .i64 y, .int .i64 3] w fun e w' => e = .returned (.int .i64 31) ∧ w = w' := by
  go_enter Tryz.func119, Tryz.ntmps119
  go_wp2
  go_ret
  exact ⟨rfl, rfl⟩
theorem days_4 (y : Nat) (h0 : 2000 ≤ y) (h1 : y ≤ 2099) (w : World) : Calls Tryz.prog 119 #[.int .i64 y, .int .i64 4] w fun e w' => e = .returned (.int .i64 30) ∧ w = w' := by
  go_enter Tryz.func119, Tryz.ntmps119
  go_wp2
  go_ret
  exact ⟨rfl, rfl⟩
theorem days_5 (y : Nat) (h0 : 2000 ≤ y) (h1 : y ≤ 2099) (w : World) : Calls Tryz.prog 119 #[.int .i64 y, .int .i64 5] w fun e w' => e = .returned (.int .i64 31) ∧ w = w' := by
  go_enter Tryz.func119, Tryz.ntmps119
  go_wp2
  go_ret
  exact ⟨rfl, rfl⟩
theorem days_6 (y : Nat) (h0 : 2000 ≤ y) (h1 : y ≤ 2099) (w : World) : Calls Tryz.prog 119 #[.int .i64 y, .int .i64 6] w fun e w' => e = .returned (.int .i64 30) ∧ w = w' := by
  go_enter Tryz.func119, Tryz.ntmps119
  go_wp2
  go_ret
  exact ⟨rfl, rfl⟩
theorem days_7 (y : Nat) (h0 : 2000 ≤ y) (h1 : y ≤ 2099) (w : World) : Calls Tryz.prog 119 #[.int .i64 y, .int .i64 7] w fun e w' => e = .returned (.int .i64 31) ∧ w = w' := by
  go_enter Tryz.func119, Tryz.ntmps119
  go_wp2
  go_ret
  exact ⟨rfl, rfl⟩
theorem days_8 (y : Nat) (h0 : 2000 ≤ y) (h1 : y ≤ 2099) (w : World) : Calls Tryz.prog 119 #[.int .i64 y, .int .i64 8] w fun e w' => e = .returned (.int .i64 31) ∧ w = w' := by
  go_enter Tryz.func119, Tryz.ntmps119
  go_wp2
  go_ret
  exact ⟨rfl, rfl⟩
theorem days_9 (y : Nat) (h0 : 2000 ≤ y) (h1 : y ≤ 2099) (w : World) : Calls Tryz.prog 119 #[.int .i64 y, .int .i64 9] w fun e w' => e = .returned (.int .i64 30) ∧ w = w' := by
  go_enter Tryz.func119, Tryz.ntmps119
  go_wp2
  go_ret
  exact ⟨rfl, rfl⟩
theorem days_10 (y : Nat) (h0 : 2000 ≤ y) (h1 : y ≤ 2099) (w : World) : Calls Tryz.prog 119 #[.int .i64 y, .int .i64 10] w fun e w' => e = .returned (.int .i64 31) ∧ w = w' := by
  go_enter Tryz.func119, Tryz.ntmps119
  go_wp2
  go_ret
  exact ⟨rfl, rfl⟩
theorem days_11 (y : Nat) (h0 : 2000 ≤ y) (h1 : y ≤ 2099) (w : World) : Calls Tryz.prog 119 #[.int .i64 y, .int .i64 11] w fun e w' => e = .returned (.int .i64 30) ∧ w = w' := by
  go_enter Tryz.func119, Tryz.ntmps119
  go_wp2
  go_ret
  exact ⟨rfl, rfl⟩
theorem days_12 (y : Nat) (h0 : 2000 ≤ y) (h1 : y ≤ 2099) (w : World) : Calls Tryz.prog 119 #[.int .i64 y, .int .i64 12] w fun e w' => e = .returned (.int .i64 31) ∧ w = w' := by
  go_enter Tryz.func119, Tryz.ntmps119
  go_wp2
  go_ret
  exact ⟨rfl, rfl⟩
theorem days_2 (y : Nat) (h0 : 2000 ≤ y) (h1 : y ≤ 2099) (hl : y % 4 = 0) (w : World) : Calls Tryz.prog 119 #[.int .i64 y, .int .i64 2] w fun e w' => e = .returned (.int .i64 29) ∧ w = w' := by
  have e1 : ((y : Int)).tmod 4 = 0 := by rw [Int.tmod_eq_emod_of_nonneg (by omega)]; omega
  go_enter Tryz.func119, Tryz.ntmps119
  go_wp2
  go_ret
  exact ⟨rfl, rfl⟩
theorem days_2n (y : Nat) (h0 : 2000 ≤ y) (h1 : y ≤ 2099) (hl : y % 4 ≠ 0) (w : World) : Calls Tryz.prog 119 #[.int .i64 y, .int .i64 2] w fun e w' => e = .returned (.int .i64 28) ∧ w = w' := by
  have e1 : (((y : Int)).tmod 4 == 0) = false := by rw [Int.tmod_eq_emod_of_nonneg (by omega)]; simp; omega
  go_enter Tryz.func119, Tryz.ntmps119
  go_wp2
  go_ret
  exact ⟨rfl, rfl⟩
theorem days_any (y m : Nat) (h0 : 2000 ≤ y) (h1 : y ≤ 2099) (m0 : 1 ≤ m) (m1 : m ≤ 12) (w : World) : Calls Tryz.prog 119 #[.int .i64 y, .int .i64 m] w fun e w' => e = .returned (.int .i64 (lenM y m : Nat)) ∧ w = w' := by
  have : m = 1 ∨ m = 2 ∨ m = 3 ∨ m = 4 ∨ m = 5 ∨ m = 6 ∨ m = 7 ∨ m = 8 ∨ m = 9 ∨ m = 10 ∨ m = 11 ∨ m = 12 := by omega
  rcases this with rfl | rfl | rfl | rfl | rfl | rfl | rfl | rfl | rfl | rfl | rfl | rfl
  · exact days_1 y h0 h1 w
  · by_cases hl : y % 4 = 0
    · rw [show lenM y 2 = 29 by simp [lenM, hl]]; exact days_2 y h0 h1 hl w
    · rw [show lenM y 2 = 28 by simp [lenM, hl]]; exact days_2n y h0 h1 hl w
  · exact days_3 y h0 h1 w
  · exact days_4 y h0 h1 w
  · exact days_5 y h0 h1 w
  · exact days_6 y h0 h1 w
  · exact days_7 y h0 h1 w
  · exact days_8 y h0 h1 w
  · exact days_9 y h0 h1 w
  · exact days_10 y h0 h1 w
  · exact days_11 y h0 h1 w
  · exact days_12 y h0 h1 w

/-- The days before a year. -/
def dayY (y : Nat) : Nat := 365 * (y - 2000) + (y - 2000 + 3) / 4
theorem fstY_eq (y : Nat) : fstY y = 1440 * dayY y := rfl
theorem dayY_succ {y : Nat} (h : 2000 ≤ y) : dayY (y + 1) = dayY y + lenY y := by
  have := fstY_succ h
  rw [fstY_eq, fstY_eq] at this
  omega
theorem dayY_le {y : Nat} (h : y ≤ 2100) : dayY y ≤ 36525 := by
  have := fstY_mono h
  rw [fstY_eq, fstY_eq] at this
  have e : dayY 2100 = 36525 := by decide
  omega
theorem cumM_le {y m : Nat} (h : m ≤ 12) : cumM y m ≤ 366 := by
  have := cumM_mono y h
  rw [cumM_all] at this
  unfold lenY at this
  split at this <;> omega
theorem vint {x y : Int} (h : x = y) : Value.int .i64 x = Value.int .i64 y := by rw [h]
set_option maxHeartbeats 4000000 in
theorem before_any (y m : Nat) (h0 : 2000 ≤ y) (h1 : y ≤ 2100) (m0 : 1 ≤ m) (m1 : m ≤ 12) (hm : m = 1 ∨ y ≤ 2099) (w : World) :
    Calls Tryz.prog 106 #[.int .i64 y, .int .i64 m] w fun e w' => e = .returned (.int .i64 (fstY y + 1440 * cumM y (m - 1) : Nat)) ∧ w = w' := by
  obtain ⟨wout, rfl⟩ : ∃ wout : World, wout = w := ⟨_, rfl⟩
  have hd0 : dayY 2000 = 0 := by decide
  go_enter Tryz.func106, Tryz.ntmps106
  go_wp2_with fail
  go_loopw [5, 6] (fun nv yv wr => ∃ k : Nat, 2000 ≤ k ∧ k ≤ y ∧ yv = .int .i64 k ∧ nv = .int .i64 (dayY k : Nat) ∧ wr = wout) (fun _ yv _ => (3000 - intOf yv).toNat)
  case atStart => exact ⟨2000, by omega, h0, rfl, by rw [hd0]; rfl, rfl⟩
  case round =>
    obtain ⟨k, k0, k1, rfl, rfl, rfl⟩ := hrel
    by_cases hlt : k < y
    · have i0 : (k : Int) < (y : Int) := by omega
      have hd := dayY_le (show k ≤ 2100 by omega)
      have hs := dayY_succ k0
      have Hs := Lib.hid hs
      clear hs
      by_cases hl : k % 4 = 0
      · have e1 : ((k : Int) % 4 == 0) = true := by simp; omega
        have e2 : lenY k = 366 := by simp [lenY, hl]
        have E2 := Lib.hid e2
        clear e2 hl
        go_wp2_with fail
        go_roundw
        case rel => exact ⟨k + 1, by omega, by omega, by go_num, vint (by rw [Hs.out, E2.out]; omega), trivial⟩
        case measure => simp [intOf]; omega
      · have e1 : ((k : Int) % 4 == 0) = false := by simp; omega
        have e2 : lenY k = 365 := by simp [lenY, hl]
        have E2 := Lib.hid e2
        clear e2 hl
        go_wp2_with fail
        go_roundw
        case rel => exact ⟨k + 1, by omega, by omega, by go_num, vint (by rw [Hs.out, E2.out]; omega), trivial⟩
        case measure => simp [intOf]; omega
    · obtain rfl : k = y := by omega
      have hd := dayY_le h1
      obtain ⟨wout, rfl⟩ : ∃ wout : World, wout = wr := ⟨_, rfl⟩
      go_wp2_with fail
      go_loopw [5, 7] (fun nv mv wr => ∃ j : Nat, 1 ≤ j ∧ j ≤ m ∧ mv = .int .i64 j ∧ nv = .int .i64 (dayY k + cumM k (j - 1) : Nat) ∧ wr = wout) (fun _ mv _ => (3000 - intOf mv).toNat)
      case atStart => exact ⟨1, by omega, m0, rfl, by simp [cumM], rfl⟩
      case round =>
        obtain ⟨j, j0, j1, rfl, rfl, rfl⟩ := hrel
        have hc := cumM_le (y := k) (m := j - 1) (by omega)
        have Hf := Lib.hid (fstY_eq k)
        by_cases hlt : j < m
        · have i0 : (j : Int) < (m : Int) := by omega
          have hs : cumM k j = cumM k (j - 1) + lenM k j := by
            obtain ⟨i, rfl⟩ := Nat.exists_eq_add_of_le' j0
            rfl
          have Hs := Lib.hid hs
          have hlm := lenM_pos k j
          generalize hca : cumM k (j - 1) = ca at *
          generalize hda : dayY k = da at *
          have D := Lib.hid (fun w => days_any k j (by omega) (by omega) j0 (by omega) w)
          generalize hla : lenM k j = la at *
          have HJ : Hid (da + cumM k (j + 1 - 1) = da + ca + la) := by unfold Hid; rw [Nat.add_sub_cancel, Hs.out, ← hla, Nat.add_assoc]
          clear hs Hs hca hda hla Hf
          go_wp2_with fail
          refine (D.out _).mono ?_
          rintro e w1 ⟨rfl, rfl⟩
          go_wp2_with fail
          go_roundw
          case rel => exact ⟨j + 1, by omega, by omega, by go_num, vint (by rw [HJ.out]; omega), trivial⟩
          case measure => simp [intOf]; omega
        · obtain rfl : j = m := by omega
          generalize hca : cumM k (j - 1) = ca at *
          generalize hda : dayY k = da at *
          have HR : Hid (((da : Int) + ca) * 1440 = ((fstY k + 1440 * cumM k (j - 1) : Nat) : Int)) := by unfold Hid; rw [fstY_eq, hda, hca]; omega
          clear hca hda Hf
          go_wp2_with fail
          go_ret
          exact ⟨congrArg Ending.returned (vint HR.out), rfl⟩
end Go.Proofs.YtmmmebdgannpgaaGreatDoor
