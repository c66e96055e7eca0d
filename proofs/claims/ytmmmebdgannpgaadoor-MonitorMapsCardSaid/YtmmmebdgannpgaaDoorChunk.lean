/- slices.Chunk of a list of at most 300 ints, by ten: the pieces come in order. -/
import Derived.Test.YtmmmebdgannpgaaDoorWords
import Derived.RangeFuncNested
import Derived.RangeFuncBox
import Derived.RangeFuncBound
import Derived.RangeFuncCalls
import Derived.RangeFuncLeaves
import Derived.Shelf.Abstract
import Derived.Shelf.RegionOpen
import Derived.OwnWalkIn
import Derived.TacticsInMore
import Derived.LoopNIn
import Derived.LoopIn
import Derived.RegionIn
import Derived.Stop.RegionWithIn
import Derived.Maps.AppendAt
import Derived.BigFrameIn
import Derived.Sort.QuietIn
namespace Go.Proofs.YtmmmebdgannpgaaDoor
open Go Go.RowKit Go.Shelf

attribute [local go_sem] Oper.semAt_some

theorem Below.drewN' {B : Nat} {w w' : World} (h : Below B w w') (n : Nat) : Below B w (w'.drewN n) := ⟨h.os, h.tape, h.output, h.size, h.block⟩
/-- What a round of the loop over the pieces must keep: what lay below n₀, and the closure's two boxes. -/
def KpC (s n n₀ : Nat) (W W' : World) : Prop := Below n₀ W W' ∧ ∀ v k, k = s ∨ k = n → W.cell? ⟨k, 0, none⟩ = some v → W'.cell? ⟨k, 0, none⟩ = some v
theorem KpC.refl (s n n₀ : Nat) (W : World) : KpC s n n₀ W W := ⟨Below.refl _ _, fun _ _ _ h => h⟩
theorem KpC.trans {s n n₀ : Nat} {A B C : World} (h : KpC s n n₀ A B) (k : KpC s n n₀ B C) : KpC s n n₀ A C := ⟨h.1.trans k.1, fun v i hi e => k.2 v i hi (h.2 v i hi e)⟩
theorem KpC.putObj {s n n₀ : Nat} {w : World} (hn : n₀ ≤ w.heap.size) (W : World) (l : Nat) (o o' : Obj) (hl : w.heap.size ≤ l) (h : W.heap[l]? = some o) (ho : o.isCells = false) (_hw : o.isWalk = false) : KpC s n n₀ W (W.putObj l o') :=
  ⟨belowK_b hn W l o o' hl h ho _hw, fun _ _ _ e => cell_kept e (grownBy_putObj' W l o') (fun r e' => by cases e'; exact ⟨o, h, ho⟩)⟩
/-- The number k piece of a slice. -/
def piece (b off len : Nat) (k : Nat) : Array Value := #[.slice (some ⟨b, off + 10 * k, none⟩) (min 10 (len - 10 * k)) (min 10 (len - 10 * k))]

set_option maxRecDepth 100000 in
set_option maxHeartbeats 2000000 in
theorem chunk1_in (n : Nat) (hn : 1 ≤ n) (l Bs Bn n₀ b off len cap : Nat) (hlen : len ≤ 300) (hlc : len ≤ cap) (hcap : cap ≤ 9223372036854775807) (J Jx : List Nat → World → Prop) (hJd : ∀ pre W q, J pre W → J pre (W.drewN q))
    (hY : ∀ pre x W, J pre W → pre.length < (len + 9) / 10 → 10 * x < len → YieldAt Fence.wide (n - 1) Tryd.prog l (piece b off len x) W fun e W' =>
      (e = .returned (.bool true) ∧ J (pre ++ [x]) W' ∧ KpC Bs Bn n₀ W W') ∨ (e = .returned (.bool false) ∧ Jx (pre ++ [x]) W'))
    (W : World) (hs : W.cell? ⟨Bs, 0, none⟩ = some (.slice (some ⟨b, off, none⟩) len cap)) (hten : W.cell? ⟨Bn, 0, none⟩ = some (.int .i64 10)) (h0 : J [] W) :
    CallsIn Fence.wide n Tryd.prog 12 #[.func (.yield l) #[] #[], .pointer (some ⟨Bs, 0, none⟩), .pointer (some ⟨Bn, 0, none⟩)] W fun e W' => (∃ v, e = .returned v) ∧
      ((∃ ys, ys = List.range ((len + 9) / 10) ∧ J ys W') ∨ (∃ pre, (∃ k, k ≤ (len + 9) / 10 ∧ pre = List.range k) ∧ Jx pre W')) := by
  refine callsIn_of_wp Tryd.func12 rfl trivial ?_ rfl
  simp only [Tryd.ntmps12, List.size_toArray, List.length_cons, List.length_nil, Nat.reduceAdd, Nat.reduceSub, Array.replicate_succ, Array.replicate_zero, List.push_toArray, List.append_toArray, List.nil_append, List.cons_append]
  gi_wp2
  gi_loopw [4] (fun i wr => ∃ k : Nat, k ≤ (len + 9) / 10 ∧ i = .int .i64 ((10 * k : Nat) : Int) ∧ J (List.range k) wr ∧ KpC Bs Bn n₀ W wr)
    (fun i _ => len + 10 - (intOf i).toNat)
  case atStart => exact ⟨0, Nat.zero_le _, rfl, h0, KpC.refl _ _ _ _⟩
  case round =>
    obtain ⟨k, hk, rfl, hJs, hnx⟩ := hrel
    have hs' : wr.cell? ⟨Bs, 0, none⟩ = some (.slice (some ⟨b, off, none⟩) len cap) := hnx.2 _ _ (.inl rfl) hs
    have ht' : wr.cell? ⟨Bn, 0, none⟩ = some (.int .i64 10) := hnx.2 _ _ (.inr rfl) hten
    by_cases hlt : 10 * k < len
    · obtain ⟨m, hm⟩ : ∃ m, min 10 (len - 10 * k) = m := ⟨_, rfl⟩
      have HY := Lib.hid (fun q => hY (List.range k) k (wr.drewN q) (hJd _ _ _ hJs) (by simp; omega) hlt)
      simp only [piece, hm] at HY
      have hks : 10 * (k + 1) = 10 * k + 10 := by omega
      have Hks := Lib.hid hks
      clear hks
      have hk1 : k + 1 ≤ (len + 9) / 10 := by omega
      generalize 10 * k = i at *
      have em : min (10 : Int) ((len - i : Nat) : Int) = (m : Int) := by omega
      have Hm := Lib.hid hm
      have e1 : (0 : Int) ≤ (i : Int) := by omega
      have e2 : (i : Int) ≤ len := by omega
      have e3 : (i : Int) ≤ cap := by omega
      have e4 : IntKind.i64.wrap (i : Int) = i := IntWalk.i64_in _ (by omega)
      have e5 : (i : Int) + (m : Int) ≤ cap := by omega
      have e6 : (0 : Int) ≤ (m : Int) := by omega
      have hml : m ≤ len := by omega
      clear hm
      gi_wp2
      gi_quiet (fail)
      rename_i nq _
      obtain ⟨fn, tmps, assign, body, hy, hR⟩ := HY.out nq
      gi_wp2
      refine hR.mono ?_
      rintro e W3 (⟨rfl, hJ3, hk3⟩ | ⟨rfl, hJx3⟩)
      · have hk3' : KpC Bs Bn n₀ wr W3 := ⟨(Below.drewN' (Below.refl n₀ wr) nq).trans hk3.1, fun v k hk e => hk3.2 v k hk (by rw [World.cell?_drewN]; exact e)⟩
        have ht3 : W3.cell? ⟨Bn, 0, none⟩ = some (.int .i64 10) := hk3'.2 _ _ (.inr rfl) ht'
        gi_wp2
        go_roundw
        case rel => exact ⟨k + 1, hk1, by rw [Hks.out]; go_num, by rw [List.range_succ]; exact hJ3, hnx.trans hk3'⟩
        case measure => simp [intOf]; omega
      · gi_wp2
        refine bodyPost_ret (results_none rfl _ _ _) rfl ?_
        exact ⟨⟨_, rfl⟩, .inr ⟨_, ⟨k + 1, hk1, (List.range_succ).symm⟩, hJx3⟩⟩
    · gi_wp2
      go_end0
      obtain rfl : k = (len + 9) / 10 := by omega
      exact ⟨⟨_, rfl⟩, .inl ⟨_, rfl, hJs⟩⟩

set_option maxRecDepth 100000 in
set_option maxHeartbeats 1000000 in
theorem chunk1_nil (n : Nat) (l Bs Bn : Nat) (a : Option Addr) (c : Nat) (J : List Nat → World → Prop) (W : World) (hs : W.cell? ⟨Bs, 0, none⟩ = some (.slice a 0 c)) (h0 : J [] W) :
    CallsIn Fence.wide n Tryd.prog 12 #[.func (.yield l) #[] #[], .pointer (some ⟨Bs, 0, none⟩), .pointer (some ⟨Bn, 0, none⟩)] W fun e W' => (∃ v, e = .returned v) ∧ J [] W' := by
  refine callsIn_of_wp Tryd.func12 rfl trivial ?_ rfl
  simp only [Tryd.ntmps12, List.size_toArray, List.length_cons, List.length_nil, Nat.reduceAdd, Nat.reduceSub, Array.replicate_succ, Array.replicate_zero, List.push_toArray, List.append_toArray, List.nil_append, List.cons_append]
  gi_wp2
  gi_loopw [4] (fun i wr => i = .int .i64 0 ∧ J [] wr ∧ wr = W) (fun _ _ => 0)
  case atStart => exact ⟨rfl, h0, rfl⟩
  case round =>
    obtain ⟨rfl, hJs, rfl⟩ := hrel
    gi_wp2
    go_end0
    exact ⟨⟨_, rfl⟩, hJs⟩

/-- A slice of ints that reads as zs, in a block below n₀, or nil. -/
def IntsIn (n₀ : Nat) (W : World) (v : Value) (zs : List Int) : Prop :=
  (∃ a c, v = .slice a 0 c ∧ zs = []) ∨ ∃ b off cap, v = .slice (some ⟨b, off, none⟩) zs.length cap ∧ zs.length ≤ cap ∧ cap ≤ 9223372036854775807 ∧ b < n₀ ∧ ∀ j, j < zs.length → W.cell? ⟨b, off + j, none⟩ = some (.int .i64 (zs.getD j 0))
theorem IntsIn.below {n₀ : Nat} {A B : World} {v : Value} {zs : List Int} (h : Below n₀ A B) : IntsIn n₀ A v zs → IntsIn n₀ B v zs
  | .inl e => .inl e
  | .inr ⟨b, off, cap, e, h1, h2, hb, hc⟩ => .inr ⟨b, off, cap, e, h1, h2, hb, fun j hj => (h.cell (p := ⟨b, off + j, none⟩) hb).trans (hc j hj)⟩

/-- Where the slice lies. -/
def atOf : Value → Nat × Nat
  | .slice (some a) _ _ => (a.block, a.off)
  | _ => (0, 0)

/-- The numbers of the pieces. -/
abbrev PieceNo (zs : List Int) := { k : Nat // 10 * k < zs.length }
theorem chunk_stops (n : Nat) (hn : 1 ≤ n) (Bs Bn n₀ : Nat) (v : Value) (zs : List Int) (hlen : zs.length ≤ 300) (w : World) (hBs : Bs < w.heap.size) (hBn : Bn < w.heap.size) (hn₀ : n₀ ≤ w.heap.size)
    (hs : w.cell? ⟨Bs, 0, none⟩ = some v) (hten : w.cell? ⟨Bn, 0, none⟩ = some (.int .i64 10)) (hI : IntsIn n₀ w v zs) :
    SeqStopsK Fence.wide n Tryd.prog 12 #[.pointer (some ⟨Bs, 0, none⟩), .pointer (some ⟨Bn, 0, none⟩)] (fun x : PieceNo zs => piece (atOf v).1 (atOf v).2 zs.length x.1) (KpC Bs Bn n₀) (fun ys => ys.map (·.1) = List.range ((zs.length + 9) / 10))
      (fun _ => True) ((zs.length + 9) / 10) w := fun l J Jx W hW hJ _ hY h0 => by
  have hs' := (hW.cell (p := ⟨Bs, 0, none⟩) hBs).trans hs
  have ht' := (hW.cell (p := ⟨Bn, 0, none⟩) hBn).trans hten
  rcases hI.below (hW.mono hn₀) with ⟨a, c, rfl, rfl⟩ | ⟨b, off, cap, rfl, hlc, hcap, hb, hcs⟩
  · exact (chunk1_nil n l Bs Bn a c (fun _ W => J [] W) W hs' h0).mono fun e W' ⟨he, hj⟩ => ⟨he, .inl ⟨[], rfl, hj⟩⟩
  · refine (chunk1_in n hn l Bs Bn n₀ b off zs.length cap hlen hlc hcap (fun pre W => ∃ p : List (PieceNo zs), p.map (·.1) = pre ∧ J p W) (fun pre W => ∃ p : List (PieceNo zs), p.map (·.1) = pre ∧ Jx p W)
      (fun pre W' q ⟨p, e, h⟩ => ⟨p, e, hJ p W' (W'.drewN q) none h ⟨rfl, rfl, rfl, Nat.le_refl _, fun _ _ _ => rfl⟩ (fun r e => by cases e)⟩) ?_ W hs' ht' ⟨[], rfl, h0⟩).mono ?_
    · rintro pre x W1 ⟨p, rfl, hp⟩ hl hx
      refine YieldAt.mono (hY p ⟨x, hx⟩ W1 hp (by simpa using hl)) ?_
      rintro e W' (⟨rfl, h1, h2⟩ | ⟨rfl, h1⟩)
      · exact .inl ⟨rfl, ⟨_, by simp, h1⟩, h2⟩
      · exact .inr ⟨rfl, ⟨_, by simp, h1⟩⟩
    · rintro e W' ⟨he, ⟨ys, rfl, p, h1, h2⟩ | ⟨pre, _, p, h1, h2⟩⟩
      · exact ⟨he, .inl ⟨p, h1, h2⟩⟩
      · exact ⟨he, .inr ⟨p, trivial, h2⟩⟩

set_option maxHeartbeats 1000000 in
/-- Chunk boxes its two arguments. -/
theorem chunk_any (a : Option Addr) (len cap : Nat) (w : World) :
    Calls Tryd.prog 7 #[.slice a len cap, .int .i64 10] w fun e w' => e = .returned (.func (.func 12) #[] #[.pointer (some ⟨w.heap.size, 0, none⟩), .pointer (some ⟨w.heap.size + 1, 0, none⟩)]) ∧
      w' = (w.alloc (.cells #[.slice a len cap] 22)).alloc (.cells #[.int .i64 10] 3) := by
  have hmf : ∀ (fn : Fn) (first cap : Array Value) (w : World), (Instr.makeFunc fn first cap).run Tryd.prog w = .ok (.func fn first cap) w := fun _ _ _ _ => rfl
  go_enter Tryd.func7, Tryd.ntmps7
  go_wp2
  go_ret
  exact ⟨rfl, rfl⟩
end Go.Proofs.YtmmmebdgannpgaaDoor
