/- Part 6 of the proof: laws on memory and what functions of the program return. No conditions but those that each theorem names. -/
import Derived.Test.YtpknalpdcfjffaaGreatR05
import Derived.Laws.CopyOwn
import Derived.Deep.Upon
import Derived.BigQuiet
import Derived.Deep.QuietTactic
set_option linter.unusedVariables false
set_option linter.unusedSimpArgs false
/- The reference's grid of frequency one: its nodes. -/
namespace Go.Proofs.YtpknalpdcfjffaaGreat
open Go Go.RowKit

def isN (p : Pl) : Bool := decide (p = norP p)
/-- The nodes on the first k faces and on the first j vertices of the next. -/
def nodesTo (k j : Nat) : List Pl := ((List.range k).flatMap fun f => (vtx f).filter isN) ++ ((vtx k).take j).filter isN
theorem nodesTo_end : nodesTo 20 0 = nodes1 := by decide +kernel
theorem nodesTo_next (k : Nat) : nodesTo k 3 = nodesTo (k + 1) 0 := by
  unfold nodesTo
  rw [List.range_succ, List.flatMap_append]
  simp [vtx]
theorem nodesTo_step (k j : Nat) (p : Pl) (h : (vtx k)[j]? = some p) : nodesTo k (j + 1) = nodesTo k j ++ if isN p = true then [p] else [] := by
  unfold nodesTo
  rw [List.take_add_one, h, List.append_assoc]
  simp only [Option.toList_some, List.filter_append, List.filter_cons, List.filter_nil]
theorem nodesTo_len (k j : Nat) : (nodesTo k j).length ≤ 3 * k + 3 := by
  unfold nodesTo
  have h1 : ∀ k, ((List.range k).flatMap fun f => (vtx f).filter isN).length ≤ 3 * k := by
    intro k
    induction k with
    | zero => simp
    | succ k ih =>
      rw [List.range_succ, List.flatMap_append, List.length_append]
      have : (([k] : List Nat).flatMap fun f => (vtx f).filter isN).length ≤ 3 := by
        simp only [List.flatMap_cons, List.flatMap_nil, List.append_nil]
        exact Nat.le_trans (List.length_filter_le _ _) (by simp [vtx])
      omega
  have h2 : (((vtx k).take j).filter isN).length ≤ 3 := Nat.le_trans (List.length_filter_le _ _) (Nat.le_trans (List.length_take_le' _ _) (by simp [vtx]))
  have := h1 k
  rw [List.length_append]; omega
theorem vtx_ok (f : Nat) (hf : f < 20) (p : Pl) (hp : p ∈ vtx f) : AdrOk p := by
  refine ⟨?_, (nor_all f hf p hp).1⟩
  simp [vtx] at hp
  rcases hp with rfl | rfl | rfl <;> (unfold Pl.Ok; simp; omega)
/-- What a place of the first round is. -/
structure NdS (w : World) (k j : Nat) (v : Value) (wr : World) : Prop where
  own : OwnP wr w.heap.size v (nodesTo k j)
  below : Below w.heap.size w wr
theorem NdS.skip {w wr : World} {k j : Nat} {v : Value} (h : NdS w k j v wr) (e : nodesTo k (j + 1) = nodesTo k j) : NdS w k (j + 1) v wr := ⟨by rw [e]; exact h.own, h.below⟩
theorem NdS.next {w wr : World} {k : Nat} {v : Value} (h : NdS w k 3 v wr) : NdS w (k + 1) 0 v wr := ⟨by rw [← nodesTo_next k]; exact h.own, h.below⟩
def At840 (i : Nat) (v : Value) : Prop := (i = 0 ∧ v = .int .i64 0) ∨ (i = 1 ∧ v = .int .i64 840) ∨ (i = 2 ∧ v = .int .i64 1680)
theorem count_any (w : World) : Calls Tryz.prog 73 #[.int .i64 1] w fun e w' => e = .returned (.int .i64 12) ∧ w = w' := by
  go_enter Tryz.func73, Tryz.ntmps73
  go_wp2_with fail
  go_ret
  exact ⟨rfl, rfl⟩
set_option maxHeartbeats 16000000 in
set_option maxRecDepth 100000 in
theorem nodes_any (w : World) :
    Calls Tryz.prog 84 #[.int .i64 1] w fun e w' => ∃ v, e = .returned (.tuple #[v, .int .i64 0]) ∧ OwnP w' w.heap.size v nodes1 ∧ Below w.heap.size w w' := by
  go_enter Tryz.func84, Tryz.ntmps84
  go_wp2_with fail
  refine (count_any _).mono ?_
  rintro e w1 ⟨rfl, rfl⟩
  go_wp2_with fail
  go_loopw [5, 6] (fun lv kv wr => ∃ (k : Nat) (ov : Value), ov = lv ∧ kv = .int .i64 k ∧ k ≤ 20 ∧ Hid (NdS w k 0 ov wr)) (fun _ kv _ => (20 - intOf kv).toNat)
  case atStart => exact ⟨0, _, rfl, rfl, by omega, OwnP.nil _ _, Below.refl _ _⟩
  case round =>
    obtain ⟨k, ov, rfl, rfl, hk, hs⟩ := hrel
    by_cases hlt : k < 20
    · have k0 : (k : Int) < 20 := by omega
      have Hvx := Lib.hid (fun p hp => vtx_ok k hlt p hp)
      obtain ⟨wout, rfl⟩ : ∃ wout : World, wout = wr := ⟨_, rfl⟩
      go_wp2_with fail
      go_loopw [5, 7] (fun lv av wr => ∃ (i : Nat) (ov : Value), ov = lv ∧ At840 i av ∧ i ≤ 2 ∧ Hid (NdS w k (if i = 0 then 0 else i + 1) ov wr)) (fun _ av _ => (2000 - intOf av).toNat)
      case atStart => exact ⟨0, _, rfl, .inl ⟨rfl, rfl⟩, by omega, hs⟩
      case round =>
        clear hs
        obtain ⟨i, ov, rfl, hav, hi, hs⟩ := hrel
        obtain ⟨wout2, rfl⟩ : ∃ wout2 : World, wout2 = wr := ⟨_, rfl⟩
        rcases hav with ⟨rfl, rfl⟩ | ⟨rfl, rfl⟩ | ⟨rfl, rfl⟩
        · go_wp2_with fail
          go_loopw [5, 8] (fun lv bv wr => ∃ (m : Nat) (ov : Value), ov = lv ∧ At840 m bv ∧ m ≤ 2 ∧ Hid (NdS w k (0 + m) ov wr)) (fun _ bv _ => (2000 - intOf bv).toNat)
          case atStart => exact ⟨0, _, rfl, .inl ⟨rfl, rfl⟩, by omega, hs⟩
          case round =>
            clear hs
            obtain ⟨m, ov, rfl, hbv, hm, hs⟩ := hrel
            rcases hbv with ⟨rfl, rfl⟩ | ⟨rfl, rfl⟩ | ⟨rfl, rfl⟩
            · obtain ⟨q, hq⟩ : ∃ q, q = isN ⟨k, 0, 0, 840⟩ := ⟨_, rfl⟩
              have HN := Lib.hid (fun w' => isNormal_any k 0 0 840 (Hvx.out _ (by simp [vtx])) q hq w')
              unfold Pl.val at HN
              simp only at HN
              have HA : Hid (nodesTo k (0 + 1) = nodesTo k 0 ++ if q = true then [⟨k, 0, 0, 840⟩] else []) := by unfold Hid; rw [hq]; exact nodesTo_step k 0 _ rfl
              have HLn : Hid ((nodesTo k 0).length ≤ 100) := by unfold Hid; have := nodesTo_len k 0; omega
              have HP : Hid (RowAt (wr.alloc (.cells #[.int .i64 (k : Int), .int .i64 0, .int .i64 0, .int .i64 840] 29)) wr.heap.size (Pl.cells ⟨k, 0, 0, 840⟩)) := RowAt.new _ (Pl.cells ⟨k, 0, 0, 840⟩) (by simp [Pl.cells]) _ rfl
              have HS1 : Hid (NdS w k 0 ov (wr.alloc (.cells #[.int .i64 (k : Int), .int .i64 0, .int .i64 0, .int .i64 840] 29))) := ⟨hs.out.own.below ((Below.refl _ _).alloc (Nat.le_refl _) _), hs.out.below.alloc hs.out.below.size _⟩
              simp only [Pl.cells] at HP
              clear hs hq
              go_wp2_with (refine row_load_w rfl _ rfl _ rfl _ HP.out rowT_p ?_)
              refine (HN.out _).mono ?_
              rintro e w6 ⟨rfl, hb6⟩
              have HS6 : Hid (NdS w k 0 ov w6) := ⟨HS1.out.own.below hb6, below_then HS1.out.below hb6⟩
              have HP6 := Lib.hid (HP.out.below hb6)
              clear hb6 HS1 HP
              cases q
              · go_wp2_with fail
                go_roundw
                case rel => exact ⟨1, ov, rfl, .inr (.inl ⟨rfl, rfl⟩), by omega, HS6.out.skip (HA.out.trans (List.append_nil _))⟩
                case measure => simp [intOf]
              · have HAp : Hid (∃ (v' : Value) (w' : World), (Builtin.append_ #[194, 194] 194 #[ov, .slice (some ⟨w6.heap.size, 0, none⟩) 1 1]).run Tryz.prog (w6.alloc (.cells #[.int .i64 (k : Int), .int .i64 0, .int .i64 0, .int .i64 840] 29)) = .ok v' w' ∧
                    NdS w k (0 + 1) v' w') := by
                  obtain ⟨v', w', a1, a2, a3⟩ := append_pl HS6.out.own ⟨k, 0, 0, 840⟩ (by have := HLn.out; omega) HS6.out.below.size 194
                  exact ⟨v', w', a1, by rw [HA.out]; exact a2, HS6.out.below.trans a3⟩
                go_wp2_with (first
                  | (refine row_load rfl _ rfl _ rfl _ HP6.out rowT_p ?_)
                  | (at_builtin; obtain ⟨v', w', hrun, hs'⟩ := HAp.out; have Hrun := Lib.hid hrun; have Hs' := Lib.hid hs'; clear hrun hs'; refine wpList_append_run rfl _ _ _ rfl _ _ _ _ rfl rfl Hrun.out ?_))
                go_roundw
                case rel => exact ⟨1, v', rfl, .inr (.inl ⟨rfl, rfl⟩), by omega, Hs'.out⟩
                case measure => simp [intOf]
            · obtain ⟨q, hq⟩ : ∃ q, q = isN ⟨k, 0, 840, 0⟩ := ⟨_, rfl⟩
              have HN := Lib.hid (fun w' => isNormal_any k 0 840 0 (Hvx.out _ (by simp [vtx])) q hq w')
              unfold Pl.val at HN
              simp only at HN
              have HA : Hid (nodesTo k (1 + 1) = nodesTo k 1 ++ if q = true then [⟨k, 0, 840, 0⟩] else []) := by unfold Hid; rw [hq]; exact nodesTo_step k 1 _ rfl
              have HLn : Hid ((nodesTo k 1).length ≤ 100) := by unfold Hid; have := nodesTo_len k 1; omega
              have HP : Hid (RowAt (wr.alloc (.cells #[.int .i64 (k : Int), .int .i64 0, .int .i64 840, .int .i64 0] 29)) wr.heap.size (Pl.cells ⟨k, 0, 840, 0⟩)) := RowAt.new _ (Pl.cells ⟨k, 0, 840, 0⟩) (by simp [Pl.cells]) _ rfl
              have HS1 : Hid (NdS w k 1 ov (wr.alloc (.cells #[.int .i64 (k : Int), .int .i64 0, .int .i64 840, .int .i64 0] 29))) := ⟨hs.out.own.below ((Below.refl _ _).alloc (Nat.le_refl _) _), hs.out.below.alloc hs.out.below.size _⟩
              simp only [Pl.cells] at HP
              clear hs hq
              go_wp2_with (refine row_load_w rfl _ rfl _ rfl _ HP.out rowT_p ?_)
              refine (HN.out _).mono ?_
              rintro e w6 ⟨rfl, hb6⟩
              have HS6 : Hid (NdS w k 1 ov w6) := ⟨HS1.out.own.below hb6, below_then HS1.out.below hb6⟩
              have HP6 := Lib.hid (HP.out.below hb6)
              clear hb6 HS1 HP
              cases q
              · go_wp2_with fail
                go_roundw
                case rel => exact ⟨2, ov, rfl, .inr (.inr ⟨rfl, rfl⟩), by omega, HS6.out.skip (HA.out.trans (List.append_nil _))⟩
                case measure => simp [intOf]
              · have HAp : Hid (∃ (v' : Value) (w' : World), (Builtin.append_ #[194, 194] 194 #[ov, .slice (some ⟨w6.heap.size, 0, none⟩) 1 1]).run Tryz.prog (w6.alloc (.cells #[.int .i64 (k : Int), .int .i64 0, .int .i64 840, .int .i64 0] 29)) = .ok v' w' ∧
                    NdS w k (1 + 1) v' w') := by
                  obtain ⟨v', w', a1, a2, a3⟩ := append_pl HS6.out.own ⟨k, 0, 840, 0⟩ (by have := HLn.out; omega) HS6.out.below.size 194
                  exact ⟨v', w', a1, by rw [HA.out]; exact a2, HS6.out.below.trans a3⟩
                go_wp2_with (first
                  | (refine row_load rfl _ rfl _ rfl _ HP6.out rowT_p ?_)
                  | (at_builtin; obtain ⟨v', w', hrun, hs'⟩ := HAp.out; have Hrun := Lib.hid hrun; have Hs' := Lib.hid hs'; clear hrun hs'; refine wpList_append_run rfl _ _ _ rfl _ _ _ _ rfl rfl Hrun.out ?_))
                go_roundw
                case rel => exact ⟨2, v', rfl, .inr (.inr ⟨rfl, rfl⟩), by omega, Hs'.out⟩
                case measure => simp [intOf]
            · go_wp2_with fail
              go_roundw
              case rel => exact ⟨1, ov, rfl, .inr (.inl ⟨rfl, rfl⟩), by omega, hs⟩
              case measure => simp [intOf]
        · go_wp2_with fail
          go_loopw [5, 8] (fun lv bv wr => ∃ (m : Nat) (ov : Value), ov = lv ∧ At840 m bv ∧ m ≤ 1 ∧ Hid (NdS w k (2 + m) ov wr)) (fun _ bv _ => (2000 - intOf bv).toNat)
          case atStart => exact ⟨0, _, rfl, .inl ⟨rfl, rfl⟩, by omega, hs⟩
          case round =>
            clear hs
            obtain ⟨m, ov, rfl, hbv, hm, hs⟩ := hrel
            rcases hbv with ⟨rfl, rfl⟩ | ⟨rfl, rfl⟩ | ⟨rfl, rfl⟩
            · obtain ⟨q, hq⟩ : ∃ q, q = isN ⟨k, 840, 0, 0⟩ := ⟨_, rfl⟩
              have HN := Lib.hid (fun w' => isNormal_any k 840 0 0 (Hvx.out _ (by simp [vtx])) q hq w')
              unfold Pl.val at HN
              simp only at HN
              have HA : Hid (nodesTo k (2 + 1) = nodesTo k 2 ++ if q = true then [⟨k, 840, 0, 0⟩] else []) := by unfold Hid; rw [hq]; exact nodesTo_step k 2 _ rfl
              have HLn : Hid ((nodesTo k 2).length ≤ 100) := by unfold Hid; have := nodesTo_len k 2; omega
              have HP : Hid (RowAt (wr.alloc (.cells #[.int .i64 (k : Int), .int .i64 840, .int .i64 0, .int .i64 0] 29)) wr.heap.size (Pl.cells ⟨k, 840, 0, 0⟩)) := RowAt.new _ (Pl.cells ⟨k, 840, 0, 0⟩) (by simp [Pl.cells]) _ rfl
              have HS1 : Hid (NdS w k 2 ov (wr.alloc (.cells #[.int .i64 (k : Int), .int .i64 840, .int .i64 0, .int .i64 0] 29))) := ⟨hs.out.own.below ((Below.refl _ _).alloc (Nat.le_refl _) _), hs.out.below.alloc hs.out.below.size _⟩
              simp only [Pl.cells] at HP
              clear hs hq
              go_wp2_with (refine row_load_w rfl _ rfl _ rfl _ HP.out rowT_p ?_)
              refine (HN.out _).mono ?_
              rintro e w6 ⟨rfl, hb6⟩
              have HS6 : Hid (NdS w k 2 ov w6) := ⟨HS1.out.own.below hb6, below_then HS1.out.below hb6⟩
              have HP6 := Lib.hid (HP.out.below hb6)
              clear hb6 HS1 HP
              cases q
              · go_wp2_with fail
                go_roundw
                case rel => exact ⟨1, ov, rfl, .inr (.inl ⟨rfl, rfl⟩), by omega, HS6.out.skip (HA.out.trans (List.append_nil _))⟩
                case measure => simp [intOf]
              · have HAp : Hid (∃ (v' : Value) (w' : World), (Builtin.append_ #[194, 194] 194 #[ov, .slice (some ⟨w6.heap.size, 0, none⟩) 1 1]).run Tryz.prog (w6.alloc (.cells #[.int .i64 (k : Int), .int .i64 840, .int .i64 0, .int .i64 0] 29)) = .ok v' w' ∧
                    NdS w k (2 + 1) v' w') := by
                  obtain ⟨v', w', a1, a2, a3⟩ := append_pl HS6.out.own ⟨k, 840, 0, 0⟩ (by have := HLn.out; omega) HS6.out.below.size 194
                  exact ⟨v', w', a1, by rw [HA.out]; exact a2, HS6.out.below.trans a3⟩
                go_wp2_with (first
                  | (refine row_load rfl _ rfl _ rfl _ HP6.out rowT_p ?_)
                  | (at_builtin; obtain ⟨v', w', hrun, hs'⟩ := HAp.out; have Hrun := Lib.hid hrun; have Hs' := Lib.hid hs'; clear hrun hs'; refine wpList_append_run rfl _ _ _ rfl _ _ _ _ rfl rfl Hrun.out ?_))
                go_roundw
                case rel => exact ⟨1, v', rfl, .inr (.inl ⟨rfl, rfl⟩), by omega, Hs'.out⟩
                case measure => simp [intOf]
            · go_wp2_with fail
              go_roundw
              case rel => exact ⟨2, ov, rfl, .inr (.inr ⟨rfl, rfl⟩), by omega, hs⟩
              case measure => simp [intOf]
            · omega
        · go_wp2_with fail
          go_roundw
          case rel => exact ⟨k + 1, ov, rfl, by go_num, by omega, hs.out.next⟩
          case measure => simp [intOf]; omega
    · obtain rfl : k = 20 := by omega
      obtain ⟨oa, oc, hov⟩ := hs.out.own.slice
      go_wp2_with fail
      refine bodyPost_ret (v := .tuple #[ov, .int .i64 0]) (by simp [results, Tryz.results84, go_sem]) rfl ?_
      exact ⟨ov, rfl, by rw [← nodesTo_end]; exact hs.out.own, hs.out.below⟩
end Go.Proofs.YtpknalpdcfjffaaGreat
/- The reference's grid of frequency one: the search among its nodes. -/
namespace Go.Proofs.YtpknalpdcfjffaaGreat
open Go Go.RowKit

/-- Places in memory. -/
def PlsAt (w : World) (g : Nat) (l : List Pl) : Prop := ∀ i, (hi : i < l.length) → w.rangeAt g (i * 4) l[i].cells
theorem PlsAt.below {w w' : World} {g : Nat} {l : List Pl} (h : PlsAt w g l) (hb : Below w.heap.size w w') : PlsAt w' g l := fun i hi j u hj => cell_then hb (h i hi j u hj)
theorem hop_pl_load {ops : Array Oper} {Q : Exit → Act → World → Prop} {o : Oper} {a : Act} {w : World} {K : Act → World → Prop} (hg : o.guard = none) (x : Operand) (ho : o.op = .load 29 x)
    (b i : Nat) (hx : a.eval x = .pointer (some ⟨b, i, none⟩)) (p : Pl) (h : w.rangeAt b i p.cells) (k : K (a.put o.dst p.val) w) :
    if Region.wanted o (yielded ops a.tmps) = true then Oper.wp Tryz.prog o a w K Q else K (a.put o.dst undef) w := by
  obtain ⟨h0, d, h1, h2⟩ := rowT_p
  refine hop_val hg p.val (w' := w) ?_ k
  unfold execOp
  simp only [ho, hx, Sem.run_bind, run_loadAt_mid w b i _ p.cells d h h1 h2 h0, Result.andThen_ok, Sem.run_pure]
  rfl
set_option maxHeartbeats 4000000 in
theorem less_any (p q : Pl) (r : Bool) (hr : r = lessP p q) (w : World) : Calls Tryz.prog 92 #[p.val, q.val] w fun e w' => e = .returned (.bool r) ∧ Below w.heap.size w w' := by
  obtain ⟨a, b, c, d⟩ := p
  obtain ⟨e, f, g, h⟩ := q
  have hB : Hid (Below w.heap.size w ((w.alloc (.cells #[.int .i64 a, .int .i64 b, .int .i64 c, .int .i64 d] 29)).alloc (.cells #[.int .i64 e, .int .i64 f, .int .i64 g, .int .i64 h] 29))) := ((Below.refl _ _).alloc (Nat.le_refl _) _).alloc (by simp) _
  unfold Pl.val
  by_cases h1 : a = e
  · subst h1
    by_cases h2 : b = f
    · subst h2
      have hq : Hid (r = decide (c < g)) := by show r = _; rw [hr]; unfold lessP; rw [if_neg (by simp), if_neg (by simp)]
      clear hr
      go_enter Tryz.func92, Tryz.ntmps92
      go_wp2_with fail
      go_ret
      exact ⟨by rw [hq.out]; rfl, hB.out⟩
    · have hq : Hid (r = decide (b < f)) := by show r = _; rw [hr]; unfold lessP; rw [if_neg (by simp), if_pos h2]
      have n1 : (b == f) = false := by simpa using h2
      have n2 : (b != f) = true := by simpa using h2
      clear hr h2
      go_enter Tryz.func92, Tryz.ntmps92
      go_wp2_with fail
      go_ret
      exact ⟨by rw [hq.out]; rfl, hB.out⟩
  · have hq : Hid (r = decide (a < e)) := by show r = _; rw [hr]; unfold lessP; rw [if_pos h1]
    have n1 : (a == e) = false := by simpa using h1
    have n2 : (a != e) = true := by simpa using h1
    clear hr h1
    go_enter Tryz.func92, Tryz.ntmps92
    go_wp2_with fail
    go_ret
    exact ⟨by rw [hq.out]; rfl, hB.out⟩
/-- What the slots of find's test hold. -/
def FFi (g m cap : Nat) (x p : Pl) (r : Bool) (k : Nat) (v : Value) (_ : World) : Prop := match k with
  | 0 => v = .slice (some ⟨g, 0, none⟩) 12 cap
  | 1 => v = .int .i64 m
  | 2 => v = .pointer (some ⟨g, m * 4, none⟩)
  | 3 => v = x.val
  | 4 => v = p.val
  | 5 => v = .bool r
  | _ => True
theorem fnd_step (l : List Pl) (p : Pl) (k lo hi : Nat) (h : lo < hi) (hk : hi - lo ≤ k) : ∃ k', k = k' + 1 ∧ fnd l p k lo hi = if lessP (l.getD ((lo + hi) / 2) ⟨0, 0, 0, 0⟩) p = true then fnd l p k' ((lo + hi) / 2 + 1) hi else fnd l p k' lo ((lo + hi) / 2) := by
  obtain ⟨k', rfl⟩ : ∃ k', k = k' + 1 := ⟨k - 1, by omega⟩
  refine ⟨k', rfl, ?_⟩
  rw [fnd, if_pos h]
theorem fnd_done (l : List Pl) (p : Pl) (k lo hi : Nat) (h : ¬ lo < hi) : fnd l p k lo hi = (lo, hi) := by
  cases k with
  | zero => rfl
  | succ k => rw [fnd, if_neg h]
set_option maxHeartbeats 16000000 in
set_option maxRecDepth 100000 in
theorem find_any (g cap : Nat) (hcap : 12 ≤ cap ∧ cap ≤ 9223372036854775807) (p : Pl) (i : Nat) (hi : (fnd nodes1 p 12 0 12).1 = i) (hi2 : i < 12) (hi3 : nodes1.getD i ⟨0, 0, 0, 0⟩ = p) (w : World) (hl : PlsAt w g nodes1) :
    Calls Tryz.prog 90 #[.slice (some ⟨g, 0, none⟩) 12 cap, p.val] w fun e w' => e = .returned (.int .i64 i) ∧ Below w.heap.size w w' := by
  have HL := Lib.hid hl
  have HI := Lib.hid (And.intro hi hi3)
  have hlen := nodes1_length
  have Hlen := Lib.hid hlen
  have HR0 : Hid (RowAt (w.alloc (.cells p.cells.toArray 29)) w.heap.size p.cells) := RowAt.new _ _ (by simp [Pl.cells]) _ rfl
  have HB0 : Hid (Below w.heap.size w (w.alloc (.cells p.cells.toArray 29))) := (Below.refl _ _).alloc (Nat.le_refl _) _
  have hc1 := hcap.1
  have hc2 := hcap.2
  clear hl hi hi3 hlen hcap
  unfold Pl.val
  simp only [Pl.cells] at HR0 HB0
  go_enter Tryz.func90, Tryz.ntmps90
  go_wp2_with fail
  go_loopw [5, 6] (fun lv hv wr => ∃ (lo hi k : Nat), lv = .int .i64 lo ∧ hv = .int .i64 hi ∧ lo ≤ hi ∧ hi ≤ 12 ∧ hi - lo ≤ k ∧ Hid ((fnd nodes1 p k lo hi).1 = i) ∧ Hid (RowAt wr w.heap.size p.cells) ∧ Hid (Below w.heap.size w wr)) (fun lv hv _ => (intOf hv - intOf lv).toNat)
  case atStart => exact ⟨0, 12, 12, rfl, rfl, by omega, by omega, by omega, HI.out.1, HR0.out, HB0.out⟩
  case round =>
    clear HR0 HB0
    obtain ⟨lo, hi, k, rfl, rfl, hlh, hh, hk, hf, hr, hb⟩ := hrel
    by_cases hlt : lo < hi
    · obtain ⟨k', hk', hst⟩ := fnd_step nodes1 p k lo hi hlt hk
      obtain ⟨m, hm⟩ : ∃ m, m = (lo + hi) / 2 := ⟨_, rfl⟩
      have hm1 : lo ≤ m := by omega
      have hm2 : m < hi := by omega
      have hml : m < nodes1.length := by have := Hlen.out; omega
      have hget : nodes1.getD m ⟨0, 0, 0, 0⟩ = nodes1[m] := by rw [List.getD_eq_getElem?_getD, List.getElem?_eq_getElem hml]; rfl
      rw [← hm, hget] at hst
      have hmI : ((lo : Int) + (hi : Int)) / 2 = (m : Int) := by omega
      have i0 : (0 : Int) ≤ (lo : Int) := by omega
      have i1 : (lo : Int) < (hi : Int) := by omega
      have i2 : (hi : Int) ≤ 12 := by omega
      have HX : Hid (wr.rangeAt g (m * 4) nodes1[m].cells) := fun j u hj => cell_then hb.out (HL.out m hml j u hj)
      have Hm : Hid (lo ≤ m ∧ m < hi ∧ hi ≤ 12 ∧ hi - lo ≤ k' + 1) := ⟨hm1, hm2, hh, by omega⟩
      have Hm1 : Hid ((m : Int) < 12) := by unfold Hid; omega
      have Hst := Lib.hid hst
      have HK := Lib.hid hk'
      clear hst hk' hm hm1 hm2 hh hlh hk hlt
      generalize nodes1[m] = x at *
      obtain ⟨r, hrr⟩ : ∃ r, r = lessP x p := ⟨_, rfl⟩
      rw [← hrr] at Hst
      have Hr := Lib.hid hrr
      clear hrr hget
      go_upto_region 4 with fail
      simp only [hmI]
      clear hmI
      refine wp_region_slots (by kernel_rfl) 39 rfl (by kernel_rfl) (by kernel_rfl) 17 6 (by kernel_rfl) (fun _ w' => RowAt w' w.heap.size p.cells ∧ w'.rangeAt g (m * 4) x.cells ∧ Below w.heap.size w w') (FFi g m cap x p r) ?hS0 ?hop ?hend
      case hS0 => exact ⟨hr.out.drew, HX.out, hb.out.drew⟩
      case hop =>
        refine ⟨?_, ?_, ?_, ?_, ?_, ?_, trivial⟩
        all_goals intro d ac wx hd hcl hS hA haft K hK
        · have f0 : ac.tmps.getD 0 undef = .slice (some ⟨g, 0, none⟩) 12 cap := same_slot hA 0 (by kernel_rfl)
          refine hop_val rfl (.slice (some ⟨g, 0, none⟩) 12 cap) (w' := wx) ?_ (hK _ _ rfl (fun _ _ _ h => h) hS)
          simp [execOp, Act.eval, f0, go_sem, -Array.getD_eq_getD_getElem?]
        · have f7 : ac.tmps.getD 7 undef = .int .i64 m := same_slot hA 7 (by kernel_rfl)
          refine hop_val rfl (.int .i64 m) (w' := wx) ?_ (hK _ _ rfl (fun _ _ _ h => h) hS)
          simp [execOp, Act.eval, f7, go_sem, -Array.getD_eq_getD_getElem?]
        · have f17 : ac.tmps.getD 17 undef = .slice (some ⟨g, 0, none⟩) 12 cap := (haft ⟨0, .data⟩ (by simp) rfl).2 _ rfl
          have f18 : ac.tmps.getD 18 undef = .int .i64 m := (haft ⟨1, .data⟩ (by simp) rfl).2 _ rfl
          have m0 : (0 : Int) ≤ (m : Int) := Int.natCast_nonneg m
          have m1 := Hm1.out
          refine hop_val rfl (.pointer (some ⟨g, m * 4, none⟩)) (w' := wx) ?_ (hK _ _ rfl (fun _ _ _ h => h) hS)
          simp [execOp, Act.eval, f17, f18, m0, m1, go_sem, -Array.getD_eq_getD_getElem?]
        · have f19 : ac.tmps.getD 19 undef = .pointer (some ⟨g, m * 4, none⟩) := (haft ⟨2, .data⟩ (by simp) rfl).2 _ rfl
          exact hop_pl_load rfl _ rfl _ _ f19 x (hS.2.1) (hK _ _ rfl (fun _ _ _ h => h) hS)
        · have f3 : ac.tmps.getD 3 undef = .pointer (some ⟨w.heap.size, 0, none⟩) := same_slot hA 3 (by kernel_rfl)
          exact hop_row_load rfl _ rfl _ f3 _ hS.1 rowT_p (hK _ _ rfl (fun _ _ _ h => h) hS)
        · have f20 : ac.tmps.getD 20 undef = x.val := (haft ⟨3, .data⟩ (by simp) rfl).2 _ rfl
          have f21 : ac.tmps.getD 21 undef = p.val := (haft ⟨4, .data⟩ (by simp) rfl).2 _ rfl
          refine hop_call rfl Tryz.func92 (by kernel_rfl) (by kernel_rfl) _ _ rfl #[x.val, p.val] (by simp only [List.map_toArray, List.map_cons, List.map_nil, Act.eval, f20, f21]) _ (less_any x p r Hr.out wx) ?_
          rintro e wy ⟨rfl, hby⟩
          exact ⟨_, rfl, hK _ _ rfl (fun _ _ _ h => h) ⟨hS.1.below hby, fun j u hj => cell_then hby (hS.2.1 j u hj), below_then hS.2.2 hby⟩⟩
      case hend =>
        intro u w4 d hd hS hF
        have hu : u 22 = .bool r := hF 5 _ rfl
        have HS4 := Lib.hid hS
        clear hF hd hS d HX hr hb
        simp only [mixL, hu]
        have hmn := Hm.out
        have m0 : (0 : Int) ≤ (m : Int) := by omega
        have m1 : (m : Int) < 12 := by omega
        cases r
        · go_wp2_with fail
          go_roundw
          case rel => exact ⟨lo, m, k', rfl, rfl, by omega, by omega, by omega, by have h1 := hf.out; have h2 := Hst.out; rw [HK.out] at h1 h2; rw [h2] at h1; show (fnd _ _ _ _ _).1 = _; simpa using h1, HS4.out.1, HS4.out.2.2⟩
          case measure => simp [intOf]; omega
        · go_wp2_with fail
          go_roundw
          case rel => exact ⟨m + 1, hi, k', by go_num, rfl, by omega, by omega, by omega, by have h1 := hf.out; have h2 := Hst.out; rw [HK.out] at h1 h2; rw [h2] at h1; show (fnd _ _ _ _ _).1 = _; simpa using h1, HS4.out.1, HS4.out.2.2⟩
          case measure => simp [intOf]; omega
    · have hfe := fnd_done nodes1 p k lo hi hlt
      have hli : lo = i := by have h1 := hf.out; rw [hfe] at h1; exact h1
      subst hli
      have hml : lo < nodes1.length := by have := Hlen.out; omega
      have HX : Hid (wr.rangeAt g (lo * 4) p.cells) := by
        intro j u hj
        have e : nodes1[lo] = p := by rw [← HI.out.2, List.getD_eq_getElem?_getD, List.getElem?_eq_getElem hml]; rfl
        refine cell_then hb.out (HL.out lo hml j u ?_)
        rw [e]; exact hj
      have i0 : (0 : Int) ≤ (lo : Int) := by omega
      have i1 : (lo : Int) < 12 := by omega
      have i2 : (hi : Int) ≤ (lo : Int) := by omega
      obtain ⟨pf, pa, pb, pc⟩ := p
      have x0 : wr.cell? ⟨g, lo * 4, none⟩ = some (.int .i64 pf) := HX.out 0 _ rfl
      have x1 : wr.cell? ⟨g, lo * 4 + 1, none⟩ = some (.int .i64 pa) := HX.out 1 _ rfl
      have x2 : wr.cell? ⟨g, lo * 4 + 2, none⟩ = some (.int .i64 pb) := HX.out 2 _ rfl
      have x3 : wr.cell? ⟨g, lo * 4 + 3, none⟩ = some (.int .i64 pc) := HX.out 3 _ rfl
      have y0 := hr.out.at 0 rfl
      have y1 := hr.out.at 1 rfl
      have y2 := hr.out.at 2 rfl
      have y3 := hr.out.at 3 rfl
      clear hfe hlt hlh hh hk
      go_wp2_with fail
      go_region
      go_wp2_with fail
      go_ret
      exact ⟨rfl, hb.out.drew⟩
end Go.Proofs.YtpknalpdcfjffaaGreat
/- The reference's grid of frequency one: where a place is among its nodes; cells. -/
namespace Go.Proofs.YtpknalpdcfjffaaGreat
open Go Go.RowKit

theorem norP_ok (f : Nat) (hf : f < 20) (p : Pl) (hp : p ∈ vtx f) : ∃ i, i < 12 ∧ (fnd nodes1 (norP p) 12 0 12).1 = i ∧ nodes1.getD i ⟨0, 0, 0, 0⟩ = norP p := by
  obtain ⟨_, h1, h2, h3⟩ := nor_all f hf p hp
  exact ⟨_, h2, h1, h3⟩
/-- What 'at' returns: the number of a node. -/
def AtIs (w : World) (e : Ending) (w' : World) : Prop := ∃ i : Nat, i < 12 ∧ e = .returned (.int .i64 i) ∧ Below w.heap.size w w'
set_option maxHeartbeats 4000000 in
set_option maxRecDepth 100000 in
theorem at_any (g cap : Nat) (hcap : 12 ≤ cap ∧ cap ≤ 9223372036854775807) (f : Nat) (hf : f < 20) (a b : Int) (hp : (⟨f, a, b, 840 - a - b⟩ : Pl) ∈ vtx f) (w : World) (hl : PlsAt w g nodes1) :
    Calls Tryz.prog 87 #[.slice (some ⟨g, 0, none⟩) 12 cap, .int .i64 f, .int .i64 a, .int .i64 b] w (AtIs w) := by
  obtain ⟨i, h1, h2, h3⟩ := norP_ok f hf _ hp
  have HN := Lib.hid (fun w' => normal_any f a b (840 - a - b) (vtx_ok f hf _ hp) w')
  have HF := Lib.hid (fun w' h => find_any g cap hcap (norP ⟨f, a, b, 840 - a - b⟩) i h2 h1 h3 w' h)
  have HL := Lib.hid hl
  have hr : 0 ≤ a ∧ a ≤ 840 ∧ 0 ≤ b ∧ b ≤ 840 := by
    have := (vtx_ok f hf _ hp).1
    unfold Pl.Ok at this
    simp only at this
    omega
  obtain ⟨r0, r1, r2, r3⟩ := hr
  generalize norP ⟨f, a, b, 840 - a - b⟩ = p at *
  obtain ⟨pf, pa, pb, pc⟩ := p
  unfold Pl.val at HN HF
  simp only at HN HF
  have Hi := Lib.hid h1
  clear hp h1 h2 h3 hl hcap hf
  go_enter Tryz.func87, Tryz.ntmps87
  go_wp2_with fail
  refine (HN.out _).mono ?_
  rintro e w1 ⟨rfl, hb1⟩
  have HP : Hid (RowAt (w1.alloc (.cells #[.int .i64 pf, .int .i64 pa, .int .i64 pb, .int .i64 pc] 29)) w1.heap.size [.int .i64 pf, .int .i64 pa, .int .i64 pb, .int .i64 pc]) := RowAt.new _ [.int .i64 pf, .int .i64 pa, .int .i64 pb, .int .i64 pc] (by simp) _ rfl
  have HB := Lib.hid (hb1.alloc hb1.size (.cells #[.int .i64 pf, .int .i64 pa, .int .i64 pb, .int .i64 pc] 29))
  clear hb1
  go_wp2_with (refine row_load rfl _ rfl _ rfl _ HP.out rowT_p ?_)
  refine (HF.out _ (HL.out.below HB.out)).mono ?_
  rintro e w2 ⟨rfl, hb2⟩
  have HB2 := Lib.hid (below_then HB.out hb2)
  clear hb2
  go_wp2_with fail
  go_ret
  exact ⟨i, Hi.out, rfl, HB2.out⟩
/-- What 'cell' returns: three numbers of nodes. -/
def CellIs (w : World) (e : Ending) (w' : World) : Prop := ∃ x y z : Int, e = .returned (.agg #[.int .i64 x, .int .i64 y, .int .i64 z]) ∧ (0 ≤ x ∧ x < 12) ∧ (0 ≤ y ∧ y < 12) ∧ (0 ≤ z ∧ z < 12) ∧ Below w.heap.size w w'
theorem cell_end (w : World) (x y z : Int) (hx : 0 ≤ x ∧ x < 12) (hy : 0 ≤ y ∧ y < 12) (hz : 0 ≤ z ∧ z < 12) : CellIs w (.returned (.agg #[.int .i64 x, .int .i64 y, .int .i64 z])) (w.alloc (.cells #[.int .i64 x, .int .i64 y, .int .i64 z] 190)) :=
  ⟨x, y, z, rfl, hx, hy, hz, (Below.refl _ _).alloc (Nat.le_refl _) _⟩
set_option maxHeartbeats 8000000 in
theorem cell_any (a b c : Nat) (ha : a < 12) (hb : b < 12) (hc : c < 12) (w : World) :
    Calls Tryz.prog 86 #[.int .i64 a, .int .i64 b, .int .i64 c] w (CellIs w) := by
  have a0 : (0 : Int) ≤ (a : Int) := by omega
  have b0 : (0 : Int) ≤ (b : Int) := by omega
  have c0 : (0 : Int) ≤ (c : Int) := by omega
  have a1 : (a : Int) < 12 := by omega
  have b1 : (b : Int) < 12 := by omega
  have c1 : (c : Int) < 12 := by omega
  clear ha hb hc
  obtain ⟨x, hx⟩ : ∃ x : Int, x = a := ⟨_, rfl⟩
  obtain ⟨y, hy⟩ : ∃ x : Int, x = b := ⟨_, rfl⟩
  obtain ⟨z, hz⟩ : ∃ x : Int, x = c := ⟨_, rfl⟩
  have x0 : 0 ≤ x := by omega
  have y0 : 0 ≤ y := by omega
  have z0 : 0 ≤ z := by omega
  have x1 : x < 12 := by omega
  have y1 : y < 12 := by omega
  have z1 : z < 12 := by omega
  rw [← hx, ← hy, ← hz]
  clear hx hy hz a0 b0 c0 a1 b1 c1
  have h1 : x < y ∨ y ≤ x := by omega
  have h2 : y < z ∨ z ≤ y := by omega
  have h3 : x < z ∨ z ≤ x := by omega
  rcases h1 with h1 | h1 <;> rcases h2 with h2 | h2 <;> rcases h3 with h3 | h3
  all_goals
    first
    | (exfalso; omega)
    | (go_enter Tryz.func86, Tryz.ntmps86
       go_wp2_with fail
       go_prune
       all_goals
         refine bodyPost_ret (v := .agg #[_, _, _]) (by first | (simp [results, Tryz.results86, go_sem]; done) | (simp [results, Tryz.results86, go_sem]; rfl)) rfl (cell_end _ _ _ _ ?_ ?_ ?_)
         all_goals (constructor <;> (repeat' split) <;> omega))
end Go.Proofs.YtpknalpdcfjffaaGreat
/- The reference's grid of frequency one: a cell is put among cells. -/
namespace Go.Proofs.YtpknalpdcfjffaaGreat
open Go Go.RowKit

/-- copy onto a row that is known whole, of elements of several cells. -/
theorem run_copy_rowN {P : Program} (w : World) (dT sT ty elem : TypeId) (g o dLen dCap : Nat) (a : Addr) (sLen sCap sz n : Nat) (cur : Array Value) (t : TypeId) (cs : List Value)
    (hu : P.underlying dT = some (.slice elem)) (hs : (P.info? elem).map (·.size) = some sz)
    (hg : w.heap[g]? = some (.cells cur t (0, 0))) (hn : n = Nat.min sLen dLen) (hc : cs.length = n * sz)
    (hsrc : ∀ j v, cs[j]? = some v → w.cell? (a.add j) = some v) (hfit : o + cs.length ≤ cur.size) (h1 : ∀ v ∈ cs, v.oneCell' = true) :
    (Builtin.copy_ #[dT, sT] ty #[.slice (some ⟨g, o, none⟩) dLen dCap, .slice (some a) sLen sCap]).run P w =
      .ok (goInt n) (w.setRow g (cur.toList.take o ++ cs ++ cur.toList.drop (o + cs.length)).toArray) := by
  have hl := run_loadCells_list (P := P) w a cs hsrc
  have hst := run_storeCells_at P g o t cs 0 cur w hg (by simpa using hfit) h1
  cases hq : P.info? elem with
  | none => simp [hq] at hs
  | some i =>
    have hi : i.size = sz := by simpa [hq] using hs
    simp [Builtin.copy_, run_underlying hu, Builtin.lenOf, Builtin.firstCells, sizeOf, typeInfo, hq, hi, ← hn, ← hc, hl, hst]
/-- A small number. -/
def Sm (v : Value) : Prop := ∃ z : Int, 0 ≤ z ∧ z < 12 ∧ v = .int .i64 z
/-- v is a slice of n cells of the call's own, all of whose numbers are small; nil, if there are none. -/
def OwnC (w : World) (base : Nat) (v : Value) (n : Nat) : Prop := (n = 0 → v = .slice none 0 0) ∧ ∃ cs : List Value, w.ownsRow base 190 3 v n cs ∧ ∀ u ∈ cs, Sm u
theorem OwnC.nil (w : World) (base : Nat) : OwnC w base (.slice none 0 0) 0 := ⟨fun _ => rfl, [], World.ownsRow_nil w base _ 3, by simp⟩
theorem OwnC.below {w w' : World} {base : Nat} {v : Value} {n : Nat} (h : OwnC w base v n) (hb : Below w.heap.size w w') : OwnC w' base v n := by
  obtain ⟨h0, cs, h1, h2⟩ := h
  exact ⟨h0, cs, ownsRow_below h1 hb, h2⟩
theorem OwnC.slice {w : World} {base : Nat} {v : Value} {n : Nat} (h : OwnC w base v n) : ∃ a c, v = .slice a n c := by
  obtain ⟨_, cs, h1, h2⟩ := h
  rcases h1.2 with ⟨e, h0⟩ | ⟨g, cap, cur, e, _⟩
  · exact ⟨none, 0, by rw [e, h0]⟩
  · exact ⟨_, _, e⟩
theorem OwnC.lt {w : World} {base : Nat} {v : Value} {n : Nat} (h : OwnC w base v n) : ∀ g, v.ownBlock = some g → g < w.heap.size := by
  obtain ⟨_, cs, h1, _⟩ := h
  exact fun g hg => (World.ownsRow.lt h1 g hg).2
/-- A block of the same type that holds one cell. -/
def Box (w : World) (b : Nat) (x y z : Int) : Prop := w.heap[b]? = some (.cells #[.int .i64 x, .int .i64 y, .int .i64 z] 190 (0, 0))
theorem Box.row {w : World} {b : Nat} {x y z : Int} (h : Box w b x y z) : RowAt w b [.int .i64 x, .int .i64 y, .int .i64 z] := by
  refine ⟨by simp, fun i hi => ?_, fun i hi => ?_⟩
  · unfold Box at h
    simp [World.cell?, h]
  · unfold Box at h
    simp [World.frozen?, h]
theorem cinfo : (Tryz.prog.info? 190).map (fun i => (i.zero, i.size, i.bytes)) = some (some (.agg #[.int .i64 0, .int .i64 0, .int .i64 0]), 3, 24) := by kernel_rfl
/-- The slice behind an append: its row known whole, and not the box. -/
structure Raw (w : World) (base b : Nat) (v : Value) (n : Nat) : Prop where
  own : OwnC w base v n
  off : v.ownBlock ≠ some b
theorem append_cl {w : World} {base b : Nat} {v : Value} {n : Nat} {x y z : Int} (h : OwnC w base v n) (hx : Box w b x y z) (hvb : v.ownBlock ≠ some b) (hn : n ≤ 1000000000) (hb : base ≤ w.heap.size) (ty : TypeId) :
    ∃ (v' : Value) (w' : World), (Builtin.append_ #[186, 186] ty #[v, .slice (some ⟨w.heap.size, 0, none⟩) 1 1]).run Tryz.prog (w.alloc (.cells #[.int .i64 0, .int .i64 0, .int .i64 0] 190)) = .ok v' w' ∧
      OwnC w' base v' (n + 1) ∧ Box w' b x y z ∧ v'.ownBlock ≠ some b ∧ Below base w w' := by
  obtain ⟨hnil, cs, h1, h2⟩ := h
  have hlt : b < w.heap.size := (Array.getElem?_eq_some_iff.1 hx).1
  have hal : Below w.heap.size w (w.alloc (.cells #[.int .i64 0, .int .i64 0, .int .i64 0] 190)) := (Below.refl _ _).alloc (Nat.le_refl _) _
  have hA := World.ownsRow.alloc h1 (.cells #[.int .i64 0, .int .i64 0, .int .i64 0] 190)
  have hnews : ∀ j u, [Value.int .i64 0, .int .i64 0, .int .i64 0][j]? = some u → (w.alloc (.cells #[.int .i64 0, .int .i64 0, .int .i64 0] 190)).cell? ((⟨w.heap.size, 0, none⟩ : Addr).add j) = some u := World.news_of_block (cs := #[.int .i64 0, .int .i64 0, .int .i64 0]) (t := 190) (fr := (0, 0)) (heap_alloc_new w _)
  obtain ⟨v', w', a1, a2, a3, a4⟩ := append_at 186 190 Tryz.underlying186 cinfo rfl (by decide) hA ⟨w.heap.size, 0, none⟩ 1 1 [.int .i64 0, .int .i64 0, .int .i64 0] rfl hnews (by simp [Value.oneCell']) hn (by omega) (by decide) (by simp; omega) ty
  have hbx : w'.heap[b]? = w.heap[b]? := by
    rw [a4.block b (by simp; omega) (fun e => hvb e.symm)]
    exact hal.block b hlt
  have hx' : Box w' b x y z := by unfold Box; rw [hbx]; exact hx
  refine ⟨v', w', a1, ⟨fun h => by omega, _, a2, fun u hu => ?_⟩, hx', ?_, (hal.mono hb).trans a3⟩
  · rcases List.mem_append.1 hu with hu | hu
    · exact h2 u hu
    · simp at hu; subst hu; exact ⟨0, by omega, by omega, rfl⟩
  · intro he
    rcases Nat.eq_zero_or_pos n with h0 | h0
    · subst h0
      obtain rfl := hnil rfl
      obtain ⟨v2, w2, b1, b2, _, _⟩ := append_at 186 190 Tryz.underlying186 cinfo rfl (by decide) (World.ownsRow_nil (w.alloc (.cells #[.int .i64 0, .int .i64 0, .int .i64 0] 190)) (b + 1) _ 3) ⟨w.heap.size, 0, none⟩ 1 1 [.int .i64 0, .int .i64 0, .int .i64 0] rfl hnews (by simp [Value.oneCell']) hn (by omega) (by decide) (by simp; omega) ty
      rw [a1] at b1
      injection b1 with e1 e2
      subst e1 e2
      have := (World.ownsRow.lt b2 b he).1
      omega
    · rcases a2.2 with ⟨e, h0'⟩ | ⟨g, cap, cur, e, hg, hh, hc, hm, hsz, _⟩
      · omega
      · rw [e] at he
        obtain rfl : g = b := by simpa [Value.ownBlock] using he
        rw [hbx, hx] at hh
        simp at hh
        obtain ⟨rfl, _⟩ := hh
        simp at hsz
        omega
/-- The three numbers of cell i. -/
theorem OwnC.at {w : World} {base : Nat} {v : Value} {n : Nat} (h : OwnC w base v n) (h0 : 0 < n) : ∃ g cap, v = .slice (some ⟨g, 0, none⟩) n cap ∧ base ≤ g ∧ n ≤ cap ∧ cap ≤ 9223372036854775807 ∧ ∀ i, i < n * 3 → ∃ z : Int, 0 ≤ z ∧ z < 12 ∧ w.cell? ⟨g, i, none⟩ = some (.int .i64 z) := by
  obtain ⟨_, cs, h', h2⟩ := h
  have h := h'
  obtain ⟨h1, h3⟩ := h
  rcases h3 with ⟨e, h0'⟩ | ⟨g, cap, cur, e, hg, hh, hc, hm, _⟩
  · omega
  · refine ⟨g, cap, e, hg, hc, by unfold maxLen at hm; omega, fun i hi => ?_⟩
    have hil : i < cs.length := by omega
    obtain ⟨z, z0, z1, hz⟩ := h2 _ (List.getElem_mem hil)
    have := World.ownsRow.cells h' (g := g) (by rw [e]; rfl) i _ (List.getElem?_eq_getElem hil)
    rw [Go.WideShapes.add_plain, Nat.zero_add] at this
    exact ⟨z, z0, z1, by rw [this, hz]⟩
/-- The row of such a slice, whole. -/
theorem OwnC.raw {w : World} {base : Nat} {v : Value} {n : Nat} (h : OwnC w base v n) (h0 : 0 < n) : ∃ (g cap : Nat) (cur : List Value), v = .slice (some ⟨g, 0, none⟩) n cap ∧ base ≤ g ∧ w.heap[g]? = some (.cells cur.toArray 190 (0, 0)) ∧ n ≤ cap ∧ cap ≤ 9223372036854775807 ∧ cur.length = cap * 3 ∧ ∀ i, i < n * 3 → ∃ u, cur[i]? = some u ∧ Sm u := by
  obtain ⟨_, cs, ⟨h1, h3⟩, h2⟩ := h
  rcases h3 with ⟨e, h0'⟩ | ⟨g, cap, cur, e, hg, hh, hc, hm, hs, ht⟩
  · omega
  · refine ⟨g, cap, cur.toList, e, hg, by simpa using hh, hc, by unfold maxLen at hm; omega, by simpa using hs, fun i hi => ?_⟩
    have hil : i < cs.length := by omega
    refine ⟨cs[i], ?_, h2 _ (List.getElem_mem hil)⟩
    have e2 : (cur.toList.take (n * 3))[i]? = cs[i]? := by rw [ht]
    rw [List.getElem?_take_of_lt hi, List.getElem?_eq_getElem hil] at e2
    exact e2
/-- The row put back, its small numbers small still. -/
theorem ownC_row {w : World} {base g cap n : Nat} {cur cur' : List Value} (hg : base ≤ g) (hh : w.heap[g]? = some (.cells cur.toArray 190 (0, 0))) (hn : 0 < n) (hc : n ≤ cap) (hm : cap ≤ 9223372036854775807) (hl : cur'.length = cap * 3) (hs : ∀ i, i < n * 3 → ∃ u, cur'[i]? = some u ∧ Sm u) :
    OwnC (w.setRow g cur'.toArray) base (.slice (some ⟨g, 0, none⟩) n cap) n := by
  refine ⟨fun h => by omega, cur'.take (n * 3), ⟨?_, Or.inr ⟨g, cap, cur'.toArray, rfl, hg, setRow_heap _ _ _ _ _ _ hh, hc, by unfold maxLen; omega, by simpa using hl, by simp⟩⟩, fun u hu => ?_⟩
  · rw [List.length_take, hl, Nat.min_eq_left (Nat.mul_le_mul_right 3 hc)]
  · obtain ⟨i, hi, rfl⟩ := List.getElem_of_mem hu
    rw [List.length_take] at hi
    obtain ⟨u, h1, h2⟩ := hs i (by omega)
    rw [List.getElem_take]
    rw [List.getElem?_eq_some_iff] at h1
    obtain ⟨_, rfl⟩ := h1
    exact h2
theorem OwnC.set {w : World} {base g cap n : Nat} (h : OwnC w base (.slice (some ⟨g, 0, none⟩) n cap) n) (i : Nat) (hi : i < n * 3) {u : Value} (hu : Sm u) : OwnC (w.setCell ⟨g, i, none⟩ u) base (.slice (some ⟨g, 0, none⟩) n cap) n := by
  obtain ⟨g', cap', cur, e, hg, hh, hc, hm, hl, hs⟩ := h.raw (by omega)
  obtain ⟨rfl, rfl⟩ : g = g' ∧ cap = cap' := by simpa using e
  rw [setCell_eq_setRow _ _ _ _ _ _ _ hh]
  have e2 : cur.toArray.setIfInBounds i u = (cur.set i u).toArray := by simp
  rw [e2]
  refine ownC_row hg hh (by omega) hc hm (by rw [List.length_set]; exact hl) fun j hj => ?_
  by_cases hij : i = j
  · subst hij
    exact ⟨u, by rw [List.getElem?_set_self (by omega)], hu⟩
  · rw [List.getElem?_set_ne hij]; exact hs j hj
def InsIs (w : World) (base n : Nat) (e : Ending) (w' : World) : Prop := ∃ v', e = .returned v' ∧ OwnC w' base v' (n + 1) ∧ Below base w w'
theorem rowT_c : RowT 190 3 := ⟨by kernel_rfl, _, Tryz.underlying190, rfl⟩
end Go.Proofs.YtpknalpdcfjffaaGreat
/- The reference's grid of frequency one: a cell is put among cells. -/
namespace Go.Proofs.YtpknalpdcfjffaaGreat
open Go Go.RowKit

def FCp (g o k n cap : Nat) (ix : Nat) (v : Value) (_ : World) : Prop := match ix with
  | 0 => v = .slice (some ⟨g, 0, none⟩) (n + 1) cap
  | 1 => v = .int .i64 k
  | 2 => v = .int .i64 ((k : Int) + 1)
  | 3 => v = .slice (some ⟨g, o, none⟩) (n - k) (cap - (k + 1))
  | 4 => v = .slice (some ⟨g, 0, none⟩) (n + 1) cap
  | 5 => v = .int .i64 k
  | 6 => v = .slice (some ⟨g, k * 3, none⟩) (n + 1 - k) (cap - k)
  | _ => True
theorem copy_small (cur : List Value) (n k o cap : Nat) (hk : k ≤ n) (hl : cur.length = cap * 3) (hsm : ∀ i, i < (n + 1) * 3 → ∃ u, cur[i]? = some u ∧ Sm u) (hcap : n + 1 ≤ cap) (ho : o = if k + 1 = cap then 0 else (k + 1) * 3) :
    ((cur.drop (k * 3)).take ((n - k) * 3)).length = (n - k) * 3 ∧ o + ((cur.drop (k * 3)).take ((n - k) * 3)).length ≤ cur.toArray.size ∧ (∀ v ∈ (cur.drop (k * 3)).take ((n - k) * 3), v.oneCell' = true) ∧
      (cur.take o ++ (cur.drop (k * 3)).take ((n - k) * 3) ++ cur.drop (o + ((cur.drop (k * 3)).take ((n - k) * 3)).length)).length = cap * 3 ∧
      ∀ i, i < (n + 1) * 3 → ∃ u, (cur.take o ++ (cur.drop (k * 3)).take ((n - k) * 3) ++ cur.drop (o + ((cur.drop (k * 3)).take ((n - k) * 3)).length))[i]? = some u ∧ Sm u := by
  have hlen : ((cur.drop (k * 3)).take ((n - k) * 3)).length = (n - k) * 3 := by rw [List.length_take, List.length_drop]; omega
  have hcs : ∀ j, j < (n - k) * 3 → ∃ u, ((cur.drop (k * 3)).take ((n - k) * 3))[j]? = some u ∧ Sm u := by
    intro j hj
    rw [List.getElem?_take_of_lt hj, List.getElem?_drop]
    exact hsm _ (by omega)
  have ho2 : o + (n - k) * 3 ≤ cap * 3 := by rw [ho]; split <;> omega
  have htk : (cur.take o).length = o := by rw [List.length_take]; omega
  generalize (cur.drop (k * 3)).take ((n - k) * 3) = cs at *
  refine ⟨hlen, by rw [hlen, List.size_toArray, hl]; exact ho2, fun v hv => ?_, ?_, fun i hi => ?_⟩
  · obtain ⟨j, hj, rfl⟩ := List.getElem_of_mem hv
    obtain ⟨u, h1, z, _, _, rfl⟩ := hcs j (by omega)
    rw [List.getElem?_eq_getElem hj] at h1
    injection h1 with h1
    rw [h1]; rfl
  · rw [List.length_append, List.length_append, htk, List.length_drop, hlen]
    omega
  · rw [List.append_assoc]
    by_cases h1 : i < o
    · rw [List.getElem?_append_left (by rw [htk]; exact h1), List.getElem?_take_of_lt h1]
      exact hsm i hi
    · rw [List.getElem?_append_right (by rw [htk]; omega), htk]
      by_cases h2 : i - o < (n - k) * 3
      · rw [List.getElem?_append_left (by rw [hlen]; exact h2)]
        exact hcs _ h2
      · rw [List.getElem?_append_right (by rw [hlen]; omega), List.getElem?_drop, hlen]
        have e : o + (n - k) * 3 + (i - o - (n - k) * 3) = i := by omega
        rw [e]; exact hsm i hi
theorem OwnC.there {w : World} {base g cap m : Nat} (h : OwnC w base (.slice (some ⟨g, 0, none⟩) m cap) m) (k : Nat) (hk : k < m) : w.there g (k * 3) 3 := by
  obtain ⟨g', cap', cur, e, hg, hh, hc, hm, hl, hs⟩ := h.raw (by omega)
  obtain ⟨rfl, rfl⟩ : g = g' ∧ cap = cap' := by simpa using e
  intro j hj
  refine ⟨?_, ?_⟩
  · obtain ⟨u, h1, _⟩ := hs (k * 3 + j) (by omega)
    simp [World.cell?, hh, h1]
  · simp [World.frozen?, hh]
theorem copy_src {w : World} {g : Nat} {cur : List Value} {k m : Nat} {t : TypeId} {fr : Nat × Nat} (hh : w.heap[g]? = some (.cells cur.toArray t fr)) {j : Nat} {u : Value} (hj : ((cur.drop (k * 3)).take m)[j]? = some u) : w.cell? ((⟨g, k * 3, none⟩ : Addr).add j) = some u := by
  have hjm : j < m := by
    have := (List.getElem?_eq_some_iff.1 hj).1
    rw [List.length_take] at this; omega
  rw [List.getElem?_take_of_lt hjm, List.getElem?_drop] at hj
  rw [Go.WideShapes.add_plain]
  simp [World.cell?, hh, hj]
set_option maxHeartbeats 16000000 in
set_option maxRecDepth 100000 in
theorem insert_any (v : Value) (base n : Nat) (x y z : Int) (hx : 0 ≤ x ∧ x < 12) (hy : 0 ≤ y ∧ y < 12) (hz : 0 ≤ z ∧ z < 12) (hn : n ≤ 1000) (w : World) (hv : OwnC w base v n) (hb : base ≤ w.heap.size) :
    Calls Tryz.prog 85 #[v, .agg #[.int .i64 x, .int .i64 y, .int .i64 z]] w (InsIs w base n) := by
  have HR0 : Hid (Box (w.alloc (.cells #[.int .i64 x, .int .i64 y, .int .i64 z] 190)) w.heap.size x y z) := heap_alloc_new w _
  have HOb : Hid (v.ownBlock ≠ some w.heap.size) := fun e => by have := hv.lt _ e; omega
  have HO0 := Lib.hid (hv.below ((Below.refl _ _).alloc (Nat.le_refl _) (.cells #[.int .i64 x, .int .i64 y, .int .i64 z] 190)))
  have HB := Lib.hid hb
  have HN := Lib.hid hn
  obtain ⟨va, vc, rfl⟩ := hv.slice
  have Hx := Lib.hid (And.intro hx (And.intro hy hz))
  clear hv hb hx hy hz
  have n0 : (n : Int) ≤ 1000 := by omega
  obtain ⟨w0, hw0⟩ : ∃ w0, w0 = w.alloc (.cells #[.int .i64 x, .int .i64 y, .int .i64 z] 190) := ⟨_, rfl⟩
  have Hw0 : Hid (Below base w w0 ∧ base ≤ w0.heap.size) := by
    unfold Hid; rw [hw0]; exact ⟨(Below.refl _ _).alloc HB.out _, by simp; have := HB.out; omega⟩
  rw [← hw0] at HR0 HO0
  go_enter Tryz.func85, Tryz.ntmps85
  go_upto_block 0 with fail
  rw [← hw0]
  clear hw0
  go_cut [5] (fun kv wx => ∃ k : Nat, k ≤ n ∧ kv = .int .i64 k ∧ OwnC wx base (.slice va n vc) n ∧ Box wx w.heap.size x y z ∧ Below base w wx ∧ base ≤ wx.heap.size)
  case first =>
    go_wp2_with fail
    go_loopw [5] (fun kv wr => ∃ k : Nat, k ≤ n ∧ kv = .int .i64 k ∧ Hid (OwnC wr base (.slice va n vc) n) ∧ Hid (Box wr w.heap.size x y z) ∧ Hid (Below base w wr ∧ base ≤ wr.heap.size)) (fun kv _ => (intOf kv).toNat)
    case atStart => exact ⟨n, Nat.le_refl _, rfl, HO0, HR0, Hw0⟩
    case round =>
      clear HO0 HR0 Hw0
      obtain ⟨k, hk, rfl, ho, hr, hb⟩ := hrel
      by_cases hk0 : 0 < k
      · obtain ⟨g, cap, he, hg, hcap, hcm, hc⟩ := ho.out.at (by omega)
        obtain ⟨rfl, rfl⟩ : va = some ⟨g, 0, none⟩ ∧ vc = cap := by simpa using he
        obtain ⟨p, p0, p1, hp⟩ := hc ((k - 1) * 3) (by omega)
        obtain ⟨q, q0, q1, hq⟩ := hc ((k - 1) * 3 + 1) (by omega)
        obtain ⟨r, r0, r1, hrr⟩ := hc ((k - 1) * 3 + 2) (by omega)
        have x0 := hr.out.row.at 0 rfl
        have x1 := hr.out.row.at 1 rfl
        have x2 := hr.out.row.at 2 rfl
        obtain ⟨j, rfl⟩ : ∃ j, k = j + 1 := ⟨k - 1, by omega⟩
        simp only [Nat.add_sub_cancel] at hp hq hrr
        have Hk := Lib.hid hk
        have k0 : (0 : Int) ≤ (j : Int) := by omega
        have k1 : (j : Int) < (n : Int) := by omega
        have k2 : ((j + 1 : Nat) : Int) = (j : Int) + 1 := by omega
        have k3 : ((j : Int) + 1 - 1) = (j : Int) := by omega
        have k4 : (0 : Int) < (j : Int) + 1 := by omega
        clear he hg hc hk hk0
        rw [k2]
        have hcase : x < p ∨ (p < x) ∨ (x = p ∧ (y < q ∨ q < y ∨ (y = q ∧ (z < r ∨ r ≤ z)))) := by omega
        rcases hcase with h1 | h1 | ⟨rfl, h1 | h1 | ⟨rfl, h1 | h1⟩⟩
        · go_wp2_with fail
          go_region
          go_wp2_with fail
          go_roundw
          case rel => exact ⟨j, by have := Hk.out; omega, rfl, ho.out.below (Below.refl _ _).drew, hr.out, ⟨hb.out.1.drew, hb.out.2⟩⟩
          case measure => simp [intOf]
        · have e1 : (x == p) = false := by simp; omega
          have e0 : decide (x < p) = false := by simp; omega
          have e2 : p ≤ x := by omega
          go_wp2_with fail
          go_region
          go_wp2_with fail
          go_meet
          exact ⟨j + 1, by have := Hk.out; omega, by rw [k2], ho.out.below (Below.refl _ _).drew, hr.out, hb.out.1.drew, hb.out.2⟩
        · go_wp2_with fail
          go_region
          go_wp2_with fail
          go_roundw
          case rel => exact ⟨j, by have := Hk.out; omega, rfl, ho.out.below (Below.refl _ _).drew, hr.out, ⟨hb.out.1.drew, hb.out.2⟩⟩
          case measure => simp [intOf]
        · have e1 : (y == q) = false := by simp; omega
          have e0 : decide (y < q) = false := by simp; omega
          have e2 : q ≤ y := by omega
          go_wp2_with fail
          go_region
          go_wp2_with fail
          go_meet
          exact ⟨j + 1, by have := Hk.out; omega, by rw [k2], ho.out.below (Below.refl _ _).drew, hr.out, hb.out.1.drew, hb.out.2⟩
        · go_wp2_with fail
          go_region
          go_wp2_with fail
          go_roundw
          case rel => exact ⟨j, by have := Hk.out; omega, rfl, ho.out.below (Below.refl _ _).drew, hr.out, ⟨hb.out.1.drew, hb.out.2⟩⟩
          case measure => simp [intOf]
        · go_wp2_with fail
          go_region
          go_wp2_with fail
          go_meet
          exact ⟨j + 1, by have := Hk.out; omega, by rw [k2], ho.out.below (Below.refl _ _).drew, hr.out, hb.out.1.drew, hb.out.2⟩
      · obtain rfl : k = 0 := by omega
        go_wp2_with fail
        go_region
        go_wp2_with fail
        go_meet
        exact ⟨0, by omega, rfl, ho.out.below (Below.refl _ _).drew, hr.out, hb.out.1.drew, hb.out.2⟩
  case rest =>
    obtain ⟨k, hk, rfl, ho, hr, hb1, hb2⟩ := hcut
    have Hk := Lib.hid hk
    have HAp : Hid (∃ (v' : Value) (w' : World), (Builtin.append_ #[186, 186] 186 #[.slice va n vc, .slice (some ⟨wc.heap.size, 0, none⟩) 1 1]).run Tryz.prog (wc.alloc (.cells #[.int .i64 0, .int .i64 0, .int .i64 0] 190)) = .ok v' w' ∧
        OwnC w' base v' (n + 1) ∧ Box w' w.heap.size x y z ∧ v'.ownBlock ≠ some w.heap.size ∧ Below base w w' ∧ Hid (base ≤ w'.heap.size)) := by
      obtain ⟨v', w', a1, a2, a3, a4, a5⟩ := append_cl ho hr HOb.out (by have := HN.out; omega) hb2 186
      exact ⟨v', w', a1, a2, a3, a4, hb1.trans a5, Nat.le_trans hb2 a5.size⟩
    have k0 : (0 : Int) ≤ (k : Int) := by omega
    have k1 : (k : Int) ≤ 1000 := by have := HN.out; omega
    clear hk ho hr hb1 hb2
    go_upto_region 5 with (at_builtin; obtain ⟨v', w', hrun, hown, hbx, hob, hbl, hsz⟩ := HAp.out; have Hrun := Lib.hid hrun; have Hown := Lib.hid hown; have Hbx := Lib.hid hbx; have Hob := Lib.hid hob; have Hbl := Lib.hid hbl; have Hsz := Lib.hid hsz; clear hrun hown hbx hob hbl hsz; refine wpList_append_run rfl _ _ _ rfl _ _ _ _ rfl rfl Hrun.out ?_)
    obtain ⟨g, cap, cur, rfl, hg, hh, hcap, hcm, hcl, hsm⟩ := Hown.out.raw (by omega)
    have Hgb : Hid (g ≠ w.heap.size) := by have h := Hob.out; intro e; apply h; rw [e]; rfl
    -- where the copy goes
    have hk' := Hk.out
    obtain ⟨o, ho⟩ : ∃ o, o = if k + 1 = cap then 0 else (k + 1) * 3 := ⟨_, rfl⟩
    have Ho := Lib.hid ho
    have Hk1 : Hid (IntKind.i64.wrap ((k : Int) + 1) = (k : Int) + 1) := IntWalk.i64_in _ (by omega)
    have Hsl3 : Hid ((0 ≤ (k : Int) + 1 ∧ k ≤ n) ∧ (if cap = k + 1 then (some ⟨g, 0, none⟩ : Option Addr) else some ⟨g, (k + 1) * 3, none⟩) = some ⟨g, o, none⟩) := by
      refine ⟨⟨by omega, hk'⟩, ?_⟩
      rw [ho]
      by_cases h : k + 1 = cap
      · rw [if_pos h.symm, if_pos h]
      · rw [if_neg (fun e => h e.symm), if_neg h]
    have Hsl6 : Hid ((k : Int) ≤ (n : Int) + 1 ∧ (if cap = k then (some ⟨g, 0, none⟩ : Option Addr) else some ⟨g, k * 3, none⟩) = some ⟨g, k * 3, none⟩) := by
      refine ⟨by omega, ?_⟩
      rw [if_neg (by omega)]
    have Hgb2 : Hid (base ≤ g) := hg
    have Hmin : Hid (n - k = Nat.min (n + 1 - k) (n - k)) := by unfold Hid; show n - k = min _ _; omega
    have Hcs := Lib.hid (copy_small cur n k o cap hk' hcl hsm hcap ho)
    clear ho
    refine wp_region_slots (by kernel_rfl) 84 rfl (by kernel_rfl) (by kernel_rfl) 71 8 (by kernel_rfl) (fun d w' => OwnC w' base (.slice (some ⟨g, 0, none⟩) (n + 1) cap) (n + 1) ∧ Box w' w.heap.size x y z ∧ Below base w w' ∧ base ≤ w'.heap.size ∧ (d 7 = false → w'.heap[g]? = some (.cells cur.toArray 190 (0, 0)))) (FCp g o k n cap) ?hS0 ?hop ?hend
    case hS0 => exact ⟨Hown.out.below (Below.refl _ _).drew, Hbx.out, Hbl.out.drew, Hsz.out, fun _ => hh⟩
    case hop =>
      refine ⟨?_, ?_, ?_, ?_, ?_, ?_, ?_, ?_, trivial⟩
      all_goals intro d ac wx hd hcl hS hA haft K hK
      · have f0 : ac.tmps.getD 0 undef = .slice (some ⟨g, 0, none⟩) (n + 1) cap := same_slot hA 0 (by kernel_rfl)
        refine hop_val rfl (.slice (some ⟨g, 0, none⟩) (n + 1) cap) (w' := wx) ?_ (hK _ _ rfl (fun _ _ _ h => h) hS)
        simp [execOp, Act.eval, f0, go_sem, -Array.getD_eq_getD_getElem?]
      · have f5 : ac.tmps.getD 5 undef = .int .i64 k := same_slot hA 5 (by kernel_rfl)
        refine hop_val rfl (.int .i64 k) (w' := wx) ?_ (hK _ _ rfl (fun _ _ _ h => h) hS)
        simp [execOp, Act.eval, f5, go_sem, -Array.getD_eq_getD_getElem?]
      · have f72 : ac.tmps.getD 72 undef = .int .i64 k := (haft ⟨1, .data⟩ (by simp) rfl).2 _ rfl
        refine hop_val rfl (.int .i64 ((k : Int) + 1)) (w' := wx) ?_ (hK _ _ rfl (fun _ _ _ h => h) hS)
        simp [execOp, Act.eval, f72, go_sem, -Array.getD_eq_getD_getElem?]
        exact Hk1.out
      · have f71 : ac.tmps.getD 71 undef = .slice (some ⟨g, 0, none⟩) (n + 1) cap := (haft ⟨0, .data⟩ (by simp) rfl).2 _ rfl
        have f73 : ac.tmps.getD 73 undef = .int .i64 ((k : Int) + 1) := (haft ⟨2, .data⟩ (by simp) rfl).2 _ rfl
        refine hop_val rfl (.slice (some ⟨g, o, none⟩) (n - k) (cap - (k + 1))) (w' := wx) ?_ (hK _ _ rfl (fun _ _ _ h => h) hS)
        simp [execOp, Act.eval, f71, f73, go_sem, -Array.getD_eq_getD_getElem?]
        rw [if_pos Hsl3.out.1, Hsl3.out.2]
      · have f0 : ac.tmps.getD 0 undef = .slice (some ⟨g, 0, none⟩) (n + 1) cap := same_slot hA 0 (by kernel_rfl)
        refine hop_val rfl (.slice (some ⟨g, 0, none⟩) (n + 1) cap) (w' := wx) ?_ (hK _ _ rfl (fun _ _ _ h => h) hS)
        simp [execOp, Act.eval, f0, go_sem, -Array.getD_eq_getD_getElem?]
      · have f5 : ac.tmps.getD 5 undef = .int .i64 k := same_slot hA 5 (by kernel_rfl)
        refine hop_val rfl (.int .i64 k) (w' := wx) ?_ (hK _ _ rfl (fun _ _ _ h => h) hS)
        simp [execOp, Act.eval, f5, go_sem, -Array.getD_eq_getD_getElem?]
      · have f75 : ac.tmps.getD 75 undef = .slice (some ⟨g, 0, none⟩) (n + 1) cap := (haft ⟨4, .data⟩ (by simp) rfl).2 _ rfl
        have f76 : ac.tmps.getD 76 undef = .int .i64 k := (haft ⟨5, .data⟩ (by simp) rfl).2 _ rfl
        refine hop_val rfl (.slice (some ⟨g, k * 3, none⟩) (n + 1 - k) (cap - k)) (w' := wx) ?_ (hK _ _ rfl (fun _ _ _ h => h) hS)
        simp [execOp, Act.eval, f75, f76, go_sem, -Array.getD_eq_getD_getElem?]
        rw [if_pos Hsl6.out.1, Hsl6.out.2]
      · have f74 : ac.tmps.getD 74 undef = .slice (some ⟨g, o, none⟩) (n - k) (cap - (k + 1)) := (haft ⟨3, .data⟩ (by simp) rfl).2 _ rfl
        have f77 : ac.tmps.getD 77 undef = .slice (some ⟨g, k * 3, none⟩) (n + 1 - k) (cap - k) := (haft ⟨6, .data⟩ (by simp) rfl).2 _ rfl
        have hh' := hS.2.2.2.2 hd
        have hrun := run_copy_rowN (P := Tryz.prog) wx 186 186 3 190 g o (n - k) (cap - (k + 1)) ⟨g, k * 3, none⟩ (n + 1 - k) (cap - k) 3 (n - k) cur.toArray _ _ Tryz.underlying186 rowT_c.1 hh' Hmin.out Hcs.out.1 (fun j u hj => copy_src hh' hj) Hcs.out.2.1 Hcs.out.2.2.1
        refine hop_val rfl (goInt (n - k : Nat)) (w' := wx.setRow g _) ?_ (hK _ _ trivial (fun _ _ _ h => h) ⟨ownC_row hg hh' (Nat.succ_pos n) hcap hcm Hcs.out.2.2.2.1 Hcs.out.2.2.2.2, ?_, below_setRow hS.2.2.1 hg _, ?_, fun h => by simp at h⟩)
        · unfold execOp
          simp only [resolve, invoke, builtin, Sem.run_bind, Sem.run_pure, Result.andThen_ok, List.map_toArray, List.map_cons, List.map_nil, Act.eval, f74, f77, hrun]
        · unfold Box; rw [setRow_other _ _ _ _ (Ne.symm Hgb.out)]; exact hS.2.1
        · rw [setRow_size]; exact hS.2.2.2.1
    case hend =>
      intro u w5 d hd hS hF
      obtain ⟨ho5, hx5, hb5, hs5, hq5⟩ := hS
      clear hq5
      have HO5 := Lib.hid ho5
      have HX5 := Lib.hid hx5
      have HB5 := Lib.hid hb5
      have Hth : Hid (w5.there g (k * 3) 3) := ho5.there k (by omega)
      have k2 : (k : Int) < (n : Int) + 1 := by omega
      have H1 : Hid ((#[Value.int .i64 x, .int .i64 y, .int .i64 z]).all (·.oneCell') = true) := by unfold Hid; simp [Value.oneCell']
      clear hF hd ho5 hx5 hb5 hs5 d hh hsm hcl hcap hcm hg hk'
      simp only [mixL]
      go_wp2_with (first
        | (refine row_load rfl _ rfl _ rfl _ HX5.out.row rowT_c ?_)
        | (refine wpList_store_mid rfl _ _ _ rfl g (k * 3) #[.int .i64 x, .int .i64 y, .int .i64 z] rfl rfl Hth.out rowT_c.1 H1.out ?_))
      go_ret
      refine ⟨_, rfl, ?_, ?_⟩
      · have hx := Hx.out
        exact ((HO5.out.set (k * 3) (by have := Hk.out; omega) ⟨x, hx.1.1, hx.1.2, rfl⟩).set (k * 3 + 1) (by have := Hk.out; omega) ⟨y, hx.2.1.1, hx.2.1.2, rfl⟩).set (k * 3 + 1 + 1) (by have := Hk.out; omega) ⟨z, hx.2.2.1, hx.2.2.2, rfl⟩
      · exact ((HB5.out.setCell Hgb2.out _).setCell Hgb2.out _).setCell Hgb2.out _
end Go.Proofs.YtpknalpdcfjffaaGreat
/- The reference's grid of frequency one: its cells. -/
namespace Go.Proofs.YtpknalpdcfjffaaGreat
open Go Go.RowKit

/-- The nodes are there, and k cells are made. -/
structure ClS (w : World) (base g k : Nat) (v : Value) (wr : World) : Prop where
  own : OwnC wr base v k
  pls : PlsAt wr g nodes1
  low : g < base
  size : base ≤ wr.heap.size
  below : Below w.heap.size w wr
  base : w.heap.size ≤ base
theorem ClS.then {w wr w' : World} {base g k : Nat} {v : Value} (h : ClS w base g k v wr) (hb : Below wr.heap.size wr w') : ClS w base g k v w' :=
  ⟨h.own.below hb, h.pls.below hb, h.low, Nat.le_trans h.size hb.size, below_then h.below hb, h.base⟩
theorem ClS.next {w wr w' : World} {base g k : Nat} {v v' : Value} (h : ClS w base g k v wr) (ho : OwnC w' base v' (k + 1)) (hb : Below base wr w') : ClS w base g (k + 1) v' w' := by
  refine ⟨ho, fun i hi j u hj => ?_, h.low, Nat.le_trans h.size hb.size, h.below.trans (hb.mono h.base), h.base⟩
  rw [hb.cell (p := ⟨g, i * 4 + j, none⟩) h.low]
  exact h.pls i hi j u hj
def At84 (i : Nat) (v : Value) : Prop := (i = 0 ∧ v = .int .i64 0) ∨ (i = 1 ∧ v = .int .i64 840)
set_option maxHeartbeats 16000000 in
set_option maxRecDepth 100000 in
theorem cells_any (w : World) :
    Calls Tryz.prog 83 #[.int .i64 1] w fun e w' => ∃ v, e = .returned (.tuple #[v, .int .i64 0]) ∧ OwnC w' w.heap.size v 20 ∧ Below w.heap.size w w' := by
  go_enter Tryz.func83, Tryz.ntmps83
  go_wp2_with fail
  refine (nodes_any _).mono ?_
  rintro e w1 ⟨v, rfl, hown, hb1⟩
  obtain ⟨g, cap, rfl, hg, hcap, hc⟩ := hown.at (by rw [nodes1_length]; omega)
  have hcm : cap ≤ 9223372036854775807 := by
    rcases hown.2 with ⟨e, _⟩ | ⟨g', cap', cur, e, _, _, _, hm, _⟩
    · cases e
    · obtain ⟨_, rfl⟩ : g = g' ∧ cap = cap' := by simpa using e
      unfold maxLen at hm; omega
  have hglt : g < w1.heap.size := by
    have := hc 0 (by rw [nodes1_length]; omega) 0 _ rfl
    exact World.block_lt_of_cell? (a := ⟨g, 0 * 4 + 0, none⟩) _ this
  rw [nodes1_length] at hcap ⊢
  have HC : Hid (12 ≤ cap ∧ cap ≤ 9223372036854775807) := ⟨hcap, hcm⟩
  have HS : Hid (ClS w w1.heap.size g 0 (.slice none 0 0) w1) := ⟨OwnC.nil _ _, hc, hglt, Nat.le_refl _, hb1, hb1.size⟩
  obtain ⟨base, hbase⟩ : ∃ base, base = w1.heap.size := ⟨_, rfl⟩
  rw [← hbase] at HS
  clear hown hg hc hb1 hcm hglt hcap hbase
  go_wp2_with fail
  go_loopw [7, 8] (fun lv kv wr => ∃ (k : Nat) (ov : Value), ov = lv ∧ kv = .int .i64 k ∧ k ≤ 20 ∧ Hid (ClS w base g k ov wr)) (fun _ kv _ => (20 - intOf kv).toNat)
  case atStart => exact ⟨0, _, rfl, rfl, by omega, HS⟩
  case round =>
    clear HS
    obtain ⟨k, ov, rfl, rfl, hk, hs⟩ := hrel
    by_cases hlt : k < 20
    · have k0 : (k : Int) < 20 := by omega
      have HA := Lib.hid (fun a b hp w' h => at_any g cap HC.out k hlt a b hp w' h)
      obtain ⟨wout, rfl⟩ : ∃ wout : World, wout = wr := ⟨_, rfl⟩
      go_wp2_with fail
      go_loopw [7, 9] (fun lv av wr => ∃ (i : Nat) (ov : Value), ov = lv ∧ At84 i av ∧ Hid (ClS w base g (k + i) ov wr)) (fun _ av _ => (2000 - intOf av).toNat)
      case atStart => exact ⟨0, _, rfl, .inl ⟨rfl, rfl⟩, hs⟩
      case round =>
        clear hs
        obtain ⟨i, ov, rfl, hav, hs⟩ := hrel
        obtain ⟨wout2, rfl⟩ : ∃ wout2 : World, wout2 = wr := ⟨_, rfl⟩
        rcases hav with ⟨rfl, rfl⟩ | ⟨rfl, rfl⟩
        · go_wp2_with fail
          go_loopw [7, 10] (fun lv bv wr => ∃ (m : Nat) (ov : Value), ov = lv ∧ At84 m bv ∧ Hid (ClS w base g (k + m) ov wr)) (fun _ bv _ => (2000 - intOf bv).toNat)
          case atStart => exact ⟨0, _, rfl, .inl ⟨rfl, rfl⟩, hs⟩
          case round =>
            clear hs
            obtain ⟨m, ov, rfl, hbv, hs⟩ := hrel
            rcases hbv with ⟨rfl, rfl⟩ | ⟨rfl, rfl⟩
            · go_wp2_with fail
              refine (HA.out 840 0 (by simp [vtx]) _ hs.out.pls).mono ?_
              rintro e w4 ⟨i1, hi1, rfl, hb4⟩
              have HS4 := Lib.hid (hs.out.then hb4)
              clear hb4 hs
              go_wp2_with fail
              refine (HA.out 0 840 (by simp [vtx]) _ HS4.out.pls).mono ?_
              rintro e w5 ⟨i2, hi2, rfl, hb5⟩
              have HS5 := Lib.hid (HS4.out.then hb5)
              clear hb5 HS4
              go_wp2_with fail
              refine (HA.out 0 0 (by simp [vtx]) _ HS5.out.pls).mono ?_
              rintro e w6 ⟨i3, hi3, rfl, hb6⟩
              have HS6 := Lib.hid (HS5.out.then hb6)
              clear hb6 HS5
              go_wp2_with fail
              refine (cell_any i1 i2 i3 hi1 hi2 hi3 w6).mono ?_
              rintro e w7 ⟨x, y, z, rfl, hx, hy, hz, hb7⟩
              have HS7 := Lib.hid (HS6.out.then hb7)
              clear hb7 HS6
              go_wp2_with fail
              refine (insert_any ov base (k + 0) x y z hx hy hz (by omega) w7 HS7.out.own HS7.out.size).mono ?_
              rintro e w8 ⟨v', rfl, ho8, hb8⟩
              have HS8 := Lib.hid (HS7.out.next ho8 hb8)
              clear ho8 hb8 HS7 hx hy hz hi1 hi2 hi3
              go_wp2_with fail
              go_roundw
              case rel => exact ⟨1, v', rfl, .inr ⟨rfl, rfl⟩, HS8⟩
              case measure => simp [intOf]
            · go_wp2_with fail
              go_roundw
              case rel => exact ⟨1, ov, rfl, .inr ⟨rfl, rfl⟩, hs⟩
              case measure => simp [intOf]
        · go_wp2_with fail
          go_roundw
          case rel => exact ⟨k + 1, ov, rfl, by go_num, by omega, hs⟩
          case measure => simp [intOf]; omega
    · obtain rfl : k = 20 := by omega
      obtain ⟨oa, oc, hov⟩ := hs.out.own.slice
      go_wp2_with fail
      refine bodyPost_ret (v := .tuple #[ov, .int .i64 0]) (by simp [results, Tryz.results83, go_sem]) rfl ?_
      refine ⟨ov, rfl, ?_, hs.out.below⟩
      obtain ⟨h0, cs, ⟨h1, h2⟩, h3⟩ := hs.out.own
      refine ⟨h0, cs, ⟨h1, ?_⟩, h3⟩
      rcases h2 with h2 | ⟨g', cap', cur, e, hg', r⟩
      · exact Or.inl h2
      · exact Or.inr ⟨g', cap', cur, e, Nat.le_trans hs.out.base hg', r⟩
end Go.Proofs.YtpknalpdcfjffaaGreat
/- Slices of small ints: cut, and one appended to another that is full. -/
namespace Go.Proofs.YtpknalpdcfjffaaGreat
open Go Go.RowKit

/-- v is a slice of n small ints, in a block that is not H. -/
def SmSl (w : World) (H : Nat) (v : Value) (n : Nat) : Prop := ∃ (a : Option Addr) (c : Nat) (cs : List Value), v = .slice a n c ∧ n ≤ c ∧ c ≤ 9223372036854775807 ∧ cs.length = n ∧ (∀ u ∈ cs, Sm u) ∧
  (0 < n → ∃ ab ao : Nat, a = some ⟨ab, ao, none⟩ ∧ ab ≠ H ∧ ∀ j u, cs[j]? = some u → w.cell? ⟨ab, ao + j, none⟩ = some u) ∧ (a = none ∨ ∃ ab ao : Nat, a = some ⟨ab, ao, none⟩)
theorem SmSl.nil (w : World) (H : Nat) : SmSl w H (.slice none 0 0) 0 := ⟨none, 0, [], rfl, Nat.le_refl _, by omega, rfl, by simp, fun h => by omega, Or.inl rfl⟩
theorem SmSl.kept {w w' : World} {H : Nat} {v : Value} {n : Nat} (h : SmSl w H v n) (hk : ∀ k, k < w.heap.size → k ≠ H → w'.heap[k]? = w.heap[k]?) : SmSl w' H v n := by
  obtain ⟨a, c, cs, e, h1, h2, h3, h4, h5, h6⟩ := h
  refine ⟨a, c, cs, e, h1, h2, h3, h4, fun h0 => ?_, h6⟩
  obtain ⟨ab, ao, ea, hn, hc⟩ := h5 h0
  refine ⟨ab, ao, ea, hn, fun j u hj => ?_⟩
  have := hc j u hj
  rw [World.cell?_of_block (w := w) (hk ab (World.block_lt_of_cell? _ _ this) hn)]
  exact this
theorem SmSl.below {w w' : World} {H : Nat} {v : Value} {n : Nat} (h : SmSl w H v n) (hb : Below w.heap.size w w') : SmSl w' H v n := h.kept fun k hk _ => hb.block k hk
theorem SmSl.src {w : World} {H : Nat} {v : Value} {n : Nat} (h : SmSl w H v n) : ∃ cs : List Value, cs.length = n ∧ (∀ u ∈ cs, Sm u) ∧ Src Tryz.prog 1 38 v n cs w ∧ (n = 0 → cs = []) := by
  obtain ⟨a, c, cs, rfl, h1, h2, h3, h4, h5, h6⟩ := h
  have h1c : ∀ u ∈ cs, u.oneCell' = true := by intro u hu; obtain ⟨z, _, _, rfl⟩ := h4 u hu; rfl
  refine ⟨cs, h3, h4, ?_, fun h0 => List.eq_nil_of_length_eq_zero (by omega)⟩
  rcases h6 with rfl | ⟨ab, ao, rfl⟩
  · rcases Nat.eq_zero_or_pos n with h0 | h0
    · subst h0
      obtain rfl := List.eq_nil_of_length_eq_zero h3
      exact Src.ofNil w Tryz.underlying38 c
    · obtain ⟨_, _, e, _⟩ := h5 h0
      cases e
  · refine Src.ofSlice w Tryz.underlying38 ⟨ab, ao, none⟩ n c cs (by omega) (fun j u hj => ?_) h1c
    have h0 : 0 < n := by have := (List.getElem?_eq_some_iff.1 hj).1; omega
    obtain ⟨ab', ao', e, _, hc⟩ := h5 h0
    obtain ⟨rfl, rfl⟩ : ab = ab' ∧ ao = ao' := by simpa using e
    rw [Go.WideShapes.add_plain]; exact hc j u hj
theorem intinfo : (Tryz.prog.info? 3).map (fun i => (i.zero, i.size, i.bytes)) = some (some (.int .i64 0), 1, 8) := by kernel_rfl
/-- append(v, x...) where v is full. -/
theorem sm_append {w : World} {H : Nat} {v x : Value} {n m : Nat} (hv : SmSl w H v n) (hf : ∃ a, v = .slice a n n) (hx : SmSl w H x m) (hH : H < w.heap.size) (hn : n + m ≤ 100000) (ty : TypeId) :
    ∃ v' w', (Builtin.append_ #[38, 38] ty #[v, x]).run Tryz.prog w = .ok v' w' ∧ SmSl w' H v' (n + m) ∧ Below w.heap.size w w' := by
  obtain ⟨i0, hi, hz0, hz1, hz2⟩ := info_parts intinfo
  obtain ⟨xs, hxl, hxs, hsrc, hx0⟩ := hx.src
  obtain ⟨a, rfl⟩ := hf
  rcases Nat.eq_zero_or_pos m with h0 | h0
  · subst h0
    obtain rfl := hx0 rfl
    refine ⟨_, _, run_append_nothing w _ _ ty _ i0 Tryz.underlying38 hi a n n (Nat.le_refl _) x (by rw [hz1]; exact hsrc), hv, Below.refl _ _⟩
  · have hsrc2 := hsrc
    obtain ⟨a', c, cs, e, h1, h2, h3, h4, h5, h6⟩ := hv
    obtain ⟨rfl, rfl⟩ : a = a' ∧ n = c := by simpa using e
    have hold : (Builtin.firstCells i0.size n (.slice a n n)).run Tryz.prog w.drew = .ok cs.toArray w.drew := by
      rw [hz1]
      rcases Nat.eq_zero_or_pos n with hn0 | hn0
      · subst hn0
        obtain rfl := List.eq_nil_of_length_eq_zero h3
        rcases h6 with rfl | ⟨ab, ao, rfl⟩
        · exact run_firstCells_none w.drew 1 0 0 0
        · exact run_firstCells_some w.drew 1 0 ⟨ab, ao, none⟩ 0 0 [] (by simp) (fun j u hj => by simp at hj)
      · obtain ⟨ab, ao, rfl, hne, hc⟩ := h5 hn0
        exact run_firstCells_some w.drew 1 n ⟨ab, ao, none⟩ n n cs (by omega) (fun j u hj => by rw [Go.WideShapes.add_plain]; exact hc j u hj)
    have hrun := run_append_grow_src (P := Tryz.prog) w 38 38 ty 3 i0 (.int .i64 0) Tryz.underlying38 hi hz0 a n n cs hold x m xs (by rw [hz1]; exact hsrc) (by omega) (by omega) (growslice_fits (by omega) (by rw [hz2]; omega))
    have hge := grownCap_ge w (n + m) n 3
    have hcm := grownCap_le_maxLen w (n + m) n 3 (by unfold maxLen; omega)
    refine ⟨_, _, hrun, ⟨_, _, cs ++ xs, rfl, hge, by unfold maxLen at hcm; omega, by rw [List.length_append]; omega, fun u hu => ?_, fun _ => ⟨w.heap.size, 0, rfl, by omega, fun j u hj => ?_⟩, Or.inr ⟨_, _, rfl⟩⟩, (Below.refl _ _).drew.alloc (Nat.le_refl _) _⟩
    · rcases List.mem_append.1 hu with hu | hu
      · exact h4 u hu
      · exact hxs u hu
    · have hjl := (List.getElem?_eq_some_iff.1 hj).1
      have hg : (w.drew.alloc (.cells ((cs ++ xs).toArray ++ Builtin.zeroCells (Value.int .i64 0).cells (grownCap w (n + m) n 3 - (n + m))) 3)).heap[w.heap.size]? = some (.cells ((cs ++ xs).toArray ++ Builtin.zeroCells (Value.int .i64 0).cells (grownCap w (n + m) n 3 - (n + m))) 3 (0, 0)) := heap_alloc_new w.drew _
      rw [Nat.zero_add]
      simp only [World.cell?, hg]
      rw [Array.getElem?_append_left (by simpa using hjl)]
      simpa using hj
/-- The rest of a slice from the k-th on. -/
theorem SmSl.drop {w : World} {H : Nat} {a : Option Addr} {n c : Nat} (h : SmSl w H (.slice a n c) n) (k : Nat) (hk : k ≤ n) (A : Option Addr) (hA : k < n → ∀ ab ao : Nat, a = some ⟨ab, ao, none⟩ → A = some ⟨ab, ao + k, none⟩) (hA2 : A = none ∨ ∃ ab ao : Nat, A = some ⟨ab, ao, none⟩) : SmSl w H (.slice A (n - k) (c - k)) (n - k) := by
  obtain ⟨a', c', cs, e, h1, h2, h3, h4, h5, h6⟩ := h
  obtain ⟨rfl, rfl⟩ : a = a' ∧ c = c' := by simpa using e
  refine ⟨A, c - k, cs.drop k, rfl, by omega, by omega, by rw [List.length_drop]; omega, fun u hu => h4 u (List.mem_of_mem_drop hu), fun h0 => ?_, hA2⟩
  obtain ⟨ab, ao, ea, hn, hc⟩ := h5 (by omega)
  refine ⟨ab, ao + k, hA (by omega) ab ao ea, hn, fun j u hj => ?_⟩
  rw [List.getElem?_drop] at hj
  have := hc (k + j) u hj
  rwa [← Nat.add_assoc] at this
/-- The first k, and no room behind them. -/
theorem SmSl.take {w : World} {H : Nat} {a : Option Addr} {n c : Nat} (h : SmSl w H (.slice a n c) n) (k : Nat) (hk : k ≤ n) : SmSl w H (.slice a k k) k := by
  obtain ⟨a', c', cs, e, h1, h2, h3, h4, h5, h6⟩ := h
  obtain ⟨rfl, rfl⟩ : a = a' ∧ c = c' := by simpa using e
  refine ⟨a, k, cs.take k, rfl, Nat.le_refl _, by omega, by rw [List.length_take]; omega, fun u hu => h4 u (List.mem_of_mem_take hu), fun h0 => ?_, h6⟩
  obtain ⟨ab, ao, ea, hn, hc⟩ := h5 (by omega)
  refine ⟨ab, ao, ea, hn, fun j u hj => ?_⟩
  have hjk : j < k := by have := (List.getElem?_eq_some_iff.1 hj).1; rw [List.length_take] at this; omega
  rw [List.getElem?_take_of_lt hjk] at hj
  exact hc j u hj
theorem SmSl.at {w : World} {H : Nat} {a : Option Addr} {n c : Nat} (h : SmSl w H (.slice a n c) n) (j : Nat) (hj : j < n) : ∃ (ab ao : Nat) (z : Int), a = some ⟨ab, ao, none⟩ ∧ 0 ≤ z ∧ z < 12 ∧ w.cell? ⟨ab, ao + j, none⟩ = some (.int .i64 z) := by
  obtain ⟨a', c', cs, e, h1, h2, h3, h4, h5, h6⟩ := h
  obtain ⟨rfl, rfl⟩ : a = a' ∧ c = c' := by simpa using e
  obtain ⟨ab, ao, ea, hn, hc⟩ := h5 (by omega)
  have hjl : j < cs.length := by omega
  obtain ⟨z, z0, z1, hz⟩ := h4 _ (List.getElem_mem hjl)
  exact ⟨ab, ao, z, ea, z0, z1, by rw [hc j _ (List.getElem?_eq_getElem hjl), hz]⟩
/-- The lists of neighbours: twelve slices of small ints, none longer than t. -/
def Ar (w : World) (H t : Nat) : Prop := H < w.heap.size ∧ ∀ i, i < 12 → w.frozen? ⟨H, i, none⟩ = false ∧ ∃ (a : Option Addr) (n c : Nat), n ≤ t ∧ w.cell? ⟨H, i, none⟩ = some (.slice a n c) ∧ SmSl w H (.slice a n c) n
theorem Ar.below {w w' : World} {H t : Nat} (h : Ar w H t) (hb : Below w.heap.size w w') : Ar w' H t := by
  refine ⟨Nat.lt_of_lt_of_le h.1 hb.size, fun i hi => ?_⟩
  obtain ⟨hf, a, n, c, hn, hc, hs⟩ := h.2 i hi
  exact ⟨by rw [hb.frozen (p := ⟨H, i, none⟩) h.1]; exact hf, a, n, c, hn, cell_then hb hc, hs.below hb⟩
theorem Ar.mono {w : World} {H t u : Nat} (h : Ar w H t) (hu : t ≤ u) : Ar w H u := by
  refine ⟨h.1, fun i hi => ?_⟩
  obtain ⟨hf, a, n, c, hn, r⟩ := h.2 i hi
  exact ⟨hf, a, n, c, by omega, r⟩
theorem Ar.set {w : World} {H t i n c : Nat} {a : Option Addr} (h : Ar w H t) (hn : n ≤ t) (hs : SmSl w H (.slice a n c) n) (hi : i < 12) : Ar (w.setCell ⟨H, i, none⟩ (.slice a n c)) H t := by
  have hk : ∀ k, k < w.heap.size → k ≠ H → (w.setCell ⟨H, i, none⟩ (.slice a n c)).heap[k]? = w.heap[k]? := fun k _ hne => Below.heap_setCell _ _ _ _ (by simp; exact hne)
  refine ⟨by simp [World.setCell]; exact h.1, fun j hj => ?_⟩
  obtain ⟨hf, a', n', c', hn', hc', hs'⟩ := h.2 j hj
  refine ⟨by simpa using hf, ?_⟩
  by_cases hij : j = i
  · subst hij
    exact ⟨a, n, c, hn, World.cell?_setCell_same _ _ _ hc', hs.kept hk⟩
  · exact ⟨a', n', c', hn', by rw [World.cell?_setCell_other _ _ _ _ (by simp <;> omega)]; exact hc', hs'.kept hk⟩
end Go.Proofs.YtpknalpdcfjffaaGreat
/- The reference's grid of frequency one: who lies around whom. -/
namespace Go.Proofs.YtpknalpdcfjffaaGreat
open Go Go.RowKit

/-- All blocks but H stand. -/
def Cl (w : World) (g n : Nat) : Prop := ∀ i, i < n → ∃ z : Int, 0 ≤ z ∧ z < 12 ∧ w.cell? ⟨g, i, none⟩ = some (.int .i64 z)
structure ArS (w wr : World) (H g t : Nat) : Prop where
  ar : Ar wr H t
  cl : Cl wr g 60
  low : g < H
  below : Below w.heap.size w wr
  base : w.heap.size ≤ H
def nils : Array Value := #[.slice none 0 0, .slice none 0 0, .slice none 0 0, .slice none 0 0, .slice none 0 0, .slice none 0 0, .slice none 0 0, .slice none 0 0, .slice none 0 0, .slice none 0 0, .slice none 0 0, .slice none 0 0]
theorem mk12 (w : World) : (Instr.makeSlice 164 (.int .i64 12) (.int .i64 12)).run Tryz.prog w = .ok (.slice (some ⟨w.heap.size, 0, none⟩) 12 12) (w.alloc (.cells nils 38)) := by kernel_rfl
theorem Ar.fresh (w : World) : Ar (w.alloc (.cells nils 38)) w.heap.size 0 := by
  refine ⟨by simp, fun i hi => ?_⟩
  have hh : (w.alloc (.cells nils 38)).heap[w.heap.size]? = some (.cells nils 38 (0, 0)) := heap_alloc_new w _
  refine ⟨by unfold World.frozen?; simp only [hh]; simp, none, 0, 0, Nat.le_refl _, ?_, SmSl.nil _ _⟩
  simp only [World.cell?, hh]
  have : i = 0 ∨ i = 1 ∨ i = 2 ∨ i = 3 ∨ i = 4 ∨ i = 5 ∨ i = 6 ∨ i = 7 ∨ i = 8 ∨ i = 9 ∨ i = 10 ∨ i = 11 := by omega
  rcases this with rfl | rfl | rfl | rfl | rfl | rfl | rfl | rfl | rfl | rfl | rfl | rfl <;> rfl
theorem Cl.below {w w' : World} {g n : Nat} (h : Cl w g n) (hb : Below w.heap.size w w') : Cl w' g n := fun i hi => by
  obtain ⟨z, z0, z1, hz⟩ := h i hi
  exact ⟨z, z0, z1, cell_then hb hz⟩
theorem box2 (w : World) (m : Nat) (q : Int) (t : TypeId) : (w.alloc (.cells #[.int .i64 m, .int .i64 q] t)).cell? ⟨w.heap.size, 0, none⟩ = some (.int .i64 m) ∧ (w.alloc (.cells #[.int .i64 m, .int .i64 q] t)).cell? ⟨w.heap.size, 1, none⟩ = some (.int .i64 q) := by
  have hh : ∀ A, (w.alloc (.cells A t)).heap[w.heap.size]? = some (.cells A t (0, 0)) := fun A => heap_alloc_new w _
  simp only [World.cell?, hh]
  exact ⟨rfl, rfl⟩
theorem belowN {w w' : World} {b : Nat} (h : Below b w w') (n : Nat) : Below b w (w'.drewN n) := by
  exact ⟨h.os, h.tape, h.output, h.size, h.block⟩
theorem ArS.then {w wr w' : World} {H g t : Nat} (h : ArS w wr H g t) (hb : Below wr.heap.size wr w') : ArS w w' H g t := ⟨h.ar.below hb, h.cl.below hb, h.low, below_then h.below hb, h.base⟩
theorem ArS.more {w wr : World} {H g t u : Nat} (h : ArS w wr H g t) (hu : t ≤ u) : ArS w wr H g u := ⟨h.ar.mono hu, h.cl, h.low, h.below, h.base⟩
theorem Cl.pairs (w : World) (x y z : Int) (hx : 0 ≤ x ∧ x < 12) (hy : 0 ≤ y ∧ y < 12) (hz : 0 ≤ z ∧ z < 12) (t : TypeId) : Cl (w.alloc (.cells #[.int .i64 x, .int .i64 y, .int .i64 x, .int .i64 z, .int .i64 y, .int .i64 z, .int .i64 y, .int .i64 x, .int .i64 z, .int .i64 x, .int .i64 z, .int .i64 y] t)) w.heap.size 12 := by
  intro i hi
  have hh : ∀ A, (w.alloc (.cells A t)).heap[w.heap.size]? = some (.cells A t (0, 0)) := fun A => heap_alloc_new w _
  simp only [World.cell?, hh]
  have : i = 0 ∨ i = 1 ∨ i = 2 ∨ i = 3 ∨ i = 4 ∨ i = 5 ∨ i = 6 ∨ i = 7 ∨ i = 8 ∨ i = 9 ∨ i = 10 ∨ i = 11 := by omega
  rcases this with rfl | rfl | rfl | rfl | rfl | rfl | rfl | rfl | rfl | rfl | rfl | rfl
  · exact ⟨x, hx.1, hx.2, rfl⟩
  · exact ⟨y, hy.1, hy.2, rfl⟩
  · exact ⟨x, hx.1, hx.2, rfl⟩
  · exact ⟨z, hz.1, hz.2, rfl⟩
  · exact ⟨y, hy.1, hy.2, rfl⟩
  · exact ⟨z, hz.1, hz.2, rfl⟩
  · exact ⟨y, hy.1, hy.2, rfl⟩
  · exact ⟨x, hx.1, hx.2, rfl⟩
  · exact ⟨z, hz.1, hz.2, rfl⟩
  · exact ⟨x, hx.1, hx.2, rfl⟩
  · exact ⟨z, hz.1, hz.2, rfl⟩
  · exact ⟨y, hy.1, hy.2, rfl⟩
theorem Cl.kept {w w' : World} {H g n : Nat} (h : Cl w g n) (hk : ∀ k, k < w.heap.size → k ≠ H → w'.heap[k]? = w.heap[k]?) (hg : g ≠ H) : Cl w' g n := fun i hi => by
  obtain ⟨z, z0, z1, hz⟩ := h i hi
  refine ⟨z, z0, z1, ?_⟩
  rw [World.cell?_of_block (w := w) (hk g (World.block_lt_of_cell? _ _ hz) hg)]
  exact hz
theorem run_from {w : World} (a : Option Addr) (n cc k : Nat) (hk : k ≤ n) : (Instr.sliceAt 38 (.slice a n cc) (some (.int .i64 (k : Int))) none none).run Tryz.prog w = .ok (.slice (if cc = k then a else a.map (·.add k)) (n - k) (cc - k)) w := by
  have h0 : (k : Int) ≤ (n : Int) := by omega
  simp [Instr.sliceAt, Instr.sliceBounds, go_sem, h0]
theorem run_to {w : World} (a : Option Addr) (n cc k : Nat) (hk : k ≤ n) (hn : n ≤ cc) : (Instr.sliceAt 38 (.slice a n cc) none (some (.int .i64 (k : Int))) (some (.int .i64 (k : Int)))).run Tryz.prog w = .ok (.slice a k k) w := by
  have h0 : (k : Int) ≤ (cc : Int) := by omega
  simp [Instr.sliceAt, Instr.sliceBounds, go_sem, h0]
theorem run_lit {w : World} (q : Int) : (Instr.buildSlice 38 1 #[(0, .int .i64 q)]).run Tryz.prog w = .ok (.slice (some ⟨w.heap.size, 0, none⟩) 1 1) (w.alloc (.cells #[.int .i64 q] 3)) := by
  simp [Instr.buildSlice, go_sem]
theorem sm_from {w : World} {H n cc : Nat} {a : Option Addr} (h : SmSl w H (.slice a n cc) n) (hcc : n ≤ cc) (k : Nat) (hk : k ≤ n) : SmSl w H (.slice (if cc = k then a else a.map (·.add k)) (n - k) (cc - k)) (n - k) := by
  refine h.drop k hk _ (fun h1 ab ao e => ?_) ?_
  · subst e
    rw [if_neg (by omega)]
    simp [Go.WideShapes.add_plain]
  · obtain ⟨a', _, _, e, _, _, _, _, _, h6⟩ := h
    obtain ⟨rfl, _⟩ : a = a' ∧ _ := by simpa using e
    rcases h6 with rfl | ⟨ab, ao, rfl⟩
    · left; split <;> rfl
    · right
      by_cases hc : cc = k
      · rw [if_pos hc]; exact ⟨_, _, rfl⟩
      · rw [if_neg hc]; exact ⟨_, _, by simp [Go.WideShapes.add_plain]; exact ⟨rfl, rfl⟩⟩
theorem sm_lit {w : World} {H : Nat} (hH : H < w.heap.size) (q : Int) (hq : 0 ≤ q ∧ q < 12) : SmSl (w.alloc (.cells #[.int .i64 q] 3)) H (.slice (some ⟨w.heap.size, 0, none⟩) 1 1) 1 := by
  have hh : (w.alloc (.cells #[.int .i64 q] 3)).heap[w.heap.size]? = some (.cells #[.int .i64 q] 3 (0, 0)) := heap_alloc_new w _
  refine ⟨_, 1, [.int .i64 q], rfl, Nat.le_refl _, by omega, rfl, by rintro u hu; simp at hu; subst hu; exact ⟨q, hq.1, hq.2, rfl⟩, fun _ => ⟨w.heap.size, 0, rfl, by omega, fun j u hj => ?_⟩, Or.inr ⟨_, _, rfl⟩⟩
  simp only [World.cell?, hh]
  match j, hj with
  | 0, hj => simpa using hj
  | j + 1, hj => simp at hj
def FN3 (H B m k n cc : Nat) (a : Option Addr) (q : Int) (ix : Nat) (v : Value) (w : World) : Prop := match ix with
  | 0 => v = .pointer (some ⟨B, 1, none⟩)
  | 1 => v = .int .i64 q
  | 2 => SmSl w H v 1 ∧ ∃ A, v = .slice A 1 1
  | 3 => v = .slice (some ⟨H, 0, none⟩) 12 12
  | 4 => v = .pointer (some ⟨B, 0, none⟩)
  | 5 => v = .int .i64 m
  | 6 => v = .pointer (some ⟨H, m, none⟩)
  | 7 => v = .slice a n cc
  | 8 => v = .int .i64 k
  | 9 => SmSl w H v (n - k)
  | 10 => SmSl w H v (1 + (n - k))
  | 11 => SmSl w H v (1 + (n - k))
  | _ => True
def FN4 (H B m k n cc : Nat) (a : Option Addr) (rv : Value) (ix : Nat) (v : Value) (w : World) : Prop := match ix with
  | 0 => v = .slice (some ⟨H, 0, none⟩) 12 12
  | 1 => v = .pointer (some ⟨B, 0, none⟩)
  | 2 => v = .int .i64 m
  | 3 => v = .slice (some ⟨H, 0, none⟩) 12 12
  | 4 => v = .pointer (some ⟨B, 0, none⟩)
  | 5 => v = .int .i64 m
  | 6 => v = .pointer (some ⟨H, m, none⟩)
  | 7 => v = .slice a n cc
  | 8 => v = .int .i64 k
  | 9 => v = .int .i64 k
  | 10 => SmSl w H v k ∧ ∃ A, v = .slice A k k
  | 11 => v = rv
  | 12 => SmSl w H v (k + (1 + (n - k)))
  | 13 => v = .pointer (some ⟨H, m, none⟩)
  | _ => True
/-- All blocks but H stand. -/
def KeptBut (H : Nat) (w w' : World) : Prop := w.heap.size ≤ w'.heap.size ∧ ∀ k, k < w.heap.size → k ≠ H → w'.heap[k]? = w.heap[k]?
theorem KeptBut.trans {H : Nat} {w w' w2 : World} (h : KeptBut H w w') (g : KeptBut H w' w2) : KeptBut H w w2 := ⟨Nat.le_trans h.1 g.1, fun k hk hn => (g.2 k (Nat.lt_of_lt_of_le hk h.1) hn).trans (h.2 k hk hn)⟩
theorem KeptBut.of {H : Nat} {w w' : World} (h : Below w.heap.size w w') : KeptBut H w w' := ⟨h.size, fun k hk _ => h.block k hk⟩
theorem KeptBut.set (H : Nat) (w : World) (o : Nat) (v : Value) : KeptBut H w (w.setCell ⟨H, o, none⟩ v) := ⟨by simp [World.setCell], fun k _ hne => Below.heap_setCell _ _ _ _ (by simp; exact hne)⟩
theorem KeptBut.cell {H : Nat} {w w' : World} (h : KeptBut H w w') {b o : Nat} {v : Value} (hc : w.cell? ⟨b, o, none⟩ = some v) (hb : b ≠ H) : w'.cell? ⟨b, o, none⟩ = some v := by
  rw [World.cell?_of_block (w := w) (h.2 b (World.block_lt_of_cell? _ _ hc) hb)]
  exact hc
theorem FN3.kept {H B m k n cc : Nat} {a : Option Addr} {q : Int} {w w' : World} (h : KeptBut H w w') (ix : Nat) (v : Value) (hF : FN3 H B m k n cc a q ix v w) : FN3 H B m k n cc a q ix v w' := by
  unfold FN3 at hF ⊢
  split at hF
  all_goals first | exact hF | exact ⟨hF.1.kept h.2, hF.2⟩ | exact SmSl.kept hF h.2
theorem FN4.kept {H B m k n cc : Nat} {a : Option Addr} {rv : Value} {w w' : World} (h : KeptBut H w w') (ix : Nat) (v : Value) (hF : FN4 H B m k n cc a rv ix v w) : FN4 H B m k n cc a rv ix v w' := by
  unfold FN4 at hF ⊢
  split at hF
  all_goals first | exact hF | exact ⟨hF.1.kept h.2, hF.2⟩ | exact SmSl.kept hF h.2
end Go.Proofs.YtpknalpdcfjffaaGreat
/- The reference's grid of frequency one: around. -/
namespace Go.Proofs.YtpknalpdcfjffaaGreat
open Go Go.RowKit

set_option maxHeartbeats 16000000 in
set_option maxRecDepth 100000 in
theorem around_any (w : World) :
    Calls Tryz.prog 74 #[.int .i64 1] w fun e w' => ∃ H : Nat, e = .returned (.slice (some ⟨H, 0, none⟩) 12 12) ∧ Ar w' H 120 ∧ Below w.heap.size w w' ∧ w.heap.size ≤ H := by
  go_enter Tryz.func74, Tryz.ntmps74
  go_wp2_with fail
  refine (cells_any _).mono ?_
  rintro e w1 ⟨v, rfl, hown, hb1⟩
  obtain ⟨g, cap, rfl, hg, hcap, hcm, hc⟩ := hown.at (by omega)
  have HC : Hid (20 ≤ cap ∧ cap ≤ 9223372036854775807) := ⟨hcap, hcm⟩
  have HCl : Hid (Cl w1 g 60) := hc
  have HB1 := Lib.hid hb1
  clear hown hcap hcm hc hg hb1
  go_wp2_with fail
  refine (count_any _).mono ?_
  rintro e w2 ⟨rfl, rfl⟩
  have hmk := mk12
  go_wp2_with fail
  have HS : Hid (ArS w (w1.alloc (.cells nils 38)) w1.heap.size g 0) := ⟨Ar.fresh w1, HCl.out.below ((Below.refl _ _).alloc (Nat.le_refl _) _), by
    obtain ⟨_, _, _, h⟩ := HCl.out 0 (by omega)
    exact World.block_lt_of_cell? _ _ h, HB1.out.alloc HB1.out.size _, HB1.out.size⟩
  obtain ⟨H, hH⟩ : ∃ H, H = w1.heap.size := ⟨_, rfl⟩
  rw [← hH] at HS ⊢
  generalize w1.alloc (.cells nils 38) = w2 at HS ⊢
  clear hH HCl HB1 hmk
  go_loopw [22] (fun kv wr => ∃ c : Nat, c ≤ 20 ∧ kv = .int .i64 c ∧ Hid (ArS w wr H g (6 * c))) (fun kv _ => (20 - intOf kv).toNat)
  case atStart => exact ⟨0, by omega, rfl, HS⟩
  case round =>
    clear HS
    obtain ⟨c, hc, rfl, hs⟩ := hrel
    by_cases hlt : c < 20
    · have c0 : (c : Int) < 20 := by omega
      obtain ⟨x, x0, x1, hx⟩ := hs.out.cl (c * 3) (by omega)
      obtain ⟨y, y0, y1, hy⟩ := hs.out.cl (c * 3 + 1) (by omega)
      obtain ⟨z, z0, z1, hz⟩ := hs.out.cl (c * 3 + 2) (by omega)
      go_wp2_with fail
      have HS3 : Hid (ArS w _ H g (6 * c)) := hs.out.then (((Below.refl _ _).alloc (Nat.le_refl _) (.cells #[.int .i64 x, .int .i64 y, .int .i64 z] 190)).alloc (by simp) (.cells #[.int .i64 x, .int .i64 y, .int .i64 x, .int .i64 z, .int .i64 y, .int .i64 z, .int .i64 y, .int .i64 x, .int .i64 z, .int .i64 x, .int .i64 z, .int .i64 y] 191))
      have HP3 : Hid (Cl _ _ 12) := Cl.pairs (wr.alloc (.cells #[.int .i64 x, .int .i64 y, .int .i64 z] 190)) x y z ⟨x0, x1⟩ ⟨y0, y1⟩ ⟨z0, z1⟩ 191
      have HPH : Hid ((wr.alloc (.cells #[.int .i64 x, .int .i64 y, .int .i64 z] 190)).heap.size ≠ H) := by
        have := hs.out.ar.1
        unfold Hid; simp; omega
      obtain ⟨PB, hPB⟩ : ∃ PB, PB = (wr.alloc (.cells #[.int .i64 x, .int .i64 y, .int .i64 z] 190)).heap.size := ⟨_, rfl⟩
      have hPB' : PB = wr.heap.size + 1 := by rw [hPB]; simp
      rw [← hPB] at HP3 HPH
      try rw [← hPB']
      try rw [← hPB]
      generalize (wr.alloc (.cells #[.int .i64 x, .int .i64 y, .int .i64 z] 190)).alloc (.cells #[.int .i64 x, .int .i64 y, .int .i64 x, .int .i64 z, .int .i64 y, .int .i64 z, .int .i64 y, .int .i64 x, .int .i64 z, .int .i64 x, .int .i64 z, .int .i64 y] 191) = w3 at HS3 HP3 ⊢
      clear hPB hPB' hx hy hz hs x0 x1 y0 y1 z0 z1
      obtain ⟨wout, rfl⟩ : ∃ wout : World, wout = wr := ⟨_, rfl⟩
      go_loopw [58] (fun kv wr => ∃ i : Nat, i ≤ 6 ∧ kv = .int .i64 i ∧ Hid (ArS w wr H g (6 * c + i)) ∧ Hid (Cl wr PB 12)) (fun kv _ => (6 - intOf kv).toNat)
      case atStart => exact ⟨0, by omega, rfl, HS3, HP3⟩
      case round =>
        clear HS3 HP3
        obtain ⟨i, hi, rfl, hs, hp⟩ := hrel
        by_cases hil : i < 6
        · have i0 : (i : Int) < 6 := by omega
          obtain ⟨p, p0, p1, hp0⟩ := hp.out (i * 2) (by omega)
          obtain ⟨q, q0, q1, hq0⟩ := hp.out (i * 2 + 1) (by omega)
          obtain ⟨m, rfl⟩ := Int.eq_ofNat_of_zero_le p0
          go_upto_block 4 with fail
          have HBx : Hid (_ ∧ _) := box2 wr m q 191
          have HSi : Hid (ArS w _ H g (6 * c + i)) := hs.out.then ((Below.refl _ _).alloc (Nat.le_refl _) (.cells #[.int .i64 m, .int .i64 q] 191))
          have HPi : Hid (Cl _ PB 12) := hp.out.below ((Below.refl _ _).alloc (Nat.le_refl _) (.cells #[.int .i64 m, .int .i64 q] 191))
          have HBH : Hid (wr.heap.size ≠ H ∧ PB ≠ wr.heap.size) := by
            have h1 := hs.out.ar.1
            have h2 := World.block_lt_of_cell? _ _ hp0
            refine ⟨?_, ?_⟩
            · omega
            · simp at h2; omega
          obtain ⟨B, hB⟩ : ∃ B, B = wr.heap.size := ⟨_, rfl⟩
          rw [← hB] at HBx HBH ⊢
          generalize wr.alloc (.cells #[.int .i64 m, .int .i64 q] 191) = wi at HBx HSi HPi ⊢
          clear hp0 hq0 hs hp hB
          obtain ⟨wrr, rfl⟩ : ∃ wrr : World, wrr = wr := ⟨_, rfl⟩
          obtain ⟨hf, a, n, cc, hn, hcell, hsm⟩ := HSi.out.ar.2 m (by omega)
          have Hf := Lib.hid hf
          have Hn := Lib.hid hn
          have Hcell := Lib.hid hcell
          have Hsm := Lib.hid hsm
          have Hcc : Hid (n ≤ cc ∧ cc ≤ 9223372036854775807) := by
            obtain ⟨_, c', _, e, h1, h2, _⟩ := hsm
            obtain ⟨_, rfl⟩ : _ ∧ cc = c' := by simpa using e
            exact ⟨h1, h2⟩
          have hn' : n ≤ 200 := by omega
          clear hf hn hcell hsm
          go_cut [10] (fun kv wx => ∃ k : Nat, k ≤ n ∧ kv = .int .i64 k ∧ Below wi.heap.size wi wx)
          case first =>
            go_wp2_with fail
            go_loopw [10] (fun kv wr => ∃ k : Nat, k ≤ n ∧ kv = .int .i64 k ∧ Hid (Below wi.heap.size wi wr)) (fun kv _ => (1000 - intOf kv).toNat)
            case atStart => exact ⟨0, by omega, rfl, Below.refl _ _⟩
            case round =>
              obtain ⟨k, hk, rfl, hb⟩ := hrel
              have hB0 := cell_then hb.out HBx.out.1
              have hB1 := cell_then hb.out HBx.out.2
              have hA := cell_then hb.out Hcell.out
              by_cases hkn : k < n
              · obtain ⟨ab, ao, z, rfl, z0, z1, hz⟩ := Hsm.out.at k hkn
                have hz' := cell_then hb.out hz
                have k0 : (k : Int) < (n : Int) := by omega
                have k1 : (k : Int) ≤ 200 := by omega
                clear hz
                by_cases hzq : z < q
                · go_wp2_with fail
                  go_quiet (fail)
                  go_wp2_with fail
                  go_roundw
                  case rel => exact ⟨k + 1, by omega, by go_num, belowN hb.out _⟩
                  case measure => simp [intOf]; omega
                · have e0 : decide (z < q) = false := by simp; omega
                  have e1 : q ≤ z := by omega
                  go_wp2_with fail
                  go_quiet (fail)
                  go_wp2_with fail
                  go_meet
                  exact ⟨k, hk, rfl, belowN hb.out _⟩
              · obtain rfl : k = n := by omega
                have e0 : decide ((k : Int) < (k : Int)) = false := by simp
                go_wp2_with fail
                go_quiet (fail)
                go_wp2_with fail
                go_meet
                exact ⟨k, hk, rfl, belowN hb.out _⟩
          case rest =>
            obtain ⟨k, hk, rfl, hb⟩ := hcut
            have Hbc := Lib.hid hb
            have hB0 := cell_then hb HBx.out.1
            have hB1 := cell_then hb HBx.out.2
            have hA := cell_then hb Hcell.out
            clear hb
            go_upto_region 12 with fail
            go_cut [105] (fun bv wx => ∃ b : Bool, bv = .bool b ∧ Below wi.heap.size wi wx)
            case first =>
              by_cases hkn : k < n
              · obtain ⟨ab, ao, z, rfl, z0, z1, hz⟩ := Hsm.out.at k hkn
                have hz' := cell_then Hbc.out hz
                have k0 : (k : Int) < (n : Int) := by omega
                have k1 : (k : Int) ≤ 200 := by omega
                clear hz
                by_cases hzq : z = q
                · subst hzq
                  go_wp2_with fail
                  go_quiet (fail)
                  try go_wp2_with fail
                  go_meet
                  exact ⟨_, rfl, belowN Hbc.out _⟩
                · have e0 : (z == q) = false := by simpa using hzq
                  go_wp2_with fail
                  go_quiet (fail)
                  try go_wp2_with fail
                  go_meet
                  exact ⟨_, rfl, belowN Hbc.out _⟩
              · obtain rfl : k = n := by omega
                have e0 : decide ((k : Int) < (k : Int)) = false := by simp
                go_wp2_with fail
                go_quiet (fail)
                try go_wp2_with fail
                go_meet
                exact ⟨_, rfl, belowN Hbc.out _⟩
            case rest =>
              obtain ⟨b, rfl, hb⟩ := hcut
              clear Hbc hB0 hB1 hA
              have Hbc := Lib.hid hb
              cases b with
              | true =>
                go_wp2_with fail
                go_roundw
                case rel => exact ⟨i + 1, by omega, by go_num, (HSi.out.then hb).more (by omega), HPi.out.below hb⟩
                case measure => simp [intOf]; omega
              | false =>
                clear hb
                go_upto_region 13 with fail
                have Hk := Lib.hid hk
                have HH : Hid (H < wi.heap.size) := HSi.out.ar.1
                have HQ : Hid (0 ≤ q ∧ q < 12) := ⟨q0, q1⟩
                have HM : Hid (m < 12) := by unfold Hid; omega
                have M1 : (m : Int) < 12 := p1
                refine wp_region_slots2 (by kernel_rfl) 134 rfl (by kernel_rfl) (by kernel_rfl) 106 11 11 1 (by kernel_rfl) (fun d w' => Below wi.heap.size wi w') (FN3 H B m k n cc a q) ?hS0 ?hop ?hend
                case hS0 => exact Hbc.out.drew
                case hop =>
                  refine ⟨?_, ?_, ?_, ?_, ?_, ?_, ?_, ?_, ?_, ?_, ?_, ?_, trivial⟩
                  all_goals intro d ac wx hd hcl hS hA haft K hK
                  · have f9 : ac.tmps.getD 9 undef = .pointer (some ⟨B, 0, none⟩) := same_slot hA 9 (by kernel_rfl)
                    refine hop_val rfl (.pointer (some ⟨B, 1, none⟩)) (w' := wx) ?_ (hK _ _ rfl (fun _ _ _ h => h) hS)
                    simp [execOp, Act.eval, f9, go_sem, -Array.getD_eq_getD_getElem?]
                  · have c1 := cell_then hS HBx.out.2
                    have f106 : ac.tmps.getD 106 undef = .pointer (some ⟨B, 1, none⟩) := (haft ⟨0, .data⟩ (by simp) rfl).2 _ rfl
                    refine hop_val rfl (.int .i64 q) (w' := wx) ?_ (hK _ _ rfl (fun _ _ _ h => h) hS)
                    simp [execOp, Act.eval, f106, c1, go_sem, -Array.getD_eq_getD_getElem?]
                  · have f107 : ac.tmps.getD 107 undef = .int .i64 q := (haft ⟨1, .data⟩ (by simp) rfl).2 _ rfl
                    refine hop_val rfl (.slice (some ⟨wx.heap.size, 0, none⟩) 1 1) (w' := wx.alloc (.cells #[.int .i64 q] 3)) ?_ (hK _ _ ⟨sm_lit (Nat.lt_of_lt_of_le HH.out hS.size) q HQ.out, _, rfl⟩ (fun k' u _ h => FN3.kept (KeptBut.of ((Below.refl _ _).alloc (Nat.le_refl _) _)) k' u h) (hS.alloc hS.size _))
                    simp [execOp, Act.eval, f107, run_lit, -Array.getD_eq_getD_getElem?]
                  · have f5 : ac.tmps.getD 5 undef = .slice (some ⟨H, 0, none⟩) 12 12 := same_slot hA 5 (by kernel_rfl)
                    refine hop_val rfl (.slice (some ⟨H, 0, none⟩) 12 12) (w' := wx) ?_ (hK _ _ rfl (fun _ _ _ h => h) hS)
                    simp [execOp, Act.eval, f5, go_sem, -Array.getD_eq_getD_getElem?]
                  · have f9 : ac.tmps.getD 9 undef = .pointer (some ⟨B, 0, none⟩) := same_slot hA 9 (by kernel_rfl)
                    refine hop_val rfl (.pointer (some ⟨B, 0, none⟩)) (w' := wx) ?_ (hK _ _ rfl (fun _ _ _ h => h) hS)
                    simp [execOp, Act.eval, f9, go_sem, -Array.getD_eq_getD_getElem?]
                  · have c0 := cell_then hS HBx.out.1
                    have f110 : ac.tmps.getD 110 undef = .pointer (some ⟨B, 0, none⟩) := (haft ⟨4, .data⟩ (by simp) rfl).2 _ rfl
                    refine hop_val rfl (.int .i64 m) (w' := wx) ?_ (hK _ _ rfl (fun _ _ _ h => h) hS)
                    simp [execOp, Act.eval, f110, c0, go_sem, -Array.getD_eq_getD_getElem?]
                  · have f109 : ac.tmps.getD 109 undef = .slice (some ⟨H, 0, none⟩) 12 12 := (haft ⟨3, .data⟩ (by simp) rfl).2 _ rfl
                    have f111 : ac.tmps.getD 111 undef = .int .i64 m := (haft ⟨5, .data⟩ (by simp) rfl).2 _ rfl
                    refine hop_val rfl (.pointer (some ⟨H, m, none⟩)) (w' := wx) ?_ (hK _ _ rfl (fun _ _ _ h => h) hS)
                    simp [execOp, Act.eval, f109, f111, M1, go_sem, -Array.getD_eq_getD_getElem?]
                  · have ch := cell_then hS Hcell.out
                    have f112 : ac.tmps.getD 112 undef = .pointer (some ⟨H, m, none⟩) := (haft ⟨6, .data⟩ (by simp) rfl).2 _ rfl
                    refine hop_val rfl (.slice a n cc) (w' := wx) ?_ (hK _ _ rfl (fun _ _ _ h => h) hS)
                    simp [execOp, Act.eval, f112, ch, go_sem, -Array.getD_eq_getD_getElem?]
                  · have f10 : ac.tmps.getD 10 undef = .int .i64 k := same_slot hA 10 (by kernel_rfl)
                    refine hop_val rfl (.int .i64 k) (w' := wx) ?_ (hK _ _ rfl (fun _ _ _ h => h) hS)
                    simp [execOp, Act.eval, f10, go_sem, -Array.getD_eq_getD_getElem?]
                  · have f113 : ac.tmps.getD 113 undef = .slice a n cc := (haft ⟨7, .data⟩ (by simp) rfl).2 _ rfl
                    have f114 : ac.tmps.getD 114 undef = .int .i64 k := (haft ⟨8, .data⟩ (by simp) rfl).2 _ rfl
                    refine hop_val rfl (.slice (if cc = k then a else a.map (·.add k)) (n - k) (cc - k)) (w' := wx) ?_ (hK _ _ (sm_from (Hsm.out.below hS) Hcc.out.1 k Hk.out) (fun _ _ _ h => h) hS)
                    simp [execOp, Act.eval, f113, f114, run_from a n cc k Hk.out, -Array.getD_eq_getD_getElem?]
                  · obtain ⟨g108, A8, e108⟩ := (haft ⟨2, .data⟩ (by simp) rfl).2 _ rfl
                    have g115 := (haft ⟨9, .data⟩ (by simp) rfl).2 _ rfl
                    have f108 : ac.tmps.getD 108 undef = .slice A8 1 1 := e108
                    obtain ⟨x115, f115⟩ : ∃ x, ac.tmps.getD 115 undef = x := ⟨_, rfl⟩
                    have g108 : SmSl wx H (ac.tmps.getD 108 undef) 1 := g108
                    have g115 : SmSl wx H (ac.tmps.getD 115 undef) (n - k) := g115
                    rw [f108] at g108
                    rw [f115] at g115
                    obtain ⟨v', w', hrun, hv', hb'⟩ := sm_append g108 ⟨_, rfl⟩ g115 (Nat.lt_of_lt_of_le HH.out hS.size) (by have := Hk.out; omega) 38
                    refine hop_val rfl v' (w' := w') ?_ (hK _ _ hv' (fun k' u _ h => FN3.kept (KeptBut.of hb') k' u h) (below_then hS hb'))
                    unfold execOp
                    simp only [resolve, invoke, builtin, Sem.run_bind, Sem.run_pure, Result.andThen_ok, List.map_toArray, List.map_cons, List.map_nil, Act.eval, f108, f115, hrun]
                  · have g116 : SmSl wx H (ac.tmps.getD 116 undef) (1 + (n - k)) := (haft ⟨10, .data⟩ (by simp) rfl).2 _ rfl
                    refine hop_val rfl (ac.tmps.getD 116 undef) (w' := wx) ?_ (hK _ _ g116 (fun _ _ _ h => h) hS)
                    simp [execOp, Act.eval, go_sem, -Array.getD_eq_getD_getElem?]
                case hend =>
                  intro u wd d hd hS hF
                  have hrv : SmSl wd H (u 11) (1 + (n - k)) := hF 11 _ rfl
                  obtain ⟨rv, hrveq⟩ : ∃ rv, rv = u 11 := ⟨_, rfl⟩
                  rw [← hrveq] at hrv
                  have Hrd := Lib.hid hrv
                  have HSd : Hid (ArS w wd H g (6 * c + i)) := HSi.out.then hS
                  have HPd : Hid (Cl wd PB 12) := HPi.out.below hS
                  have HBd : Hid (wd.cell? ⟨B, 0, none⟩ = some (.int .i64 m)) := cell_then hS HBx.out.1
                  have HCd : Hid (wd.cell? ⟨H, m, none⟩ = some (.slice a n cc)) := cell_then hS Hcell.out
                  have Hsd : Hid (SmSl wd H (.slice a n cc) n) := Hsm.out.below hS
                  have HH2 : Hid (H < wd.heap.size) := HSd.out.ar.1
                  have HBase : Hid (w.heap.size ≤ H) := HSd.out.base
                  clear hF hd hS hrv d
                  simp only [mixL]
                  rw [← hrveq]
                  clear hrveq
                  go_upto_region 14 with fail
                  refine wp_region_slots (by kernel_rfl) 134 rfl (by kernel_rfl) (by kernel_rfl) 117 14 (by kernel_rfl) (fun d w' => Below w.heap.size w w' ∧ KeptBut H wd w' ∧ Ar w' H (6 * c + i + 1) ∧ (d 7 = false → w'.cell? ⟨H, m, none⟩ = some (.slice a n cc))) (FN4 H B m k n cc a rv) ?hS1 ?hop1 ?hend1
                  case hS1 => exact ⟨HSd.out.below.drew, ⟨Nat.le_refl _, fun _ _ _ => rfl⟩, (HSd.out.ar.mono (Nat.le_succ _)).below (Below.refl _ _).drew, fun _ => HCd.out⟩
                  case hop1 =>
                    refine ⟨?_, ?_, ?_, ?_, ?_, ?_, ?_, ?_, ?_, ?_, ?_, ?_, ?_, ?_, ?_, trivial⟩
                    all_goals intro d ac wx hd hcl hS hA haft K hK
                    · have f5 : ac.tmps.getD 5 undef = .slice (some ⟨H, 0, none⟩) 12 12 := same_slot hA 5 (by kernel_rfl)
                      refine hop_val rfl (.slice (some ⟨H, 0, none⟩) 12 12) (w' := wx) ?_ (hK _ _ rfl (fun _ _ _ h => h) hS)
                      simp [execOp, Act.eval, f5, go_sem, -Array.getD_eq_getD_getElem?]
                    · have f9 : ac.tmps.getD 9 undef = .pointer (some ⟨B, 0, none⟩) := same_slot hA 9 (by kernel_rfl)
                      refine hop_val rfl (.pointer (some ⟨B, 0, none⟩)) (w' := wx) ?_ (hK _ _ rfl (fun _ _ _ h => h) hS)
                      simp [execOp, Act.eval, f9, go_sem, -Array.getD_eq_getD_getElem?]
                    · have c0 := hS.2.1.cell HBd.out HBH.out.1
                      have f118 : ac.tmps.getD 118 undef = .pointer (some ⟨B, 0, none⟩) := (haft ⟨1, .data⟩ (by simp) rfl).2 _ rfl
                      refine hop_val rfl (.int .i64 m) (w' := wx) ?_ (hK _ _ rfl (fun _ _ _ h => h) hS)
                      simp [execOp, Act.eval, f118, c0, go_sem, -Array.getD_eq_getD_getElem?]
                    · have f5 : ac.tmps.getD 5 undef = .slice (some ⟨H, 0, none⟩) 12 12 := same_slot hA 5 (by kernel_rfl)
                      refine hop_val rfl (.slice (some ⟨H, 0, none⟩) 12 12) (w' := wx) ?_ (hK _ _ rfl (fun _ _ _ h => h) hS)
                      simp [execOp, Act.eval, f5, go_sem, -Array.getD_eq_getD_getElem?]
                    · have f9 : ac.tmps.getD 9 undef = .pointer (some ⟨B, 0, none⟩) := same_slot hA 9 (by kernel_rfl)
                      refine hop_val rfl (.pointer (some ⟨B, 0, none⟩)) (w' := wx) ?_ (hK _ _ rfl (fun _ _ _ h => h) hS)
                      simp [execOp, Act.eval, f9, go_sem, -Array.getD_eq_getD_getElem?]
                    · have c0 := hS.2.1.cell HBd.out HBH.out.1
                      have f121 : ac.tmps.getD 121 undef = .pointer (some ⟨B, 0, none⟩) := (haft ⟨4, .data⟩ (by simp) rfl).2 _ rfl
                      refine hop_val rfl (.int .i64 m) (w' := wx) ?_ (hK _ _ rfl (fun _ _ _ h => h) hS)
                      simp [execOp, Act.eval, f121, c0, go_sem, -Array.getD_eq_getD_getElem?]
                    · have f120 : ac.tmps.getD 120 undef = .slice (some ⟨H, 0, none⟩) 12 12 := (haft ⟨3, .data⟩ (by simp) rfl).2 _ rfl
                      have f122 : ac.tmps.getD 122 undef = .int .i64 m := (haft ⟨5, .data⟩ (by simp) rfl).2 _ rfl
                      refine hop_val rfl (.pointer (some ⟨H, m, none⟩)) (w' := wx) ?_ (hK _ _ rfl (fun _ _ _ h => h) hS)
                      simp [execOp, Act.eval, f120, f122, M1, go_sem, -Array.getD_eq_getD_getElem?]
                    · have ch := hS.2.2.2 hd
                      have f123 : ac.tmps.getD 123 undef = .pointer (some ⟨H, m, none⟩) := (haft ⟨6, .data⟩ (by simp) rfl).2 _ rfl
                      refine hop_val rfl (.slice a n cc) (w' := wx) ?_ (hK _ _ rfl (fun _ _ _ h => h) ⟨hS.1, hS.2.1, hS.2.2.1, fun h => by simp at h⟩)
                      simp [execOp, Act.eval, f123, ch, go_sem, -Array.getD_eq_getD_getElem?]
                    · have f10 : ac.tmps.getD 10 undef = .int .i64 k := same_slot hA 10 (by kernel_rfl)
                      refine hop_val rfl (.int .i64 k) (w' := wx) ?_ (hK _ _ rfl (fun _ _ _ h => h) hS)
                      simp [execOp, Act.eval, f10, go_sem, -Array.getD_eq_getD_getElem?]
                    · have f10 : ac.tmps.getD 10 undef = .int .i64 k := same_slot hA 10 (by kernel_rfl)
                      refine hop_val rfl (.int .i64 k) (w' := wx) ?_ (hK _ _ rfl (fun _ _ _ h => h) hS)
                      simp [execOp, Act.eval, f10, go_sem, -Array.getD_eq_getD_getElem?]
                    · have f124 : ac.tmps.getD 124 undef = .slice a n cc := (haft ⟨7, .data⟩ (by simp) rfl).2 _ rfl
                      have f125 : ac.tmps.getD 125 undef = .int .i64 k := (haft ⟨8, .data⟩ (by simp) rfl).2 _ rfl
                      have f126 : ac.tmps.getD 126 undef = .int .i64 k := (haft ⟨9, .data⟩ (by simp) rfl).2 _ rfl
                      refine hop_val rfl (.slice a k k) (w' := wx) ?_ (hK _ _ ⟨(Hsd.out.kept hS.2.1.2).take k Hk.out, _, rfl⟩ (fun _ _ _ h => h) hS)
                      simp [execOp, Act.eval, f124, f125, f126, run_to a n cc k Hk.out Hcc.out.1, -Array.getD_eq_getD_getElem?]
                    · have f11 : ac.tmps.getD 11 undef = rv := same_slot hA 11 (by kernel_rfl)
                      refine hop_val rfl (rv) (w' := wx) ?_ (hK _ _ rfl (fun _ _ _ h => h) hS)
                      simp [execOp, Act.eval, f11, go_sem, -Array.getD_eq_getD_getElem?]
                    · obtain ⟨g127, A7, e127⟩ := (haft ⟨10, .data⟩ (by simp) rfl).2 _ rfl
                      have f127 : ac.tmps.getD 127 undef = .slice A7 k k := e127
                      have f128 : ac.tmps.getD 128 undef = rv := (haft ⟨11, .data⟩ (by simp) rfl).2 _ rfl
                      have g127 : SmSl wx H (ac.tmps.getD 127 undef) k := g127
                      rw [f127] at g127
                      have hlt := Nat.lt_of_lt_of_le HH2.out hS.2.1.1
                      obtain ⟨v', w', hrun, hv', hb'⟩ := sm_append g127 ⟨_, rfl⟩ (Hrd.out.kept hS.2.1.2) hlt (by have := Hk.out; omega) 38
                      refine hop_val rfl v' (w' := w') ?_ (hK _ _ hv' (fun k' u _ h => FN4.kept (KeptBut.of hb') k' u h) ⟨below_then hS.1 hb', hS.2.1.trans (KeptBut.of hb'), hS.2.2.1.below hb', fun h => cell_then hb' (hS.2.2.2 h)⟩)
                      unfold execOp
                      simp only [resolve, invoke, builtin, Sem.run_bind, Sem.run_pure, Result.andThen_ok, List.map_toArray, List.map_cons, List.map_nil, Act.eval, f127, f128, hrun]
                    · have f117 : ac.tmps.getD 117 undef = .slice (some ⟨H, 0, none⟩) 12 12 := (haft ⟨0, .data⟩ (by simp) rfl).2 _ rfl
                      have f119 : ac.tmps.getD 119 undef = .int .i64 m := (haft ⟨2, .data⟩ (by simp) rfl).2 _ rfl
                      refine hop_val rfl (.pointer (some ⟨H, m, none⟩)) (w' := wx) ?_ (hK _ _ rfl (fun _ _ _ h => h) hS)
                      simp [execOp, Act.eval, f117, f119, M1, go_sem, -Array.getD_eq_getD_getElem?]
                    · have g129 : SmSl wx H (ac.tmps.getD 129 undef) (k + (1 + (n - k))) := (haft ⟨12, .data⟩ (by simp) rfl).2 _ rfl
                      have f130 : ac.tmps.getD 130 undef = .pointer (some ⟨H, m, none⟩) := (haft ⟨13, .data⟩ (by simp) rfl).2 _ rfl
                      obtain ⟨q1, a0, n0, c0, _, q0, _⟩ := hS.2.2.1.2 m HM.out
                      obtain ⟨a9, c9, hsl⟩ : ∃ a c, ac.tmps.getD 129 undef = .slice a (k + (1 + (n - k))) c := by obtain ⟨a, c, _, e, _⟩ := g129; exact ⟨a, c, e⟩
                      rw [hsl] at g129
                      refine hop_none rfl (w' := wx.setCell ⟨H, m, none⟩ (.slice a9 (k + (1 + (n - k))) c9)) ?_ (hK undef _ trivial (fun k' u _ h => FN4.kept (KeptBut.set H _ m _) k' u h) ⟨hS.1.setCell HBase.out _, hS.2.1.trans (KeptBut.set H _ m _), hS.2.2.1.set (by have := Hk.out; have := Hn.out; omega) g129 HM.out, fun h => ?_⟩)
                      · simp [execOp, Act.eval, f130, hsl, q0, q1, go_sem, -Array.getD_eq_getD_getElem?]
                      · have h7 := (haft ⟨7, .phase⟩ (by simp) rfl).1
                        simp at h
                        rw [h7] at h; cases h
                  case hend1 =>
                    intro u2 we d hd hS hF
                    have HSe : Hid (ArS w we H g (6 * c + (i + 1))) := ⟨hS.2.2.1, HSd.out.cl.kept hS.2.1.2 (by have := HSd.out.low; omega), HSd.out.low, hS.1, HBase.out⟩
                    have HPe : Hid (Cl we PB 12) := HPd.out.kept hS.2.1.2 HPH.out
                    clear hF hd hS d
                    simp only [mixL]
                    go_wp2_with fail
                    go_roundw
                    case rel => exact ⟨i + 1, by omega, by go_num, HSe, HPe⟩
                    case measure => simp [intOf]; omega
        · obtain rfl : i = 6 := by omega
          go_wp2_with fail
          go_roundw
          case rel => exact ⟨c + 1, by omega, by go_num, hs⟩
          case measure => simp [intOf]; omega
    · obtain rfl : c = 20 := by omega
      go_wp2_with fail
      go_ret
      exact ⟨H, rfl, hs.out.ar, hs.out.below, hs.out.base⟩
end Go.Proofs.YtpknalpdcfjffaaGreat
