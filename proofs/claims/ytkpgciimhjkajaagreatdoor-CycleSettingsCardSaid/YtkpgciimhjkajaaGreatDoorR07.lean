/- Part 7 of the proof: laws on memory and what functions of the program return. No conditions but those that each theorem names. -/
import Derived.Test.YtkpgciimhjkajaaGreatDoorR06
import Derived.RangeFuncNested
import Derived.RangeFuncBound
import Derived.RangeFuncCalls
import Derived.RangeFuncLeaves
import Derived.Shelf.Abstract
import Derived.Shelf.RegionOpen
import Derived.WalkKit
import Derived.OwnWalkIn
import Derived.TacticsInMore
import Derived.LoopNIn
import Derived.LoopIn
set_option linter.unusedVariables false
set_option linter.unusedSimpArgs false
/- The program's grid: Build. -/
namespace Go.Proofs.YtkpgciimhjkajaaGreatDoor
open Go Go.RowKit
structure BdC (w : World) (B mb n : Nat) (nv cv : Value) (L : List Tri) (wr : World) : Prop where
  net : NetN wr B mb n nv cv (.slice none 0 0) (.slice none 0 0)
  own : wr.ownsRow (B + 1) 114 3 cv L.length (tcells L)
  below : Below w.heap.size w wr
  size : B + 1 ≤ wr.heap.size
theorem BdC.then {w wr w' : World} {B mb n : Nat} {nv cv : Value} {L : List Tri} (h : BdC w B mb n nv cv L wr) (hb : Below wr.heap.size wr w') : BdC w B mb n nv cv L w' :=
  ⟨h.net.then hb, ownsRow_below h.own hb, below_then h.below hb, Nat.le_trans h.size hb.size⟩
theorem BdC.drew {w wr : World} {B mb n : Nat} {nv cv : Value} {L : List Tri} (h : BdC w B mb n nv cv L wr) : BdC w B mb n nv cv L wr.drew := h.then (Below.refl _ _).drew
theorem NetN.slot {w : World} {B mb n : Nat} {nv cv ev xv : Value} (h : NetN w B mb n nv cv ev xv) (k : Nat) (v : Value) (hv : (netRow n (840 / n) nv (some mb) cv ev xv)[k]? = some v) : w.cell? ⟨B, k, none⟩ = some v := by
  have := h.row.at k hv
  exact this
set_option maxHeartbeats 16000000 in
set_option maxRecDepth 100000 in
theorem build_any (n : Nat) (hn : Fq n) (w : World) (hcr : Crn w) (hg : 0 < w.heap.size) :
    Calls Tryz.prog 83 #[.int .i64 n] w fun e w' => ∃ B mb nv cv ev xv, e = .returned (.pointer (some ⟨B, 0, none⟩)) ∧ NetN w' B mb n nv cv ev xv ∧ OwnE2 w' w.heap.size ev (edgesN n) ∧ Below w.heap.size w w' := by
  have HF := Lib.hid hn
  have hn8 : 1 ≤ n ∧ n ≤ 8 := hn
  have HPo := Lib.hid (points_any n hn w hcr)
  have HCr := Lib.hid (fun w' (h : Below w.heap.size w w') => hcr.below h hg)
  obtain ⟨h, hh⟩ : ∃ h, h = 840 / n := ⟨_, rfl⟩
  have Hh := Lib.hid hh
  have hh1 : 1 ≤ h ∧ h ≤ 840 := by rw [hh]; exact fq_h hn
  have HU : Hid (n * h = 840) := by rw [hh]; exact hn.unit
  clear hh hn hcr
  go_enter Tryz.func83, Tryz.ntmps83
  go_wp2_with fail
  refine HPo.out.mono ?_
  rintro e w1 ⟨nv, rfl, hp1⟩
  obtain ⟨B, hB⟩ : ∃ B, B = w.heap.size + 1 := ⟨_, rfl⟩
  obtain ⟨mb, hmb⟩ : ∃ mb, mb = w.heap.size := ⟨_, rfl⟩
  have HBe := Lib.hid (And.intro hB hmb)
  rw [← hB, ← hmb] at hp1
  rw [← hB]
  have HS0 : Hid (∃ cv, BdC w B mb n nv cv (rawTo n 0 0 0) w1) := ⟨_, ⟨hp1.row, hp1.map⟩, World.ownsRow_nil w1 _ _ 3, hp1.below, by have := hp1.size; omega⟩
  obtain ⟨na, nc, hnv⟩ := hp1.own.slice
  have Hnv := Lib.hid hnv
  clear hp1 hB hmb HPo hnv
  go_wp2_with fail
  go_loopw [15] (fun kv wr => ∃ (k : Nat), kv = .int .i64 k ∧ k ≤ 20 ∧ Hid (∃ cv, BdC w B mb n nv cv (rawTo n k 0 0) wr)) (fun kv _ => (20 - intOf kv).toNat)
  case atStart => exact ⟨0, rfl, by omega, HS0⟩
  case round =>
    clear HS0
    obtain ⟨k, rfl, hk, hs⟩ := hrel
    by_cases hlt : k < 20
    · have k0 : (k : Int) < 20 := by omega
      have HK := Lib.hid hlt
      obtain ⟨wout, rfl⟩ : ∃ wout : World, wout = wr := ⟨_, rfl⟩
      go_wp2_with fail
      go_loopw [5] (fun av wr => ∃ (i : Nat), av = .int .i64 i ∧ i ≤ n ∧ Hid (∃ cv, BdC w B mb n nv cv (rawTo n k i 0) wr)) (fun av _ => (20 - intOf av).toNat)
      case atStart => exact ⟨0, rfl, by omega, hs⟩
      case round =>
        clear hs
        obtain ⟨i, rfl, hi, hs⟩ := hrel
        obtain ⟨wout2, rfl⟩ : ∃ wout2 : World, wout2 = wr := ⟨_, rfl⟩
        by_cases hin : i < n
        · have i0 : (i : Int) < (n : Int) := by omega
          go_wp2_with fail
          go_loopw [6] (fun bv wr => ∃ (j : Nat), bv = .int .i64 j ∧ j ≤ n - i ∧ Hid (∃ cv, BdC w B mb n nv cv (rawTo n k i j) wr)) (fun bv _ => (20 - intOf bv).toNat)
          case atStart => exact ⟨0, rfl, by omega, hs⟩
          case round =>
            clear hs
            obtain ⟨j, rfl, hj, hs⟩ := hrel
            by_cases hjn : i + j < n
            · have j0 : (i : Int) + (j : Int) < (n : Int) := by omega
              obtain ⟨cv, hs⟩ := hs.out
              have hs := Lib.hid hs
              obtain ⟨A, hA⟩ : ∃ A : Int, A = ((i * h : Nat) : Int) := ⟨_, rfl⟩
              obtain ⟨Bb, hBb⟩ : ∃ A : Int, A = ((j * h : Nat) : Int) := ⟨_, rfl⟩
              obtain ⟨C, hC⟩ : ∃ A : Int, A = (((n - 1 - i - j) * h : Nat) : Int) := ⟨_, rfl⟩
              have hbp : bp n k i j (n - 1 - i - j) = ⟨(k : Int), A, Bb, C⟩ := by unfold bp; rw [hA, hBb, hC, Hh.out]
              have q1 : i * h ≤ 8 * 840 := Nat.mul_le_mul (by omega) hh1.2
              have q2 : j * h ≤ 8 * 840 := Nat.mul_le_mul (by omega) hh1.2
              have q3 : (n - 1 - i - j) * h ≤ 8 * 840 := Nat.mul_le_mul (by omega) hh1.2
              have HmA : Hid (IntKind.i64.wrap ((i : Int) * (h : Int)) = A) := by
                have e : (i : Int) * (h : Int) = A := by rw [hA]; simp
                rw [e]; exact IntWalk.i64_in _ (by omega)
              have HmB : Hid (IntKind.i64.wrap ((j : Int) * (h : Int)) = Bb) := by
                have e : (j : Int) * (h : Int) = Bb := by rw [hBb]; simp
                rw [e]; exact IntWalk.i64_in _ (by omega)
              have Hs0 : Hid (IntKind.i64.wrap ((n : Int) - 1) = (n : Int) - 1) := IntWalk.i64_in _ (by omega)
              have Hs1 : Hid (IntKind.i64.wrap ((n : Int) - 1 - (i : Int)) = (n : Int) - 1 - (i : Int)) := IntWalk.i64_in _ (by omega)
              have Hs2 : Hid (IntKind.i64.wrap ((n : Int) - 1 - (i : Int) - (j : Int)) = (n : Int) - 1 - (i : Int) - (j : Int)) := IntWalk.i64_in _ (by omega)
              have HmC : Hid (IntKind.i64.wrap (((n : Int) - 1 - (i : Int) - (j : Int)) * (h : Int)) = C) := by
                have e0 : (n : Int) - 1 - (i : Int) - (j : Int) = ((n - 1 - i - j : Nat) : Int) := by omega
                have e : ((n : Int) - 1 - (i : Int) - (j : Int)) * (h : Int) = C := by rw [e0, hC]; simp
                rw [e]; exact IntWalk.i64_in _ (by omega)
              have hL := rawTo_len (n := n) (k := k) (i := i) (j := j) hn8.2 (by omega) (by omega) (by omega)
              have HMc := Lib.hid (fun w' (hN : NetN w' B mb n nv cv (.slice none 0 0) (.slice none 0 0)) hc ho hb => mcells_any n HF.out B mb nv cv (.slice none 0 0) (.slice none 0 0) k i j HK.out (by omega) (B + 1) (rawTo n k i j) (by omega) w' hN hc ho (by omega) (by have := HBe.out; omega) (by have := HBe.out; omega) hb)
              rw [hbp] at HMc
              have HRs := Lib.hid (rawTo_step n k i j)
              have HBl : Hid (∀ w' w'' : World, Below w.heap.size w w' → Below B w' w'' → Below w.heap.size w w'') := fun w' w'' a b => a.trans (b.mono (by have := HBe.out; omega))
              clear hA hBb hC hbp q1 q2 q3 hL
              go_upto_region 11 with fail
              refine wp_region_seqL (by kernel_rfl) (fun w' => BdC w B mb n nv cv (rawTo n k i j) w') 26 [(0, 0), (1, 0), (2, 0), (3, 0), (4, 0), (5, 0), (6, 1), (7, 0), (8, 0), (9, 0), (10, 0), (11, 0), (12, 1), (13, 0), (14, 0), (15, 0), (16, 0), (17, 0), (18, 0), (19, 0), (20, 0), (21, 0), (22, 0), (23, 1), (24, 0), (25, 0), (26, 2)] (by kernel_rfl) (hs.out.drew) ?_
              refine sl_q (d := some 30) rfl rfl rfl (.pointer (some ⟨B, 0, none⟩)) (fun w => rfl) ?_
              simp only [ap_s, ap_n, ls_z, ls_s]
              refine sl_q (d := some 31) rfl rfl rfl (.int .i64 k) (fun w => rfl) ?_
              simp only [ap_s, ap_n, ls_z, ls_s]
              refine sl_q (d := some 32) rfl rfl rfl (.int .i64 i) (fun w => rfl) ?_
              simp only [ap_s, ap_n, ls_z, ls_s]
              refine sl_q (d := some 33) rfl rfl rfl (.pointer (some ⟨B, 0, none⟩)) (fun w => rfl) ?_
              simp only [ap_s, ap_n, ls_z, ls_s]
              refine sl_q (d := some 34) rfl rfl rfl (.pointer (some ⟨B, 0, none⟩)) (fun w => rfl) ?_
              simp only [ap_s, ap_n, ls_z, ls_s]
              refine sl_q (d := some 35) rfl rfl rfl (.pointer (some ⟨B, 1, none⟩)) (fun w => by go_simp) ?_
              simp only [ap_s, ap_n, ls_z, ls_s]
              refine sl_s (d := some 36) rfl rfl rfl (.int .i64 h) (fun w hw => by have c := hw.net.row.at 1 rfl; rw [← Hh.out] at c; simp [execOp, Act.eval, go_sem, c]) ?_
              simp only [ap_s, ap_n, ls_z, ls_s]
              refine sl_q (d := some 37) rfl rfl rfl (.int .i64 A) (fun w => by simp [execOp, Act.eval, go_sem, HmA.out]) ?_
              simp only [ap_s, ap_n, ls_z, ls_s]
              refine sl_q (d := some 38) rfl rfl rfl (.int .i64 j) (fun w => rfl) ?_
              simp only [ap_s, ap_n, ls_z, ls_s]
              refine sl_q (d := some 39) rfl rfl rfl (.pointer (some ⟨B, 0, none⟩)) (fun w => rfl) ?_
              simp only [ap_s, ap_n, ls_z, ls_s]
              refine sl_q (d := some 40) rfl rfl rfl (.pointer (some ⟨B, 0, none⟩)) (fun w => rfl) ?_
              simp only [ap_s, ap_n, ls_z, ls_s]
              refine sl_q (d := some 41) rfl rfl rfl (.pointer (some ⟨B, 1, none⟩)) (fun w => by go_simp) ?_
              simp only [ap_s, ap_n, ls_z, ls_s]
              refine sl_s (d := some 42) rfl rfl rfl (.int .i64 h) (fun w hw => by have c := hw.net.row.at 1 rfl; rw [← Hh.out] at c; simp [execOp, Act.eval, go_sem, c]) ?_
              simp only [ap_s, ap_n, ls_z, ls_s]
              refine sl_q (d := some 43) rfl rfl rfl (.int .i64 Bb) (fun w => by simp [execOp, Act.eval, go_sem, HmB.out]) ?_
              simp only [ap_s, ap_n, ls_z, ls_s]
              refine sl_q (d := some 44) rfl rfl rfl (.int .i64 n) (fun w => rfl) ?_
              simp only [ap_s, ap_n, ls_z, ls_s]
              refine sl_q (d := some 45) rfl rfl rfl (.int .i64 ((n : Int) - 1)) (fun w => by simp [execOp, Act.eval, go_sem, Hs0.out]) ?_
              simp only [ap_s, ap_n, ls_z, ls_s]
              refine sl_q (d := some 46) rfl rfl rfl (.int .i64 i) (fun w => rfl) ?_
              simp only [ap_s, ap_n, ls_z, ls_s]
              refine sl_q (d := some 47) rfl rfl rfl (.int .i64 ((n : Int) - 1 - (i : Int))) (fun w => by simp [execOp, Act.eval, go_sem, Hs1.out]) ?_
              simp only [ap_s, ap_n, ls_z, ls_s]
              refine sl_q (d := some 48) rfl rfl rfl (.int .i64 j) (fun w => rfl) ?_
              simp only [ap_s, ap_n, ls_z, ls_s]
              refine sl_q (d := some 49) rfl rfl rfl (.int .i64 ((n : Int) - 1 - (i : Int) - (j : Int))) (fun w => by simp [execOp, Act.eval, go_sem, Hs2.out]) ?_
              simp only [ap_s, ap_n, ls_z, ls_s]
              refine sl_q (d := some 50) rfl rfl rfl (.pointer (some ⟨B, 0, none⟩)) (fun w => rfl) ?_
              simp only [ap_s, ap_n, ls_z, ls_s]
              refine sl_q (d := some 51) rfl rfl rfl (.pointer (some ⟨B, 0, none⟩)) (fun w => rfl) ?_
              simp only [ap_s, ap_n, ls_z, ls_s]
              refine sl_q (d := some 52) rfl rfl rfl (.pointer (some ⟨B, 1, none⟩)) (fun w => by go_simp) ?_
              simp only [ap_s, ap_n, ls_z, ls_s]
              refine sl_s (d := some 53) rfl rfl rfl (.int .i64 h) (fun w hw => by have c := hw.net.row.at 1 rfl; rw [← Hh.out] at c; simp [execOp, Act.eval, go_sem, c]) ?_
              simp only [ap_s, ap_n, ls_z, ls_s]
              refine sl_q (d := some 54) rfl rfl rfl (.int .i64 C) (fun w => by simp [execOp, Act.eval, go_sem, HmC.out]) ?_
              simp only [ap_s, ap_n, ls_z, ls_s]
              refine sl_q (d := some 55) rfl rfl rfl (.agg (Pl.cells ⟨k, A, Bb, C⟩).toArray) (fun w => by simp [execOp, Act.eval, go_sem, Pl.cells]) ?_
              simp only [ap_s, ap_n, ls_z, ls_s]
              refine sl_call (d := some 56) rfl rfl rfl ⟨_, Tryz.func99, by kernel_rfl, by kernel_rfl⟩ _ _ _ rfl rfl [.pointer (some ⟨B, 0, none⟩), Pl.val ⟨k, A, Bb, C⟩] rfl (HMc.out _ hs.out.drew.net (HCr.out _ hs.out.drew.below) hs.out.drew.own hs.out.drew.size) ?_
              rintro e w5 ⟨cv2, rfl, hN5, hO5, hb5⟩
              have HS5 : Hid (∃ cv, BdC w B mb n nv cv (rawTo n k i (j + 1)) w5) := ⟨cv2, hN5, by rw [HRs.out]; exact hO5, HBl.out _ _ hs.out.drew.below hb5, Nat.le_trans hs.out.drew.size hb5.size⟩
              clear hN5 hO5 hb5 hs HMc
              refine ⟨_, rfl, (fun h => by cases h), ?_⟩
              simp only [ap_s, ap_n, ls_z, ls_s]
              refine sl_end ?_
              go_wp2_with fail
              refine ⟨⟨j + 1, by go_num, by omega, HS5⟩, ?_⟩
              simp [intOf]; omega
            · have j0 : ¬ (i : Int) + (j : Int) < (n : Int) := by omega
              have HS5 : Hid (∃ cv, BdC w B mb n nv cv (rawTo n k (i + 1) 0) wr) := by rw [← rawTo_row (j := j) (by omega)]; exact hs.out
              clear hs
              go_wp2_with fail
              refine ⟨⟨i + 1, by go_num, by omega, HS5⟩, ?_⟩
              simp [intOf]; omega
        · have i0 : ¬ (i : Int) < (n : Int) := by omega
          have HS5 : Hid (∃ cv, BdC w B mb n nv cv (rawTo n (k + 1) 0 0) wout2) := by rw [← rawTo_face (i := i) (by omega)]; exact hs.out
          clear hs
          go_wp2_with fail
          refine ⟨⟨k + 1, by go_num, by omega, HS5⟩, ?_⟩
          simp [intOf]; omega
    · obtain rfl : k = 20 := by omega
      obtain ⟨wout, rfl⟩ : ∃ wout : World, wout = wr := ⟨_, rfl⟩
      obtain ⟨cv, hs⟩ := hs.out
      rw [rawTo_end] at hs
      have hlen := rawTo_len (n := n) (k := 20) (i := 0) (j := 0) hn8.2 (by omega) (by omega) (by omega)
      rw [rawTo_end] at hlen
      have h0 := raw_pos HF.out
      obtain ⟨g, cap, hcv, hgB, hcap, hcm, _⟩ := OwnT.at (l := rawN n) ⟨fun e => by rw [e] at h0; simp at h0, hs.own⟩ h0
      subst hcv
      have HSo := Lib.hid (sort_cells wout (B + 1) g cap (rawN n) hs.own (by omega))
      obtain ⟨M, hM⟩ : ∃ M, M = (rawN n).length := ⟨_, rfl⟩
      have HMl : Hid (M = (cellsN n).length) := by unfold Hid; rw [hM, (cellsN_perm n).length_eq]
      rw [← hM] at HSo hs hlen h0 hcap
      have hs := Lib.hid hs
      have cb := hs.out.net.row.at 4 rfl
      have hMc : (M : Int) ≤ (cap : Int) := by omega
      clear hM HCr
      go_wp2_with fail
      refine HSo.out.mono ?_
      rintro e w2 ⟨rfl, l', hpm, hpw, hO2, hg2⟩
      have hle := cells_sorted hpm hpw
      subst hle
      have HS2 : Hid (∃ ev, BdE w B mb n nv (.slice (some ⟨g, 0, none⟩) M cap) ev g (cellsN n) (edL ((cellsN n).take 0)) w2) := by
        have hgw := (World.ownsRow.lt hs.out.own g rfl).2
        have hB := HBe.out.1
        have hM := HBe.out.2
        have hbw : Below (B + 1) wout w2 := (Below.refl _ _).grown hg2 hs.out.size (fun k hk => by have : g = k := (by simpa using hk); omega)
        obtain ⟨g', cap', e, _, _, _, hc⟩ := OwnT.at (l := cellsN n) (v := .slice (some ⟨g, 0, none⟩) M cap) (base := B + 1) (w := w2) ⟨fun e => absurd HMl.out (by rw [e]; show ¬ M = 0; omega), by rw [← HMl.out]; exact hO2⟩ (by rw [← HMl.out]; exact h0)
        obtain ⟨rfl, _⟩ : g = g' ∧ _ := by simpa using e
        exact ⟨_, ⟨hs.out.net.row.of_block (hbw.block B (by omega)), hs.out.net.map.of_block (hbw.block mb (by omega))⟩, hc, OwnE2.nil _ _, by simp [Value.ownBlock], hs.out.below.trans (hbw.mono (by omega)), Nat.le_trans hs.out.size hbw.size, by omega, Nat.lt_of_lt_of_le hgw hbw.size, by omega, by omega⟩
      have cb2 : w2.cell? ⟨B, 4, none⟩ = some (.slice (some ⟨g, 0, none⟩) M cap) := by obtain ⟨ev, h⟩ := HS2.out; exact h.net.row.at 4 rfl
      clear hs cb hpm hpw hO2 hg2 HSo hgB
      go_wp2_with fail
      clear cb2
      go_loopw [68] (fun kv wr => ∃ c : Nat, c ≤ M ∧ kv = .int .i64 c ∧ Hid (∃ ev, BdE w B mb n nv (.slice (some ⟨g, 0, none⟩) M cap) ev g (cellsN n) (edL ((cellsN n).take c)) wr)) (fun kv _ => (4000 - intOf kv).toNat)
      case atStart => exact ⟨0, by omega, rfl, HS2⟩
      case round =>
        clear HS2
        obtain ⟨c, hc, rfl, hs⟩ := hrel
        by_cases hlt : c < M
        · have c0 : (c : Int) < (M : Int) := by omega
          have c2 : (c : Int) ≤ 3000 := by omega
          obtain ⟨ev, hs⟩ := hs.out
          have hs := Lib.hid hs
          have hcl : c < (cellsN n).length := by rw [← HMl.out]; exact hlt
          have hcc := hs.out.cel c hcl
          have HStp := Lib.hid (edL_step (cellsN n) c hcl)
          have HEl : Hid ((edL ((cellsN n).take c)).length ≤ 100000) := by unfold Hid; rw [edL_len, List.length_take]; omega
          generalize (cellsN n)[c] = tr at *
          obtain ⟨x, hxe⟩ : ∃ x : Int, x = (tr.1 : Int) := ⟨_, rfl⟩
          obtain ⟨y, hye⟩ : ∃ x : Int, x = (tr.2.1 : Int) := ⟨_, rfl⟩
          obtain ⟨z, hze⟩ : ∃ x : Int, x = (tr.2.2 : Int) := ⟨_, rfl⟩
          have hx : wr.cell? ⟨g, c * 3, none⟩ = some (.int .i64 x) := by rw [hxe]; exact hcc 0 _ rfl
          have hy : wr.cell? ⟨g, c * 3 + 1, none⟩ = some (.int .i64 y) := by rw [hye]; exact hcc 1 _ rfl
          have hz : wr.cell? ⟨g, c * 3 + 2, none⟩ = some (.int .i64 z) := by rw [hze]; exact hcc 2 _ rfl
          have Hxe := Lib.hid (And.intro hxe (And.intro hye hze))
          clear hxe hye hze hcc hcl
          go_upto_region 17 with fail
          obtain ⟨kb, hkb⟩ : ∃ x, x = wr.heap.size := ⟨_, rfl⟩
          obtain ⟨w3, hw3⟩ : ∃ u, u = wr.alloc (.cells #[.int .i64 x, .int .i64 y, .int .i64 z] 114) := ⟨_, rfl⟩
          have HS3 : Hid (BdE w B mb n nv (.slice (some ⟨g, 0, none⟩) M cap) ev g (cellsN n) (edL ((cellsN n).take c)) w3) := by rw [hw3]; exact hs.out.then ((Below.refl _ _).alloc (Nat.le_refl _) _)
          have HR3 : Hid (RowAt w3 kb [.int .i64 x, .int .i64 y, .int .i64 z]) := by rw [hw3]; exact RowAt.new _ [.int .i64 x, .int .i64 y, .int .i64 z] (by simp) _ hkb.symm
          have HKb : Hid (∀ u, ev.ownBlock = some u → u ≠ kb) := fun u hu e => by have h1 := (World.ownsRow.lt hs.out.own u hu).2; omega
          rw [← hkb, ← hw3]
          clear hkb hw3 hs hx hy hz
          obtain ⟨a9, n9, c9, w9, a1, a2, a3, a4, a5⟩ := append_e3 (HS3.out.own.below (Below.refl _ _).drew) (tr.1, tr.2.1) (tr.1, tr.2.2) (tr.2.1, tr.2.2) (by have := HEl.out; omega) HS3.out.size 76
          dsimp only at a1
          rw [← Hxe.out.1, ← Hxe.out.2.1, ← Hxe.out.2.2] at a1
          rw [← HStp.out] at a2
          have HApp := Lib.hid a1
          have HR9 : Hid (RowAt w9 B (netRow n (840 / n) nv (some mb) (.slice (some ⟨g, 0, none⟩) M cap) ev (.slice none 0 0))) := HS3.out.net.row.drew.of_block (a3.block B (by have := HS3.out.size; omega))
          have HK9 : Hid (RowAt w9 kb [.int .i64 x, .int .i64 y, .int .i64 z]) := HR3.out.drew.of_block (a4 kb HR3.out.drew.lt (fun e => HKb.out _ e rfl))
          have HEnd : Hid (∃ ev, BdE w B mb n nv (.slice (some ⟨g, 0, none⟩) M cap) ev g (cellsN n) (edL ((cellsN n).take (c + 1))) (w9.setCell ⟨B, 5, none⟩ (.slice a9 n9 c9))) := by
            have hB := HBe.out.1
            have hM := HBe.out.2
            have hl := HS3.out.low
            have hsz := HS3.out.size
            have hz9 := a3.size
            have hgk : (w9.setCell ⟨B, 5, none⟩ (.slice a9 n9 c9)).heap[g]? = w3.heap[g]? := by
              rw [Below.heap_setCell _ _ _ _ (by simp; omega)]
              exact a4 g hl.2.1 HS3.out.oth
            refine ⟨_, ⟨HR9.out.set 5 (by simp [netRow]) _, ?_⟩, fun i hi j u hj => ?_, ?_, fun e => ?_, ?_, ?_, hl.1, ?_, hl.2.2.1, hl.2.2.2⟩
            · exact ((HS3.out.net.map.below (Below.refl _ _).drew).of_block (a3.block mb (by omega))).of_block (Below.heap_setCell _ _ _ _ (by simp; omega))
            · rw [World.cell?_of_block (w := w3) hgk]; exact HS3.out.cel i hi j u hj
            · exact ownsRow_of_same a2 (fun k h1 hk => Below.heap_setCell _ _ _ _ (by simp; omega))
            · rcases a5 g e with h | h
              · exact HS3.out.oth h
              · have h : w3.heap.size ≤ g := h; omega
            · exact ((HS3.out.below.drew.trans (a3.mono (by omega))).setCell (by simp; omega) _)
            · simp [World.setCell]; have hz9 : w3.heap.size ≤ w9.heap.size := hz9; omega
            · simp [World.setCell]; have hz9 : w3.heap.size ≤ w9.heap.size := hz9; omega
          have C9 : Hid (w9.cell? ⟨B, 5, none⟩ = some ev ∧ w9.frozen? ⟨B, 5, none⟩ = false) := ⟨HR9.out.at 5 rfl, HR9.out.2.2 5 (by simp [netRow])⟩
          clear a1 a2 a3 a4 a5 HStp HEl Hxe
          refine wp_region_seqL (by kernel_rfl) (fun w' => RowAt w' B (netRow n (840 / n) nv (some mb) (.slice (some ⟨g, 0, none⟩) M cap) ev (.slice none 0 0)) ∧ RowAt w' kb [.int .i64 x, .int .i64 y, .int .i64 z]) 24 [(0, 0), (1, 0), (2, 0), (3, 0), (4, 1), (5, 0), (6, 1), (7, 0), (8, 1), (9, 0), (10, 0), (11, 1), (12, 0), (13, 1), (14, 0), (15, 0), (16, 1), (17, 0), (18, 1), (19, 0), (20, 2), (21, 2), (22, 0), (23, 0), (24, 2)] (by kernel_rfl) (⟨HS3.out.net.row.drew, HR3.out.drew⟩) ?_
          refine sl_q (d := some 72) rfl rfl rfl (.pointer (some ⟨B, 0, none⟩)) (fun w => rfl) ?_
          simp only [ap_s, ap_n, ls_z, ls_s]
          refine sl_q (d := some 73) rfl rfl rfl (.pointer (some ⟨B, 0, none⟩)) (fun w => rfl) ?_
          simp only [ap_s, ap_n, ls_z, ls_s]
          refine sl_q (d := some 74) rfl rfl rfl (.pointer (some ⟨B, 0, none⟩)) (fun w => rfl) ?_
          simp only [ap_s, ap_n, ls_z, ls_s]
          refine sl_q (d := some 75) rfl rfl rfl (.pointer (some ⟨B, 5, none⟩)) (fun w => by go_simp) ?_
          simp only [ap_s, ap_n, ls_z, ls_s]
          refine sl_s (d := some 76) rfl rfl rfl (ev) (fun w hw => by have c := hw.1.at 5 rfl; simp [execOp, Act.eval, go_sem, c]) ?_
          simp only [ap_s, ap_n, ls_z, ls_s]
          refine sl_q (d := some 77) rfl rfl rfl (.pointer (some ⟨kb, 0, none⟩)) (fun w => by go_simp) ?_
          simp only [ap_s, ap_n, ls_z, ls_s]
          refine sl_s (d := some 78) rfl rfl rfl (.int .i64 x) (fun w hw => by have c := hw.2.at 0 rfl; simp [execOp, Act.eval, go_sem, c]) ?_
          simp only [ap_s, ap_n, ls_z, ls_s]
          refine sl_q (d := some 79) rfl rfl rfl (.pointer (some ⟨kb, 1, none⟩)) (fun w => by go_simp) ?_
          simp only [ap_s, ap_n, ls_z, ls_s]
          refine sl_s (d := some 80) rfl rfl rfl (.int .i64 y) (fun w hw => by have c := hw.2.at 1 rfl; simp [execOp, Act.eval, go_sem, c]) ?_
          simp only [ap_s, ap_n, ls_z, ls_s]
          refine sl_q (d := some 81) rfl rfl rfl (.agg #[.int .i64 x, .int .i64 y]) (fun w => by simp [execOp, Act.eval, go_sem]) ?_
          simp only [ap_s, ap_n, ls_z, ls_s]
          refine sl_q (d := some 82) rfl rfl rfl (.pointer (some ⟨kb, 0, none⟩)) (fun w => by go_simp) ?_
          simp only [ap_s, ap_n, ls_z, ls_s]
          refine sl_s (d := some 83) rfl rfl rfl (.int .i64 x) (fun w hw => by have c := hw.2.at 0 rfl; simp [execOp, Act.eval, go_sem, c]) ?_
          simp only [ap_s, ap_n, ls_z, ls_s]
          refine sl_q (d := some 84) rfl rfl rfl (.pointer (some ⟨kb, 2, none⟩)) (fun w => by go_simp) ?_
          simp only [ap_s, ap_n, ls_z, ls_s]
          refine sl_s (d := some 85) rfl rfl rfl (.int .i64 z) (fun w hw => by have c := hw.2.at 2 rfl; simp [execOp, Act.eval, go_sem, c]) ?_
          simp only [ap_s, ap_n, ls_z, ls_s]
          refine sl_q (d := some 86) rfl rfl rfl (.agg #[.int .i64 x, .int .i64 z]) (fun w => by simp [execOp, Act.eval, go_sem]) ?_
          simp only [ap_s, ap_n, ls_z, ls_s]
          refine sl_q (d := some 87) rfl rfl rfl (.pointer (some ⟨kb, 1, none⟩)) (fun w => by go_simp) ?_
          simp only [ap_s, ap_n, ls_z, ls_s]
          refine sl_s (d := some 88) rfl rfl rfl (.int .i64 y) (fun w hw => by have c := hw.2.at 1 rfl; simp [execOp, Act.eval, go_sem, c]) ?_
          simp only [ap_s, ap_n, ls_z, ls_s]
          refine sl_q (d := some 89) rfl rfl rfl (.pointer (some ⟨kb, 2, none⟩)) (fun w => by go_simp) ?_
          simp only [ap_s, ap_n, ls_z, ls_s]
          refine sl_s (d := some 90) rfl rfl rfl (.int .i64 z) (fun w hw => by have c := hw.2.at 2 rfl; simp [execOp, Act.eval, go_sem, c]) ?_
          simp only [ap_s, ap_n, ls_z, ls_s]
          refine sl_q (d := some 91) rfl rfl rfl (.agg #[.int .i64 y, .int .i64 z]) (fun w => by simp [execOp, Act.eval, go_sem]) ?_
          simp only [ap_s, ap_n, ls_z, ls_s]
          refine sl_run (d := some 92) rfl rfl rfl (.slice (some ⟨w3.drew.heap.size, 0, none⟩) 3 3) (w3.drew.alloc (.cells #[.int .i64 x, .int .i64 y, .int .i64 x, .int .i64 z, .int .i64 y, .int .i64 z] 95)) (by simp [execOp, Act.eval, go_sem, Instr.buildSlice]) (fun _ => ⟨HS3.out.net.row.drew.alloc _, HR3.out.drew.alloc _⟩) ?_
          simp only [ap_s, ap_n, ls_z, ls_s]
          refine sl_run (d := some 93) rfl rfl rfl (.slice a9 n9 c9) w9 (run_append _ _ _ rfl _ _ rfl rfl HApp.out) (fun _ => ⟨HR9.out, HK9.out⟩) ?_
          simp only [ap_s, ap_n, ls_z, ls_s]
          refine sl_q (d := some 94) rfl rfl rfl (.pointer (some ⟨B, 0, none⟩)) (fun w => rfl) ?_
          simp only [ap_s, ap_n, ls_z, ls_s]
          refine sl_q (d := some 95) rfl rfl rfl (.pointer (some ⟨B, 5, none⟩)) (fun w => by go_simp) ?_
          simp only [ap_s, ap_n, ls_z, ls_s]
          refine sl_skip (d := none) rfl rfl rfl (w9.setCell ⟨B, 5, none⟩ (.slice a9 n9 c9)) (by simp [execOp, Act.eval, go_sem, C9.out.1, C9.out.2]) (fun h => by cases h) ?_
          simp only [ap_s, ap_n, ls_z, ls_s]
          refine sl_end ?_
          go_wp2_with fail
          refine ⟨⟨c + 1, by omega, by go_num, HEnd⟩, ?_⟩
          simp [intOf]; omega
        · obtain rfl : c = M := by omega
          obtain ⟨wout, rfl⟩ : ∃ wout : World, wout = wr := ⟨_, rfl⟩
          obtain ⟨ev, hs⟩ := hs.out
          have hs := Lib.hid hs
          have htk : (cellsN n).take c = cellsN n := by rw [HMl.out]; exact List.take_length
          rw [htk] at hs
          obtain ⟨E, hE⟩ : ∃ E, E = edL (cellsN n) := ⟨_, rfl⟩
          have HE : Hid (E = edL (cellsN n)) := hE
          have HEl : Hid (E.length = 3 * c) := by unfold Hid; rw [hE, edL_len, ← HMl.out]
          rw [← hE] at hs
          obtain ⟨g2, cap2, hev, hg2, hcap2, hcm2, _⟩ := hs.out.own.at (by have := HEl.out; omega)
          subst hev
          have HSo := Lib.hid (sort_edges wout (B + 1) g2 cap2 E hs.out.own (by have := HEl.out; omega))
          obtain ⟨K, hK⟩ : ∃ K, K = E.length := ⟨_, rfl⟩
          have HKl : Hid (K = E.length) := hK
          rw [← hK] at hs HSo hcap2
          have HK3 : Hid (K = 3 * c) := by unfold Hid; rw [hK]; exact HEl.out
          have cb := hs.out.net.row.at 5 rfl
          have hKc : (K : Int) ≤ (cap2 : Int) := by omega
          have hKb : K ≤ 9000 ∧ 2 ≤ K := by have := HK3.out; omega
          clear hE hK htk
          go_wp2_with fail
          refine HSo.out.mono ?_
          rintro e w2 ⟨rfl, l', hpm, hpw, hO2, hgr⟩
          have hle := edges_sorted (cs := cellsN n) (by rw [← HE.out]; exact hpm) hpw
          have HS2 : Hid (NetN w2 B mb n nv (.slice (some ⟨g, 0, none⟩) c cap) (.slice (some ⟨g2, 0, none⟩) K cap2) (.slice none 0 0) ∧ Below w.heap.size w w2 ∧ B + 1 ≤ w2.heap.size) := by
            have hB := HBe.out.1
            have hM := HBe.out.2
            have hbw : Below (B + 1) wout w2 := (Below.refl _ _).grown hgr hs.out.size (fun k hk => by have : g2 = k := (by simpa using hk); omega)
            exact ⟨⟨hs.out.net.row.of_block (hbw.block B (by omega)), hs.out.net.map.of_block (hbw.block mb (by omega))⟩, hs.out.below.trans (hbw.mono (by omega)), Nat.le_trans hs.out.size hbw.size⟩
          have hl' : l'.length = K := by rw [hpm.length_eq]; exact HKl.out.symm
          have HCo : Hid (Calls Tryz.prog 106 #[.slice (some ⟨g2, 0, none⟩) K cap2] w2 fun e w' => e = .returned (.slice (some ⟨g2, 0, none⟩) (edgesN n).length cap2) ∧ OwnE2 w' (B + 1) (.slice (some ⟨g2, 0, none⟩) (edgesN n).length cap2) (edgesN n) ∧ w2.grownBy w' (some g2)) := by
            have h := compact_any w2 (B + 1) g2 cap2 l' (by rw [hl']; exact hO2) (by omega) (by omega)
            rw [hl'] at h
            have e : cpt l' = edgesN n := by rw [edgesN_eq HF.out, hle]; rfl
            rw [e] at h
            exact h
          have HVk : Hid ((edgesN n).length ≤ K) := by
            have e : cpt l' = edgesN n := by rw [edgesN_eq HF.out, hle]; rfl
            rw [← e, ← hl']
            exact cpt_le l'
          have cb2 : w2.cell? ⟨B, 5, none⟩ = some (.slice (some ⟨g2, 0, none⟩) K cap2) := HS2.out.1.row.at 5 rfl
          clear hs cb hpm hpw hO2 hgr HSo hle hl'
          go_wp2_with fail
          refine HCo.out.mono ?_
          rintro e w3 ⟨rfl, hO3, hgr⟩
          obtain ⟨V, hV⟩ : ∃ V, V = (edgesN n).length := ⟨_, rfl⟩
          have HV : Hid (V = (edgesN n).length) := hV
          have HS3 : Hid (NetN w3 B mb n nv (.slice (some ⟨g, 0, none⟩) c cap) (.slice (some ⟨g2, 0, none⟩) K cap2) (.slice none 0 0) ∧ Below w.heap.size w w3 ∧ B + 1 ≤ w3.heap.size ∧ OwnE2 w3 (B + 1) (.slice (some ⟨g2, 0, none⟩) V cap2) (edgesN n)) := by
            have hB := HBe.out.1
            have hM := HBe.out.2
            have hbw : Below (B + 1) w2 w3 := (Below.refl _ _).grown hgr HS2.out.2.2 (fun k hk => by have : g2 = k := (by simpa using hk); omega)
            exact ⟨⟨HS2.out.1.row.of_block (hbw.block B (by omega)), HS2.out.1.map.of_block (hbw.block mb (by omega))⟩, HS2.out.2.1.trans (hbw.mono (by omega)), Nat.le_trans HS2.out.2.2 hbw.size, by rw [hV]; exact hO3⟩
          rw [← hV]
          have cb3 : w3.cell? ⟨B, 5, none⟩ = some (.slice (some ⟨g2, 0, none⟩) K cap2) := HS3.out.1.row.at 5 rfl
          have cf3 : w3.frozen? ⟨B, 5, none⟩ = false := HS3.out.1.row.2.2 5 (by simp [netRow])
          clear hV hO3 hgr HS2 HCo cb2
          go_upto_region 21 with fail
          obtain ⟨w4, hw4⟩ : ∃ u, u = w3.setCell ⟨B, 5, none⟩ (.slice (some ⟨g2, 0, none⟩) V cap2) := ⟨_, rfl⟩
          have HS4 : Hid (NetN w4 B mb n nv (.slice (some ⟨g, 0, none⟩) c cap) (.slice (some ⟨g2, 0, none⟩) V cap2) (.slice none 0 0) ∧ Below w.heap.size w w4 ∧ B + 1 ≤ w4.heap.size ∧ OwnE2 w4 (B + 1) (.slice (some ⟨g2, 0, none⟩) V cap2) (edgesN n)) := by
            have hB := HBe.out.1
            have hM := HBe.out.2
            obtain ⟨p1, p2, p3, p4⟩ := HS3.out
            have hk : ∀ k, k ≠ B → w4.heap[k]? = w3.heap[k]? := fun k hk => by rw [hw4]; exact Below.heap_setCell _ _ _ _ (by simpa using hk)
            refine ⟨⟨by rw [hw4]; exact p1.row.set 5 (by simp [netRow]) _, p1.map.of_block (hk mb (by omega))⟩, by rw [hw4]; exact p2.setCell (by simp; omega) _, by rw [hw4]; simp [World.setCell]; exact p3, ?_⟩
            exact ownsRow_of_same p4 (fun k h1 _ => hk k (by omega))
          rw [← hw4]
          clear hw4 HS3 cb3 cf3
          have hNl := nodesN_length HF.out
          obtain ⟨N, hN⟩ : ∃ N, N = (nodesN n).length := ⟨_, rfl⟩
          have HNl : Hid (N = 10 * n * n + 2) := by unfold Hid; rw [hN]; exact hNl
          have hN8 : 2 ≤ N ∧ N ≤ 1000 := by
            have h8 : n ≤ 8 := hn8.2
            have := Nat.mul_le_mul (Nat.mul_le_mul_left 10 h8) h8
            have := HNl.out
            omega
          have hnv := Hnv.out
          rw [← hN] at hnv
          subst hnv
          have c2 : w4.cell? ⟨B, 2, none⟩ = some (.slice na N nc) := HS4.out.1.row.at 2 rfl
          have hmk := run_make_row' (P := Tryz.prog) 92 34 (.slice none 0 0) 24 Tryz.underlying92 sinfoN rfl .i64 .i64 N (by omega) (by omega)
          have Hal := Lib.hid ((Below.refl w4.heap.size w4).alloc (Nat.le_refl _) (.cells (nilsN N) 34))
          have c6 : (w4.alloc (.cells (nilsN N) 34)).cell? ⟨B, 6, none⟩ = some (.slice none 0 0) := (HS4.out.1.row.below Hal.out).at 6 rfl
          have f6 : (w4.alloc (.cells (nilsN N) 34)).frozen? ⟨B, 6, none⟩ = false := (HS4.out.1.row.below Hal.out).2.2 6 (by simp [netRow])
          clear hN hNl Hnv
          go_upto_region 22 with fail
          obtain ⟨w5, hw5⟩ : ∃ u, u = (w4.alloc (.cells (nilsN N) 34)).setCell ⟨B, 6, none⟩ (.slice (some ⟨w4.heap.size, 0, none⟩) N N) := ⟨_, rfl⟩
          rw [← hw5]
          obtain ⟨X, hX⟩ : ∃ x, x = w4.heap.size := ⟨_, rfl⟩
          rw [← hX] at hw5
          have HS5 : Hid (∃ vs : List Value, vs.length = N ∧ BdN w B mb n (.slice na N nc) (.slice (some ⟨g, 0, none⟩) c cap) (.slice (some ⟨g2, 0, none⟩) V cap2) (.slice (some ⟨X, 0, none⟩) N N) X (edgesN n) vs 0 w5) := by
            have hB := HBe.out.1
            have hM := HBe.out.2
            obtain ⟨p1, p2, p3, p4⟩ := HS4.out
            have hk : ∀ k, k ≠ B → w5.heap[k]? = (w4.alloc (.cells (nilsN N) 34)).heap[k]? := fun k hk => by rw [hw5]; exact Below.heap_setCell _ _ _ _ (by simpa using hk)
            have e : nilsN N = (List.replicate N (Value.slice none 0 0)).toArray := Array.ext' (by rw [toList_madeCells_one])
            have hr : RowAt (w4.alloc (.cells (nilsN N) 34)) X (List.replicate N (Value.slice none 0 0)) := by rw [e]; exact RowAt.new _ _ (by simp; omega) _ hX.symm
            refine ⟨List.replicate N (.slice none 0 0), by simp, ⟨by rw [hw5]; exact (p1.row.below Hal.out).set 6 (by simp [netRow]) _, (p1.map.below Hal.out).of_block (hk mb (by omega))⟩, ownsRow_of_same (ownsRow_below p4 Hal.out) (fun k h1 _ => hk k (by omega)), ⟨hr.of_block (hk X (by omega)), fun i hi => ⟨[], by rw [List.getElem_replicate]; exact World.ownsRow_nil _ _ _ 1, Nat.le_refl _⟩, fun i j hi hj _ u hu => by rw [List.getElem_replicate] at hu; simp [Value.ownBlock] at hu, by omega, by rw [hw5]; simp [World.setCell]; omega⟩, by rw [hw5]; exact (below_then p2 Hal.out).setCell (by simp; omega) _, ⟨by omega, by omega, by omega⟩, fun u hu => by rw [hX]; exact (World.ownsRow.lt p4 u hu).2⟩
          rw [← hX]
          clear hw5 hX HS4 c2 c6 f6 hmk Hal
          have hV3 : (edgesN n).length ≤ K := HVk.out
          have cb5 : w5.cell? ⟨B, 5, none⟩ = some (.slice (some ⟨g2, 0, none⟩) V cap2) := by obtain ⟨vs, _, h⟩ := HS5.out; exact h.net.row.at 5 rfl
          have hVc : V ≤ 9000 := by rw [HV.out]; omega
          have hVc2 : (V : Int) ≤ (cap2 : Int) := by rw [HV.out]; omega
          clear hV3
          go_wp2_with fail
          clear cb5
          go_loopw [124] (fun kv wr => ∃ d : Nat, d ≤ V ∧ kv = .int .i64 d ∧ Hid (∃ vs : List Value, vs.length = N ∧ BdN w B mb n (.slice na N nc) (.slice (some ⟨g, 0, none⟩) c cap) (.slice (some ⟨g2, 0, none⟩) V cap2) (.slice (some ⟨X, 0, none⟩) N N) X (edgesN n) vs (2 * d) wr)) (fun kv _ => (10000 - intOf kv).toNat)
          case atStart => exact ⟨0, by omega, rfl, HS5⟩
          case round =>
            clear HS5
            obtain ⟨d, hd, rfl, hs⟩ := hrel
            by_cases hlt : d < V
            · have d0 : (d : Int) < (V : Int) := by omega
              have d2 : (d : Int) ≤ 10000 := by omega
              obtain ⟨vs, hvl, hs⟩ := hs.out
              have Hvl := Lib.hid hvl
              have hs := Lib.hid hs
              have hdl : d < (edgesN n).length := by rw [← HV.out]; exact hlt
              obtain ⟨g', cap', e, _, _, _, hc2⟩ := hs.out.own.at (by omega)
              obtain ⟨rfl, _⟩ : g2 = g' ∧ _ := by simpa using e
              have hcc := hc2 d hdl
              have hok := edgesN_ok HF.out (edgesN n)[d] (List.getElem_mem hdl)
              generalize (edgesN n)[d] = tr at hcc hok
              obtain ⟨xn, yn⟩ := tr
              simp only at hok
              have Hok : Hid (xn < N ∧ yn < N) := by have := HNl.out; unfold Hid; omega
              obtain ⟨x, hxe⟩ : ∃ x : Int, x = (xn : Int) := ⟨_, rfl⟩
              obtain ⟨y, hye⟩ : ∃ x : Int, x = (yn : Int) := ⟨_, rfl⟩
              have hx : wr.cell? ⟨g2, d * 2, none⟩ = some (.int .i64 x) := by rw [hxe]; exact hcc 0 _ rfl
              have hy : wr.cell? ⟨g2, d * 2 + 1, none⟩ = some (.int .i64 y) := by rw [hye]; exact hcc 1 _ rfl
              have Hxe := Lib.hid (And.intro hxe hye)
              clear hxe hye hcc hok hdl hc2 hvl e
              go_upto_region 25 with fail
              obtain ⟨kb, hkb⟩ : ∃ x, x = wr.heap.size := ⟨_, rfl⟩
              obtain ⟨w6, hw6⟩ : ∃ u, u = wr.alloc (.cells #[.int .i64 x, .int .i64 y] 95) := ⟨_, rfl⟩
              have HS6 : Hid (BdN w B mb n (.slice na N nc) (.slice (some ⟨g, 0, none⟩) c cap) (.slice (some ⟨g2, 0, none⟩) V cap2) (.slice (some ⟨X, 0, none⟩) N N) X (edgesN n) vs (2 * d) w6) := by rw [hw6]; exact hs.out.then ((Below.refl _ _).alloc (Nat.le_refl _) _)
              have HR6 : Hid (RowAt w6 kb [.int .i64 x, .int .i64 y] ∧ w6.heap[kb]? = some (.cells #[.int .i64 x, .int .i64 y] 95 (0, 0))) := by rw [hw6, hkb]; exact ⟨RowAt.new _ [.int .i64 x, .int .i64 y] (by simp) _ rfl, heap_alloc_new _ _⟩
              rw [← hkb, ← hw6]
              have HKx : Hid (X < kb) := by rw [hkb]; exact Nat.lt_of_succ_le hs.out.nx.low.2
              clear hkb hw6 hs hx hy
              have hxl : xn < vs.length := by rw [Hvl.out]; exact Hok.out.1
              have hyl : yn < vs.length := by rw [Hvl.out]; exact Hok.out.2
              obtain ⟨e1, n1, c1, hvx⟩ := HS6.out.nx.slice xn hxl
              obtain ⟨a7, n7, c7, w7, b1, b2, b3, b4, b5, b6⟩ := (HS6.out.then (Below.refl _ _).drew).app (by omega) xn hxl (yn : Int) 34
              rw [hvx] at b1
              rw [← Hxe.out.2] at b1
              have HApp := Lib.hid b1
              have HVx : Hid ((vs)[xn]? = some (.slice e1 n1 c1)) := by unfold Hid; rw [List.getElem?_eq_getElem hxl, hvx]
              have HR7 : Hid (RowAt w7 B (netRow n (840 / n) (.slice na N nc) (some mb) (.slice (some ⟨g, 0, none⟩) c cap) (.slice (some ⟨g2, 0, none⟩) V cap2) (.slice (some ⟨X, 0, none⟩) N N)) ∧ RowAt w7 kb [.int .i64 x, .int .i64 y] ∧ RowAt w7 X (vs)) := ⟨b3.row, HR6.out.1.drew.of_block (b4 kb HR6.out.1.drew.lt (HS6.out.nx.other HR6.out.2 (by decide) xn hxl)), b2⟩
              have C7 : Hid (w7.cell? ⟨X, xn, none⟩ = some (.slice e1 n1 c1) ∧ w7.frozen? ⟨X, xn, none⟩ = false) := ⟨HR7.out.2.2.at xn HVx.out, HR7.out.2.2.2.2 xn hxl⟩
              obtain ⟨w8, hw8⟩ : ∃ u, u = w7.setCell ⟨X, xn, none⟩ (.slice a7 n7 c7) := ⟨_, rfl⟩
              have HS8 : Hid (BdN w B mb n (.slice na N nc) (.slice (some ⟨g, 0, none⟩) c cap) (.slice (some ⟨g2, 0, none⟩) V cap2) (.slice (some ⟨X, 0, none⟩) N N) X (edgesN n) ((vs).set xn (.slice a7 n7 c7)) (2 * d + 1) w8) := by rw [hw8]; exact b6
              have HR8 : Hid (RowAt w8 kb [.int .i64 x, .int .i64 y] ∧ w8.heap[kb]? = some (.cells #[.int .i64 x, .int .i64 y] 95 (0, 0))) := by
                have e : w8.heap[kb]? = w6.heap[kb]? := by rw [hw8, Below.heap_setCell _ _ _ _ (by have := HKx.out; simp; omega)]; exact b4 kb HR6.out.1.drew.lt (HS6.out.nx.other HR6.out.2 (by decide) xn hxl)
                exact ⟨HR6.out.1.of_block e, by rw [e]; exact HR6.out.2⟩
              have HW : Hid (w8 = w7.setCell ⟨X, xn, none⟩ (.slice a7 n7 c7)) := hw8
              clear b1 b2 b3 b4 b5 b6 hw8
              refine wp_region_seqL (by kernel_rfl) (fun w' => RowAt w' B (netRow n (840 / n) (.slice na N nc) (some mb) (.slice (some ⟨g, 0, none⟩) c cap) (.slice (some ⟨g2, 0, none⟩) V cap2) (.slice (some ⟨X, 0, none⟩) N N)) ∧ RowAt w' kb [.int .i64 x, .int .i64 y] ∧ RowAt w' X (vs)) 19 [(0, 0), (1, 0), (2, 0), (3, 1), (4, 0), (5, 1), (6, 0), (7, 0), (8, 0), (9, 1), (10, 0), (11, 1), (12, 0), (13, 1), (14, 0), (15, 1), (16, 2), (17, 2), (18, 0), (19, 2)] (by kernel_rfl) (⟨HS6.out.net.row.drew, HR6.out.1.drew, HS6.out.nx.row.drew⟩) ?_
              refine sl_q (d := some 128) rfl rfl rfl (.pointer (some ⟨B, 0, none⟩)) (fun w => rfl) ?_
              simp only [ap_s, ap_n, ls_z, ls_s]
              refine sl_q (d := some 129) rfl rfl rfl (.pointer (some ⟨B, 0, none⟩)) (fun w => rfl) ?_
              simp only [ap_s, ap_n, ls_z, ls_s]
              refine sl_q (d := some 130) rfl rfl rfl (.pointer (some ⟨B, 6, none⟩)) (fun w => by go_simp) ?_
              simp only [ap_s, ap_n, ls_z, ls_s]
              refine sl_s (d := some 131) rfl rfl rfl (.slice (some ⟨X, 0, none⟩) N N) (fun w hw => by have c := hw.1.at 6 rfl; simp [execOp, Act.eval, go_sem, c]) ?_
              simp only [ap_s, ap_n, ls_z, ls_s]
              refine sl_q (d := some 132) rfl rfl rfl (.pointer (some ⟨kb, 0, none⟩)) (fun w => by go_simp) ?_
              simp only [ap_s, ap_n, ls_z, ls_s]
              refine sl_s (d := some 133) rfl rfl rfl (.int .i64 x) (fun w hw => by have c := hw.2.1.at 0 rfl; simp [execOp, Act.eval, go_sem, c]) ?_
              simp only [ap_s, ap_n, ls_z, ls_s]
              refine sl_q (d := some 134) rfl rfl rfl (.pointer (some ⟨B, 0, none⟩)) (fun w => rfl) ?_
              simp only [ap_s, ap_n, ls_z, ls_s]
              refine sl_q (d := some 135) rfl rfl rfl (.pointer (some ⟨B, 0, none⟩)) (fun w => rfl) ?_
              simp only [ap_s, ap_n, ls_z, ls_s]
              refine sl_q (d := some 136) rfl rfl rfl (.pointer (some ⟨B, 6, none⟩)) (fun w => by go_simp) ?_
              simp only [ap_s, ap_n, ls_z, ls_s]
              refine sl_s (d := some 137) rfl rfl rfl (.slice (some ⟨X, 0, none⟩) N N) (fun w hw => by have c := hw.1.at 6 rfl; simp [execOp, Act.eval, go_sem, c]) ?_
              simp only [ap_s, ap_n, ls_z, ls_s]
              refine sl_q (d := some 138) rfl rfl rfl (.pointer (some ⟨kb, 0, none⟩)) (fun w => by go_simp) ?_
              simp only [ap_s, ap_n, ls_z, ls_s]
              refine sl_s (d := some 139) rfl rfl rfl (.int .i64 x) (fun w hw => by have c := hw.2.1.at 0 rfl; simp [execOp, Act.eval, go_sem, c]) ?_
              simp only [ap_s, ap_n, ls_z, ls_s]
              refine sl_q (d := some 140) rfl rfl rfl (.pointer (some ⟨X, xn, none⟩)) (fun w => by have h1 := Hxe.out.1; have h2 := Hok.out.1; simp [execOp, Act.eval, go_sem, h1, h2]) ?_
              simp only [ap_s, ap_n, ls_z, ls_s]
              refine sl_s (d := some 141) rfl rfl rfl (.slice e1 n1 c1) (fun w hw => by have c := hw.2.2.at xn HVx.out; simp [execOp, Act.eval, go_sem, c]) ?_
              simp only [ap_s, ap_n, ls_z, ls_s]
              refine sl_q (d := some 142) rfl rfl rfl (.pointer (some ⟨kb, 1, none⟩)) (fun w => by go_simp) ?_
              simp only [ap_s, ap_n, ls_z, ls_s]
              refine sl_s (d := some 143) rfl rfl rfl (.int .i64 y) (fun w hw => by have c := hw.2.1.at 1 rfl; simp [execOp, Act.eval, go_sem, c]) ?_
              simp only [ap_s, ap_n, ls_z, ls_s]
              refine sl_run (d := some 144) rfl rfl rfl (.slice (some ⟨w6.drew.heap.size, 0, none⟩) 1 1) (w6.drew.alloc (.cells #[.int .i64 y] 3)) (by simp [execOp, Act.eval, go_sem, Instr.buildSlice]) (fun _ => ⟨HS6.out.net.row.drew.alloc _, HR6.out.1.drew.alloc _, HS6.out.nx.row.drew.alloc _⟩) ?_
              simp only [ap_s, ap_n, ls_z, ls_s]
              refine sl_run (d := some 145) rfl rfl rfl (.slice a7 n7 c7) w7 (run_append _ _ _ rfl _ _ rfl rfl HApp.out) (fun _ => HR7.out) ?_
              simp only [ap_s, ap_n, ls_z, ls_s]
              refine sl_q (d := some 146) rfl rfl rfl (.pointer (some ⟨X, xn, none⟩)) (fun w => by have h1 := Hxe.out.1; have h2 := Hok.out.1; simp [execOp, Act.eval, go_sem, h1, h2]) ?_
              simp only [ap_s, ap_n, ls_z, ls_s]
              refine sl_skip (d := none) rfl rfl rfl (w7.setCell ⟨X, xn, none⟩ (.slice a7 n7 c7)) (by simp [execOp, Act.eval, go_sem, C7.out.1, C7.out.2]) (fun h => by cases h) ?_
              simp only [ap_s, ap_n, ls_z, ls_s]
              refine sl_end ?_
              go_upto_region 26 with fail
              have hyl8 : yn < (vs.set xn (.slice a7 n7 c7)).length := by rw [List.length_set]; exact hyl
              have hl8 : (vs.set xn (.slice a7 n7 c7)).length = N := by rw [List.length_set]; exact Hvl.out
              obtain ⟨vs8, hv8⟩ : ∃ x, x = vs.set xn (.slice a7 n7 c7) := ⟨_, rfl⟩
              rw [← hv8] at hyl8 HS8 hl8
              have Hvl8 := Lib.hid hl8
              rw [← HW.out]
              clear hv8 HApp HVx HR7 C7 HW HS6 HR6 hl8 hvx
              obtain ⟨e2, n2, c2, hvy⟩ := HS8.out.nx.slice yn hyl8
              obtain ⟨a9, n9, c9, w9, b1, b2, b3, b4, b5, b6⟩ := (HS8.out.then (Below.refl _ _).drew).app (by omega) yn hyl8 (xn : Int) 34
              rw [hvy] at b1
              rw [← Hxe.out.1] at b1
              have HApp := Lib.hid b1
              have HVx : Hid ((vs8)[yn]? = some (.slice e2 n2 c2)) := by unfold Hid; rw [List.getElem?_eq_getElem hyl8, hvy]
              have HR7 : Hid (RowAt w9 B (netRow n (840 / n) (.slice na N nc) (some mb) (.slice (some ⟨g, 0, none⟩) c cap) (.slice (some ⟨g2, 0, none⟩) V cap2) (.slice (some ⟨X, 0, none⟩) N N)) ∧ RowAt w9 kb [.int .i64 x, .int .i64 y] ∧ RowAt w9 X (vs8)) := ⟨b3.row, HR8.out.1.drew.of_block (b4 kb HR8.out.1.drew.lt (HS8.out.nx.other HR8.out.2 (by decide) yn hyl8)), b2⟩
              have C9 : Hid (w9.cell? ⟨X, yn, none⟩ = some (.slice e2 n2 c2) ∧ w9.frozen? ⟨X, yn, none⟩ = false) := ⟨HR7.out.2.2.at yn HVx.out, HR7.out.2.2.2.2 yn hyl8⟩
              obtain ⟨w10, hw10⟩ : ∃ u, u = w9.setCell ⟨X, yn, none⟩ (.slice a9 n9 c9) := ⟨_, rfl⟩
              have HS10 : Hid (BdN w B mb n (.slice na N nc) (.slice (some ⟨g, 0, none⟩) c cap) (.slice (some ⟨g2, 0, none⟩) V cap2) (.slice (some ⟨X, 0, none⟩) N N) X (edgesN n) ((vs8).set yn (.slice a9 n9 c9)) (2 * d + 1 + 1) w10) := by rw [hw10]; exact b6
              have HR10 : Hid (RowAt w10 kb [.int .i64 x, .int .i64 y] ∧ w10.heap[kb]? = some (.cells #[.int .i64 x, .int .i64 y] 95 (0, 0))) := by
                have e : w10.heap[kb]? = w8.heap[kb]? := by rw [hw10, Below.heap_setCell _ _ _ _ (by have := HKx.out; simp; omega)]; exact b4 kb HR8.out.1.drew.lt (HS8.out.nx.other HR8.out.2 (by decide) yn hyl8)
                exact ⟨HR8.out.1.of_block e, by rw [e]; exact HR8.out.2⟩
              have HW : Hid (w10 = w9.setCell ⟨X, yn, none⟩ (.slice a9 n9 c9)) := hw10
              clear b1 b2 b3 b4 b5 b6 hw10
              refine wp_region_seqL (by kernel_rfl) (fun w' => RowAt w' B (netRow n (840 / n) (.slice na N nc) (some mb) (.slice (some ⟨g, 0, none⟩) c cap) (.slice (some ⟨g2, 0, none⟩) V cap2) (.slice (some ⟨X, 0, none⟩) N N)) ∧ RowAt w' kb [.int .i64 x, .int .i64 y] ∧ RowAt w' X (vs8)) 19 [(0, 0), (1, 0), (2, 0), (3, 1), (4, 0), (5, 1), (6, 0), (7, 0), (8, 0), (9, 1), (10, 0), (11, 1), (12, 0), (13, 1), (14, 0), (15, 1), (16, 2), (17, 2), (18, 0), (19, 2)] (by kernel_rfl) (⟨HS8.out.net.row.drew, HR8.out.1.drew, HS8.out.nx.row.drew⟩) ?_
              refine sl_q (d := some 147) rfl rfl rfl (.pointer (some ⟨B, 0, none⟩)) (fun w => rfl) ?_
              simp only [ap_s, ap_n, ls_z, ls_s]
              refine sl_q (d := some 148) rfl rfl rfl (.pointer (some ⟨B, 0, none⟩)) (fun w => rfl) ?_
              simp only [ap_s, ap_n, ls_z, ls_s]
              refine sl_q (d := some 149) rfl rfl rfl (.pointer (some ⟨B, 6, none⟩)) (fun w => by go_simp) ?_
              simp only [ap_s, ap_n, ls_z, ls_s]
              refine sl_s (d := some 150) rfl rfl rfl (.slice (some ⟨X, 0, none⟩) N N) (fun w hw => by have c := hw.1.at 6 rfl; simp [execOp, Act.eval, go_sem, c]) ?_
              simp only [ap_s, ap_n, ls_z, ls_s]
              refine sl_q (d := some 151) rfl rfl rfl (.pointer (some ⟨kb, 1, none⟩)) (fun w => by go_simp) ?_
              simp only [ap_s, ap_n, ls_z, ls_s]
              refine sl_s (d := some 152) rfl rfl rfl (.int .i64 y) (fun w hw => by have c := hw.2.1.at 1 rfl; simp [execOp, Act.eval, go_sem, c]) ?_
              simp only [ap_s, ap_n, ls_z, ls_s]
              refine sl_q (d := some 153) rfl rfl rfl (.pointer (some ⟨B, 0, none⟩)) (fun w => rfl) ?_
              simp only [ap_s, ap_n, ls_z, ls_s]
              refine sl_q (d := some 154) rfl rfl rfl (.pointer (some ⟨B, 0, none⟩)) (fun w => rfl) ?_
              simp only [ap_s, ap_n, ls_z, ls_s]
              refine sl_q (d := some 155) rfl rfl rfl (.pointer (some ⟨B, 6, none⟩)) (fun w => by go_simp) ?_
              simp only [ap_s, ap_n, ls_z, ls_s]
              refine sl_s (d := some 156) rfl rfl rfl (.slice (some ⟨X, 0, none⟩) N N) (fun w hw => by have c := hw.1.at 6 rfl; simp [execOp, Act.eval, go_sem, c]) ?_
              simp only [ap_s, ap_n, ls_z, ls_s]
              refine sl_q (d := some 157) rfl rfl rfl (.pointer (some ⟨kb, 1, none⟩)) (fun w => by go_simp) ?_
              simp only [ap_s, ap_n, ls_z, ls_s]
              refine sl_s (d := some 158) rfl rfl rfl (.int .i64 y) (fun w hw => by have c := hw.2.1.at 1 rfl; simp [execOp, Act.eval, go_sem, c]) ?_
              simp only [ap_s, ap_n, ls_z, ls_s]
              refine sl_q (d := some 159) rfl rfl rfl (.pointer (some ⟨X, yn, none⟩)) (fun w => by have h1 := Hxe.out.2; have h2 := Hok.out.2; simp [execOp, Act.eval, go_sem, h1, h2]) ?_
              simp only [ap_s, ap_n, ls_z, ls_s]
              refine sl_s (d := some 160) rfl rfl rfl (.slice e2 n2 c2) (fun w hw => by have c := hw.2.2.at yn HVx.out; simp [execOp, Act.eval, go_sem, c]) ?_
              simp only [ap_s, ap_n, ls_z, ls_s]
              refine sl_q (d := some 161) rfl rfl rfl (.pointer (some ⟨kb, 0, none⟩)) (fun w => by go_simp) ?_
              simp only [ap_s, ap_n, ls_z, ls_s]
              refine sl_s (d := some 162) rfl rfl rfl (.int .i64 x) (fun w hw => by have c := hw.2.1.at 0 rfl; simp [execOp, Act.eval, go_sem, c]) ?_
              simp only [ap_s, ap_n, ls_z, ls_s]
              refine sl_run (d := some 163) rfl rfl rfl (.slice (some ⟨w8.drew.heap.size, 0, none⟩) 1 1) (w8.drew.alloc (.cells #[.int .i64 x] 3)) (by simp [execOp, Act.eval, go_sem, Instr.buildSlice]) (fun _ => ⟨HS8.out.net.row.drew.alloc _, HR8.out.1.drew.alloc _, HS8.out.nx.row.drew.alloc _⟩) ?_
              simp only [ap_s, ap_n, ls_z, ls_s]
              refine sl_run (d := some 164) rfl rfl rfl (.slice a9 n9 c9) w9 (run_append _ _ _ rfl _ _ rfl rfl HApp.out) (fun _ => HR7.out) ?_
              simp only [ap_s, ap_n, ls_z, ls_s]
              refine sl_q (d := some 165) rfl rfl rfl (.pointer (some ⟨X, yn, none⟩)) (fun w => by have h1 := Hxe.out.2; have h2 := Hok.out.2; simp [execOp, Act.eval, go_sem, h1, h2]) ?_
              simp only [ap_s, ap_n, ls_z, ls_s]
              refine sl_skip (d := none) rfl rfl rfl (w9.setCell ⟨X, yn, none⟩ (.slice a9 n9 c9)) (by simp [execOp, Act.eval, go_sem, C9.out.1, C9.out.2]) (fun h => by cases h) ?_
              simp only [ap_s, ap_n, ls_z, ls_s]
              refine sl_end ?_
              rw [← HW.out]
              have HE : Hid (∃ vs : List Value, vs.length = N ∧ BdN w B mb n (.slice na N nc) (.slice (some ⟨g, 0, none⟩) c cap) (.slice (some ⟨g2, 0, none⟩) V cap2) (.slice (some ⟨X, 0, none⟩) N N) X (edgesN n) vs (2 * (d + 1)) w10) := ⟨_, by rw [List.length_set]; exact Hvl8.out, HS10.out⟩
              clear HApp HVx HR7 C9 HW HS8 HR8 HS10 HR10 hvy
              go_wp2_with fail
              refine ⟨⟨d + 1, by omega, by go_num, HE⟩, ?_⟩
              simp [intOf]; omega
            · obtain rfl : d = V := by omega
              obtain ⟨wout2, rfl⟩ : ∃ wout : World, wout = wr := ⟨_, rfl⟩
              obtain ⟨vs, hvl, hs⟩ := hs.out
              have cx : wout2.cell? ⟨B, 6, none⟩ = some (.slice (some ⟨X, 0, none⟩) N N) := hs.net.row.at 6 rfl
              have HS9 : Hid (∃ vs : List Value, vs.length = N ∧ BdN w B mb n (.slice na N nc) (.slice (some ⟨g, 0, none⟩) c cap) (.slice (some ⟨g2, 0, none⟩) d cap2) (.slice (some ⟨X, 0, none⟩) N N) X (edgesN n) vs 20000 wout2) := ⟨vs, hvl, hs.net, hs.own, hs.nx.mono (by omega), hs.below, hs.low, hs.evx⟩
              clear hs hvl
              go_wp2_with fail
              clear cx
              go_loopw [172] (fun kv wr => ∃ i : Nat, i ≤ N ∧ kv = .int .i64 i ∧ Hid (∃ vs : List Value, vs.length = N ∧ BdN w B mb n (.slice na N nc) (.slice (some ⟨g, 0, none⟩) c cap) (.slice (some ⟨g2, 0, none⟩) d cap2) (.slice (some ⟨X, 0, none⟩) N N) X (edgesN n) vs 20000 wr)) (fun kv _ => (10000 - intOf kv).toNat)
              case atStart => exact ⟨0, by omega, rfl, HS9⟩
              case round =>
                clear HS9
                obtain ⟨i, hi, rfl, hs⟩ := hrel
                by_cases hlt : i < N
                · have i0 : (i : Int) < (N : Int) := by omega
                  have i2 : (i : Int) ≤ 10000 := by omega
                  obtain ⟨vs, hvl, hs⟩ := hs.out
                  have hs := Lib.hid hs
                  have hil : i < vs.length := by omega
                  obtain ⟨e1, n1, c1, hvx⟩ := hs.out.nx.slice i hil
                  have HSo := Lib.hid (nx_sort hs.out.nx (by omega) i hil)
                  have ci : wr.cell? ⟨X, i, none⟩ = some (.slice e1 n1 c1) := hs.out.nx.row.at i (by rw [List.getElem?_eq_getElem hil, hvx])
                  rw [hvx] at HSo
                  have Hvl := Lib.hid hvl
                  clear hil hvx hvl
                  go_wp2_with fail
                  refine HSo.out.mono ?_
                  rintro e w2 ⟨rfl, hnx, hb⟩
                  have HE : Hid (∃ vs : List Value, vs.length = N ∧ BdN w B mb n (.slice na N nc) (.slice (some ⟨g, 0, none⟩) c cap) (.slice (some ⟨g2, 0, none⟩) d cap2) (.slice (some ⟨X, 0, none⟩) N N) X (edgesN n) vs 20000 w2) := by
                    have hl := hs.out.low
                    refine ⟨vs, Hvl.out, ⟨hs.out.net.row.of_block (hb.block B (by omega)), hs.out.net.map.of_block (hb.block mb (by omega))⟩, ⟨hs.out.own.1, ?_⟩, hnx, hs.out.below.trans (hb.mono (by omega)), hl, hs.out.evx⟩
                    rcases hs.out.own.2 with e | ⟨g, cap, cur, e, hg, hh, r⟩
                    · exact Or.inl e
                    · exact Or.inr ⟨g, cap, cur, e, hg, by rw [hb.block g (by have := hs.out.evx g (by rw [e]; rfl); omega)]; exact hh, r⟩
                  clear hs hnx hb HSo ci
                  go_wp2_with fail
                  refine ⟨⟨i + 1, by omega, by go_num, HE⟩, ?_⟩
                  simp [intOf]; omega
                · obtain rfl : i = N := by omega
                  obtain ⟨vs, hvl, hs⟩ := hs.out
                  have HE : Hid (∃ mb nv cv ev xv, NetN wr B mb n nv cv ev xv ∧ OwnE2 wr w.heap.size ev (edgesN n) ∧ Below w.heap.size w wr) := ⟨_, _, _, _, _, hs.net, hs.own.mono (by have := hs.low; omega), hs.below⟩
                  clear hs
                  go_wp2_with fail
                  obtain ⟨mb, nv, cv, ev, xv, h1, h2, h3⟩ := HE.out
                  go_ret
                  exact ⟨B, mb, nv, cv, ev, xv, rfl, h1, h2, h3⟩
end Go.Proofs.YtkpgciimhjkajaaGreatDoor
/- The choices of synopticfield: Signed. -/
namespace Go.Proofs.YtkpgciimhjkajaaGreatDoor
open Go Go.RowKit
set_option maxHeartbeats 16000000 in
theorem signed_ok (B b : Nat) (m : Int) (w : World) (h : CodesIs w B b) (h1 : 0 ≤ m) (h2 : m ≤ 1000000000) :
    Calls Tryz.prog 45 #[.pointer (some ⟨b, 0, none⟩), .int .i64 m] w (IntIn (-m) m B b w) := by
  go_enter Tryz.func45, Tryz.ntmps45
  go_wp2_with fail
  refine (next_ok B b 256 w h (by omega) (by omega)).mono ?_
  rintro e w1 ⟨x, x0, x1, rfl, hs1⟩
  have HS1 := Lib.hid hs1
  clear hs1
  go_wp2_with fail
  refine (next_ok B b 256 w1 HS1.out.1 (by omega) (by omega)).mono ?_
  rintro e w2 ⟨y, y0, y1, rfl, hs2⟩
  have HS2 := Lib.hid (HS1.out.then hs2)
  clear hs2 HS1
  go_wp2_with fail
  refine (next_ok B b 256 w2 HS2.out.1 (by omega) (by omega)).mono ?_
  rintro e w3 ⟨z, z0, z1, rfl, hs3⟩
  have HS3 := Lib.hid (HS2.out.then hs3)
  clear hs3 HS2
  go_wp2_with fail
  have hq1 := Int.tmod_lt_of_pos (bits BinOp.or IntKind.i64 (bits BinOp.or IntKind.i64 (x * 65536) (y * 256)) z) (show 0 < m + 1 by omega)
  have hq2 := Int.lt_tmod_of_pos (bits BinOp.or IntKind.i64 (bits BinOp.or IntKind.i64 (x * 65536) (y * 256)) z) (show 0 < m + 1 by omega)
  generalize (bits BinOp.or IntKind.i64 (bits BinOp.or IntKind.i64 (x * 65536) (y * 256)) z).tmod (m + 1) = N at hq1 hq2 ⊢
  have hN : -m ≤ N ∧ N ≤ m := by omega
  obtain ⟨n1, n2⟩ := hN
  clear hq1 hq2
  refine (next_ok B b 2 w3 HS3.out.1 (by omega) (by omega)).mono ?_
  rintro e w4 ⟨s, s0, s1, rfl, hs4⟩
  have HS4 := Lib.hid (HS3.out.then hs4)
  clear hs4 HS3
  by_cases hs : s = 1
  · subst hs
    go_wp2_with fail
    go_ret
    exact ⟨_, by omega, by omega, rfl, HS4.out⟩
  · go_wp2_with fail
    go_ret
    exact ⟨N, n1, n2, rfl, HS4.out⟩
end Go.Proofs.YtkpgciimhjkajaaGreatDoor
/- The choices of synopticfield: Vector. -/
namespace Go.Proofs.YtkpgciimhjkajaaGreatDoor
open Go Go.RowKit
def ics (l : List Int) : List Value := l.map fun x => .int .i64 x
def OwnI (w : World) (base : Nat) (v : Value) (l : List Int) : Prop := w.ownsRow base 3 1 v l.length (ics l)
theorem OwnI.nil (w : World) (base : Nat) : OwnI w base (.slice none 0 0) [] := World.ownsRow_nil w base _ 1
theorem OwnI.below {w w' : World} {base : Nat} {v : Value} {l : List Int} (h : OwnI w base v l) (hb : Below w.heap.size w w') : OwnI w' base v l := ownsRow_below h hb
theorem OwnI.st {w w' : World} {base B b : Nat} {v : Value} {l : List Int} (h : OwnI w base v l) (hs : St w B b w') (hb : b < base) : OwnI w' base v l := ownsRow_but h hs.2 hb
theorem OwnI.mono {w : World} {base B : Nat} {v : Value} {l : List Int} (h : OwnI w base v l) (hB : B ≤ base) : OwnI w B v l := by
  obtain ⟨h1, h2⟩ := h
  refine ⟨h1, ?_⟩
  rcases h2 with h2 | ⟨g, cap, cur, e, hg, r⟩
  · exact Or.inl h2
  · exact Or.inr ⟨g, cap, cur, e, Nat.le_trans hB hg, r⟩
theorem OwnI.slice {w : World} {base : Nat} {v : Value} {l : List Int} (h : OwnI w base v l) : ∃ a c, v = .slice a l.length c := by
  rcases h.2 with ⟨e, h0⟩ | ⟨g, cap, cur, e, _⟩
  · exact ⟨none, 0, by rw [e, h0]⟩
  · exact ⟨_, _, e⟩
theorem iinfo : (Tryz.prog.info? 3).map (fun i => (i.zero, i.size, i.bytes)) = some (some (.int .i64 0), 1, 8) := by kernel_rfl
theorem append_i {w : World} {base : Nat} {v : Value} {l : List Int} (h : OwnI w base v l) (x : Int) (hn : l.length ≤ 1000000000) (hb : base ≤ w.heap.size) (ty : TypeId) :
    ∃ (v' : Value) (w' : World), (Builtin.append_ #[34, 34] ty #[v, .slice (some ⟨w.heap.size, 0, none⟩) 1 1]).run Tryz.prog (w.alloc (.cells #[.int .i64 x] 3)) = .ok v' w' ∧
      OwnI w' base v' (l ++ [x]) ∧ Below base w w' := by
  have h1 := append_new 34 3 Tryz.underlying34 iinfo rfl (by decide) h [.int .i64 x] 1 rfl (by intro u hu; simp at hu; subst hu; rfl) hn (by omega) (by decide) hb ty
  unfold OwnI
  rw [List.length_append]
  have e : ics (l ++ [x]) = ics l ++ [.int .i64 x] := by simp [ics]
  rw [e]; exact h1
def LimAt (w : World) (g n : Nat) (lim : Int) : Prop := ∀ i, i < n → ∃ z : Int, -lim ≤ z ∧ z ≤ lim ∧ w.cell? ⟨g, i, none⟩ = some (.int .i64 z)
theorem LimAt.below {w w' : World} {g n : Nat} {lim : Int} (h : LimAt w g n lim) (hb : Below w.heap.size w w') : LimAt w' g n lim := fun i hi => by
  obtain ⟨z, z0, z1, hz⟩ := h i hi
  exact ⟨z, z0, z1, cell_then hb hz⟩
theorem LimAt.grown {w w' : World} {g n base : Nat} {lim : Int} (h : LimAt w g n lim) (hb : Below base w w') (hg : g < base) : LimAt w' g n lim := fun i hi => by
  obtain ⟨z, z0, z1, hz⟩ := h i hi
  exact ⟨z, z0, z1, by rw [hb.cell (p := ⟨g, i, none⟩) hg]; exact hz⟩
theorem LimAt.st {w w' : World} {g n B b : Nat} {lim : Int} (h : LimAt w g n lim) (hs : St w B b w') (hg : g ≠ b) : LimAt w' g n lim := fun i hi => by
  obtain ⟨z, z0, z1, hz⟩ := h i hi
  exact ⟨z, z0, z1, but_cell hs.2 hg hz⟩
def VecIs (lim : Int) (n B b : Nat) (w : World) (e : Ending) (w' : World) : Prop := ∃ (v : Value) (l : List Int), e = .returned v ∧ l.length = n ∧ (∀ x ∈ l, -lim ≤ x ∧ x ≤ lim) ∧ OwnI w' w.heap.size v l ∧ St w B b w'
structure VcS (w : World) (lim : Int) (B b base LB : Nat) (v : Value) (l : List Int) (wr : World) : Prop where
  own : OwnI wr base v l
  bnd : ∀ x ∈ l, -lim ≤ x ∧ x ≤ lim
  lit : LimAt wr LB 7 lim
  st : St w B b wr
  size : base ≤ wr.heap.size
theorem lits (w : World) (p q r s m lim : Int) (hp : -m ≤ p ∧ p ≤ m) (hq : -m ≤ q ∧ q ≤ m) (hr : -m ≤ r ∧ r ≤ m) (hs : -9 ≤ s ∧ s ≤ 9) (hm : 0 ≤ m ∧ m ≤ lim) (h9 : 9 ≤ lim) :
    LimAt (w.alloc (.cells #[.int .i64 p, .int .i64 q, .int .i64 r, .int .i64 s, .int .i64 0, .int .i64 m, .int .i64 (-m)] 3)) w.heap.size 7 lim := by
  intro i hi
  have hh : ∀ A, (w.alloc (.cells A 3)).heap[w.heap.size]? = some (.cells A 3 (0, 0)) := fun A => heap_alloc_new w _
  simp only [World.cell?, hh]
  have : i = 0 ∨ i = 1 ∨ i = 2 ∨ i = 3 ∨ i = 4 ∨ i = 5 ∨ i = 6 := by omega
  rcases this with rfl | rfl | rfl | rfl | rfl | rfl | rfl
  · exact ⟨p, by omega, by omega, rfl⟩
  · exact ⟨q, by omega, by omega, rfl⟩
  · exact ⟨r, by omega, by omega, rfl⟩
  · exact ⟨s, by omega, by omega, rfl⟩
  · exact ⟨0, by omega, by omega, rfl⟩
  · exact ⟨m, by omega, by omega, rfl⟩
  · exact ⟨-m, by omega, by omega, rfl⟩
set_option maxHeartbeats 16000000 in
set_option maxRecDepth 100000 in
theorem vector_ok (B b n : Nat) (m lim : Int) (w : World) (h : CodesIs w B b) (hn : n ≤ 5000) (h1 : 0 ≤ m ∧ m ≤ lim) (h2 : lim ≤ 1000000000) (h9 : 9 ≤ lim) :
    Calls Tryz.prog 25 #[.pointer (some ⟨b, 0, none⟩), .int .i64 n, .int .i64 m] w (VecIs lim n B b w) := by
  go_enter Tryz.func25, Tryz.ntmps25
  have hbw : Hid (b < w.heap.size) := h.lt
  have m0 : 0 ≤ m := h1.1
  have m1 : m ≤ 1000000000 := by omega
  have H1 := Lib.hid (And.intro h1 h9)
  clear h1 h2 h9
  go_wp2_with fail
  refine (signed_ok B b m w h m0 m1).mono ?_
  rintro e w1 ⟨p, p0, p1, rfl, hs1⟩
  have HS1 := Lib.hid hs1
  clear hs1 h
  go_wp2_with fail
  refine (signed_ok B b m w1 HS1.out.1 m0 m1).mono ?_
  rintro e w2 ⟨q, q0, q1, rfl, hs2⟩
  have HS2 := Lib.hid (HS1.out.then hs2)
  clear hs2 HS1
  go_wp2_with fail
  refine (signed_ok B b m w2 HS2.out.1 m0 m1).mono ?_
  rintro e w3 ⟨r, r0, r1, rfl, hs3⟩
  have HS3 := Lib.hid (HS2.out.then hs3)
  clear hs3 HS2
  go_wp2_with fail
  refine (signed_ok B b 9 w3 HS3.out.1 (by omega) (by omega)).mono ?_
  rintro e w4 ⟨s, s0, s1, rfl, hs4⟩
  have HS4 := Lib.hid (HS3.out.then hs4)
  clear hs4 HS3
  have HL : Hid (LimAt _ w4.heap.size 7 lim) := lits w4 p q r s m lim ⟨p0, p1⟩ ⟨q0, q1⟩ ⟨r0, r1⟩ ⟨s0, s1⟩ ⟨m0, H1.out.1.2⟩ H1.out.2
  have HLb : Hid (w4.heap.size ≠ b) := by have := HS4.out.lt; unfold Hid; omega
  obtain ⟨LB, hLB⟩ : ∃ LB, LB = w4.heap.size := ⟨_, rfl⟩
  obtain ⟨base, hbase⟩ : ∃ base, base = w4.heap.size + 1 := ⟨_, rfl⟩
  have HLB2 : Hid (LB < base ∧ w.heap.size ≤ base ∧ b < base) := by
    have h1 := HS4.out.size
    have h2 := hbw.out
    unfold Hid; omega
  have HSl : Hid (VcS w lim B b base LB (.slice none 0 0) [] (w4.alloc (.cells #[.int .i64 p, .int .i64 q, .int .i64 r, .int .i64 s, .int .i64 0, .int .i64 m, .int .i64 (-m)] 3))) :=
    ⟨OwnI.nil _ _, by simp, by rw [hLB]; exact HL.out, HS4.out.alloc _, by rw [hbase]; simp⟩
  rw [← hLB] at HLb
  have n0 : (n : Int) ≤ 5000 := by omega
  go_wp2_with fail
  try rw [← hLB]
  generalize w4.alloc (.cells #[.int .i64 p, .int .i64 q, .int .i64 r, .int .i64 s, .int .i64 0, .int .i64 m, .int .i64 (-m)] 3) = w5 at HSl ⊢
  clear HL HS4 hLB hbase p0 p1 q0 q1 r0 r1 s0 s1
  go_loopw [8, 9] (fun lv kv wr => ∃ (i : Nat) (ov : Value) (l : List Int), ov = lv ∧ kv = .int .i64 i ∧ i ≤ n ∧ l.length = i ∧ Hid (VcS w lim B b base LB ov l wr)) (fun _ kv _ => (10000 - intOf kv).toNat)
  case atStart => exact ⟨0, _, [], rfl, rfl, by omega, rfl, HSl⟩
  case round =>
    clear HSl
    obtain ⟨i, ov, l, rfl, rfl, hi, hl, hs⟩ := hrel
    by_cases hil : i < n
    · have i0 : (i : Int) < (n : Int) := by omega
      go_wp2_with fail
      refine (next_ok B b 7 wr hs.out.st.1 (by omega) (by omega)).mono ?_
      rintro e w6 ⟨x, x0, x1, rfl, hs6⟩
      obtain ⟨j, rfl⟩ := Int.eq_ofNat_of_zero_le x0
      have HV : Hid (VcS w lim B b base LB ov l w6) := ⟨hs.out.own.st hs6 HLB2.out.2.2, hs.out.bnd, hs.out.lit.st hs6 HLb.out, hs.out.st.then hs6, Nat.le_trans hs.out.size hs6.size⟩
      clear hs hs6
      obtain ⟨z, z0, z1, hz⟩ := HV.out.lit j (by omega)
      have HAp : Hid (∃ (v' : Value) (w' : World), (Builtin.append_ #[34, 34] 34 #[ov, .slice (some ⟨w6.heap.size, 0, none⟩) 1 1]).run Tryz.prog (w6.alloc (.cells #[.int .i64 z] 3)) = .ok v' w' ∧ VcS w lim B b base LB v' (l ++ [z]) w') := by
        obtain ⟨v', w', a1, a2, a3⟩ := append_i HV.out.own z (by omega) HV.out.size 34
        refine ⟨v', w', a1, a2, fun x hx => ?_, HV.out.lit.grown a3 HLB2.out.1, HV.out.st.grown a3 HLB2.out.2.2 HLB2.out.2.1, Nat.le_trans HV.out.size a3.size⟩
        rcases List.mem_append.1 hx with hx | hx
        · exact HV.out.bnd x hx
        · simp at hx; subst hx; exact ⟨z0, z1⟩
      clear HV z0 z1
      go_wp2_with (at_builtin; obtain ⟨v', w', hrun, hs'⟩ := HAp.out; have Hrun := Lib.hid hrun; have Hs' := Lib.hid hs'; clear hrun hs'; refine wpList_append_run rfl _ _ _ rfl _ _ _ _ rfl rfl Hrun.out ?_)
      go_roundw
      case rel => exact ⟨i + 1, v', l ++ [z], rfl, by go_num, by omega, by rw [List.length_append, hl]; rfl, Hs'⟩
      case measure => simp [intOf]; omega
    · obtain rfl : i = n := by omega
      obtain ⟨oa, oc, rfl⟩ := hs.out.own.slice
      go_wp2_with fail
      go_ret
      exact ⟨_, l, rfl, hl, hs.out.bnd, hs.out.own.mono HLB2.out.2.1, hs.out.st⟩
end Go.Proofs.YtkpgciimhjkajaaGreatDoor
/- The program's flux: what grid's functions return; which numbers lie outside. -/
namespace Go.Proofs.YtkpgciimhjkajaaGreatDoor
open Go Go.RowKit
def IAt (w : World) (g : Nat) (l : List Int) : Prop := ∀ i, (h : i < l.length) → w.cell? ⟨g, i, none⟩ = some (.int .i64 l[i])
theorem IAt.below {w w' : World} {g B : Nat} {l : List Int} (h : IAt w g l) (hb : Below B w w') (hg : g < B) : IAt w' g l := fun i hi => by rw [hb.cell (p := ⟨g, i, none⟩) hg]; exact h i hi
theorem IAt.of_block {w w' : World} {g : Nat} {l : List Int} (h : IAt w g l) (hb : w'.heap[g]? = w.heap[g]?) : IAt w' g l := fun i hi => by rw [World.cell?_of_block (w := w) hb]; exact h i hi
theorem OwnI.iat {w : World} {base : Nat} {v : Value} {l : List Int} (h : OwnI w base v l) (h0 : 0 < l.length) : ∃ g cap, v = .slice (some ⟨g, 0, none⟩) l.length cap ∧ base ≤ g ∧ g < w.heap.size ∧ l.length ≤ cap ∧ cap ≤ 9223372036854775807 ∧ IAt w g l := by
  have h' := h
  obtain ⟨h1, h2⟩ := h
  rcases h2 with ⟨e, h0'⟩ | ⟨g, cap, cur, e, hg, hh, hc, hm, _⟩
  · omega
  · refine ⟨g, cap, e, hg, (Array.getElem?_eq_some_iff.1 hh).1, hc, by unfold maxLen at hm; omega, fun i hi => ?_⟩
    have hj : (ics l)[i]? = some (.int .i64 l[i]) := by simp [ics, hi]
    have := World.ownsRow.cells h' (g := g) (by rw [e]; rfl) _ _ hj
    rwa [Go.WideShapes.add_plain, Nat.zero_add] at this
theorem pfreq_any (n : Int) (w : World) : Calls Tryz.prog 68 #[.int .i64 n] w fun e w' => e = .returned (.bool (decide (1 ≤ n ∧ n ≤ 8))) ∧ w' = w := by
  by_cases h1 : 1 ≤ n <;> by_cases h2 : n ≤ 8 <;>
  (go_enter Tryz.func68, Tryz.ntmps68
   go_wp2_with fail
   go_ret
   simp [h1, h2])
theorem pcount_any (n : Nat) (hn : Fq n) (w : World) : Calls Tryz.prog 50 #[.int .i64 n] w fun e w' => e = .returned (.int .i64 ((10 * n * n + 2 : Nat) : Int)) ∧ w' = w := by
  have HF := Lib.hid (fun w' => pfreq_any (n : Int) w')
  rcases hn.cases with rfl | rfl | rfl | rfl | rfl | rfl | rfl | rfl <;>
  (go_enter Tryz.func50, Tryz.ntmps50
   go_wp2_with fail
   refine (HF.out _).mono ?_
   rintro e w1 ⟨rfl, rfl⟩
   go_wp2_with fail
   go_ret
   exact ⟨rfl, rfl⟩)
theorem pedges_any (n : Nat) (hn : Fq n) (w : World) (hcr : Crn w) (hg : 0 < w.heap.size) :
    Calls Tryz.prog 65 #[.int .i64 n] w fun e w' => ∃ ev, e = .returned (.tuple #[ev, .int .i64 0]) ∧ OwnE2 w' w.heap.size ev (edgesN n) ∧ Below w.heap.size w w' := by
  have HF := Lib.hid (pfreq_any (n : Int) w)
  have HB := Lib.hid (build_any n hn w hcr hg)
  have h1 : decide (1 ≤ (n : Int) ∧ (n : Int) ≤ 8) = true := by have : 1 ≤ n ∧ n ≤ 8 := hn; simp; omega
  rw [h1] at HF
  go_enter Tryz.func65, Tryz.ntmps65
  go_wp2_with fail
  refine HF.out.mono ?_
  rintro e w1 ⟨rfl, rfl⟩
  go_wp2_with fail
  refine HB.out.mono ?_
  rintro e w1 ⟨B, mb, nv, cv, ev, xv, rfl, hN, hO, hb⟩
  have c := hN.row.at 5 rfl
  have HN := Lib.hid (And.intro hO hb)
  clear hN hO hb HB HF
  go_wp2_with fail
  go_ret2
  exact ⟨ev, rfl, HN.out.1, HN.out.2⟩
theorem pwithin_any (v lo hi : Int) (w : World) : Calls Tryz.prog 64 #[.int .i64 v, .int .i64 lo, .int .i64 hi] w fun e w' => e = .returned (.bool (decide (lo ≤ v ∧ v ≤ hi))) ∧ w' = w := by
  by_cases h1 : lo ≤ v <;> by_cases h2 : v ≤ hi <;>
  (go_enter Tryz.func64, Tryz.ntmps64
   go_wp2_with fail
   go_ret
   simp [h1, h2])
def outV (lo hi v : Int) : Bool := !decide (lo ≤ v ∧ v ≤ hi)
def outB (l : List Int) (lo hi : Int) : Bool := l.any (outV lo hi)
theorem outside1_any (v lo hi : Int) (b1 b2 : Nat) (w : World) (h1 : w.cell? ⟨b1, 0, none⟩ = some (.int .i64 lo)) (h2 : w.cell? ⟨b2, 0, none⟩ = some (.int .i64 hi)) :
    Calls Tryz.prog 63 #[.int .i64 v, .pointer (some ⟨b1, 0, none⟩), .pointer (some ⟨b2, 0, none⟩)] w fun e w' => e = .returned (.bool (outV lo hi v)) ∧ w' = w := by
  have HF := Lib.hid (pwithin_any v lo hi w)
  go_enter Tryz.func63, Tryz.ntmps63
  go_wp2_with fail
  refine HF.out.mono ?_
  rintro e w1 ⟨rfl, rfl⟩
  go_wp2_with fail
  go_ret
  exact ⟨by simp [outV], rfl⟩
theorem outB_take {l : List Int} {lo hi : Int} {c : Nat} (hc : c < l.length) (h : outB (l.take c) lo hi = false) : outB (l.take (c + 1)) lo hi = outV lo hi l[c] := by
  unfold outB at *
  rw [List.take_add_one, List.getElem?_eq_getElem hc, List.any_append, h]
  simp
theorem outB_of {l : List Int} {lo hi : Int} {c : Nat} (hc : c < l.length) (h : outV lo hi l[c] = true) : outB l lo hi = true := List.any_eq_true.2 ⟨_, List.getElem_mem hc, h⟩
set_option maxHeartbeats 4000000 in
theorem pindex_any (v : Value) (l : List Int) (lo hi : Int) (b1 b2 base : Nat) (w : World) (hv : OwnI w base v l) (h1 : w.cell? ⟨b1, 0, none⟩ = some (.int .i64 lo)) (h2 : w.cell? ⟨b2, 0, none⟩ = some (.int .i64 hi)) :
    Calls Tryz.prog 82 #[v, .func (.func 63) #[] #[.pointer (some ⟨b1, 0, none⟩), .pointer (some ⟨b2, 0, none⟩)]] w fun e w' => ∃ k : Int, e = .returned (.int .i64 k) ∧ (0 ≤ k ↔ outB l lo hi = true) ∧ w' = w := by
  have HO := Lib.hid (fun x => outside1_any x lo hi b1 b2 w h1 h2)
  clear h1 h2
  rcases Nat.eq_zero_or_pos l.length with h0 | h0
  · obtain rfl := List.eq_nil_of_length_eq_zero h0
    obtain ⟨a, cap, rfl⟩ := hv.slice
    clear hv h0
    go_enter Tryz.func82, Tryz.ntmps82
    go_wp2_with fail
    go_loopw [8] (fun kv wr => kv = .int .i64 0 ∧ wr = w) (fun _ _ => 0)
    case atStart => exact ⟨rfl, rfl⟩
    case round =>
      obtain ⟨rfl, rfl⟩ := hrel
      go_wp2_with fail
      go_ret
      exact ⟨_, rfl, by simp [outB], rfl⟩
  · obtain ⟨g, cap, rfl, _, _, hc1, hc2, hA⟩ := hv.iat h0
    have HA := Lib.hid hA
    obtain ⟨N, hN⟩ : ∃ N, N = l.length := ⟨_, rfl⟩
    have HN := Lib.hid hN
    rw [← hN] at hc1 ⊢
    have hN2 : N ≤ 9223372036854775807 := by omega
    clear hv h0 hA hN
    go_enter Tryz.func82, Tryz.ntmps82
    go_wp2_with fail
    go_loopw [8] (fun kv wr => ∃ c : Nat, c ≤ N ∧ kv = .int .i64 c ∧ wr = w ∧ Hid (outB (l.take c) lo hi = false)) (fun kv _ => (9223372036854775807 - intOf kv).toNat)
    case atStart => exact ⟨0, by omega, rfl, rfl, rfl⟩
    case round =>
      obtain ⟨c, hc, rfl, rfl, hs⟩ := hrel
      by_cases hlt : c < N
      · have c0 : (c : Int) < (N : Int) := by omega
        have c2 : (c : Int) ≤ 9223372036854775807 := by omega
        have hcl : c < l.length := by rw [← HN.out]; exact hlt
        have hcell := HA.out c hcl
        have HStp := Lib.hid (outB_take hcl hs.out)
        have HAll := Lib.hid (fun h => outB_of (lo := lo) (hi := hi) hcl h)
        generalize l[c] = x at *
        clear hcl
        cases hx : outV lo hi x with
        | true =>
          have HOx := Lib.hid (HO.out x)
          rw [hx] at HOx
          have HT := Lib.hid (HAll.out hx)
          clear hx HAll HStp
          go_wp2_with fail
          refine HOx.out.mono ?_
          rintro e w1 ⟨rfl, rfl⟩
          go_wp2_with fail
          go_ret
          exact ⟨_, rfl, by simp [HT.out], rfl⟩
        | false =>
          have HOx := Lib.hid (HO.out x)
          rw [hx] at HOx HStp
          clear hx HAll
          go_wp2_with fail
          refine HOx.out.mono ?_
          rintro e w1 ⟨rfl, rfl⟩
          go_wp2_with fail
          refine ⟨⟨c + 1, by omega, by go_num, by trivial, HStp⟩, ?_⟩
          simp [intOf]; omega
      · obtain rfl : c = N := by omega
        have HT : Hid (outB l lo hi = false) := by have h := hs.out; rw [HN.out, List.take_length] at h; exact h
        clear hs
        go_wp2_with fail
        go_ret
        exact ⟨_, rfl, by simp [HT.out], rfl⟩
theorem pcontains_any (v : Value) (l : List Int) (lo hi : Int) (b1 b2 base : Nat) (w : World) (hv : OwnI w base v l) (h1 : w.cell? ⟨b1, 0, none⟩ = some (.int .i64 lo)) (h2 : w.cell? ⟨b2, 0, none⟩ = some (.int .i64 hi)) :
    Calls Tryz.prog 62 #[v, .func (.func 63) #[] #[.pointer (some ⟨b1, 0, none⟩), .pointer (some ⟨b2, 0, none⟩)]] w fun e w' => e = .returned (.bool (outB l lo hi)) ∧ w' = w := by
  have HI := Lib.hid (pindex_any v l lo hi b1 b2 base w hv h1 h2)
  clear hv h1 h2
  go_enter Tryz.func62, Tryz.ntmps62
  go_wp2_with fail
  refine HI.out.mono ?_
  rintro e w1 ⟨k, rfl, hk, rfl⟩
  have HK : Hid (decide (0 ≤ k) = outB l lo hi) := by
    unfold Hid
    cases h : outB l lo hi with
    | true => exact decide_eq_true (hk.2 h)
    | false => exact decide_eq_false (fun h' => by have := hk.1 h'; rw [h] at this; cases this)
  clear hk HI
  by_cases hk0 : 0 ≤ k <;>
  (go_wp2_with fail
   go_ret
   exact ⟨by rw [← HK.out]; simp [hk0], rfl⟩)
theorem poutside_any (v : Value) (l : List Int) (lo hi : Int) (base : Nat) (w : World) (hv : OwnI w base v l) :
    Calls Tryz.prog 47 #[v, .int .i64 lo, .int .i64 hi] w fun e w' => e = .returned (.bool (outB l lo hi)) ∧ Below w.heap.size w w' := by
  have hb2 : Below w.heap.size w ((w.alloc (.cells #[.int .i64 lo] 3)).alloc (.cells #[.int .i64 hi] 3)) := ((Below.refl _ _).alloc (Nat.le_refl _) _).alloc (by simp) _
  have HC : Hid (Calls Tryz.prog 62 #[v, .func (.func 63) #[] #[.pointer (some ⟨w.heap.size, 0, none⟩), .pointer (some ⟨w.heap.size + 1, 0, none⟩)]] ((w.alloc (.cells #[.int .i64 lo] 3)).alloc (.cells #[.int .i64 hi] 3)) fun e w' => e = .returned (.bool (outB l lo hi)) ∧ w' = ((w.alloc (.cells #[.int .i64 lo] 3)).alloc (.cells #[.int .i64 hi] 3))) := by
    refine pcontains_any v l lo hi w.heap.size (w.heap.size + 1) base _ (hv.below hb2) ?_ ?_
    · exact (RowAt.alloc (RowAt.new w [.int .i64 lo] (by simp) _ rfl) _).at 0 rfl
    · exact (RowAt.new (w.alloc (.cells #[.int .i64 lo] 3)) [.int .i64 hi] (by simp) _ (by simp)).at 0 rfl
  have HB := Lib.hid hb2
  clear hv hb2
  go_enter Tryz.func47, Tryz.ntmps47
  go_wp2_with fail
  refine HC.out.mono ?_
  rintro e w1 ⟨rfl, rfl⟩
  go_wp2_with fail
  go_ret
  exact ⟨rfl, HB.out⟩
end Go.Proofs.YtkpgciimhjkajaaGreatDoor
/- The program's flux: CheckScheme; Check of a state that is right. -/
namespace Go.Proofs.YtkpgciimhjkajaaGreatDoor
open Go Go.RowKit
theorem OwnI.lit {w : World} {g : Nat} (l : List Int) (h : w.heap[g]? = some (.cells (ics l).toArray 3 (0, 0))) (hl : l.length ≤ 1000000) : OwnI w g (.slice (some ⟨g, 0, none⟩) l.length l.length) l := by
  refine ⟨by simp [ics], Or.inr ⟨g, l.length, (ics l).toArray, rfl, Nat.le_refl _, h, Nat.le_refl _, by unfold maxLen; omega, by simp [ics], ?_⟩⟩
  exact List.take_of_length_le (by simp [ics])
def errB (b : Bool) : Value := .int .i64 (if b then 1 else 0)
set_option maxHeartbeats 4000000 in
theorem pscheme_any (a b c : Int) (w : World) : Calls Tryz.prog 31 #[.agg #[.int .i64 a, .int .i64 b, .int .i64 c]] w fun e w' => e = .returned (errB (outB [a, b, c] 1 4)) ∧ Below w.heap.size w w' := by
  have hR : RowAt (w.alloc (.cells #[.int .i64 a, .int .i64 b, .int .i64 c] 24)) w.heap.size [.int .i64 a, .int .i64 b, .int .i64 c] := RowAt.new _ [.int .i64 a, .int .i64 b, .int .i64 c] (by simp) _ rfl
  have c0 := hR.at 0 rfl
  have c1 := hR.at 1 rfl
  have c2 := hR.at 2 rfl
  obtain ⟨w1, hw1⟩ : ∃ u, u = w.alloc (.cells #[.int .i64 a, .int .i64 b, .int .i64 c] 24) := ⟨_, rfl⟩
  have Hb1 : Hid (Below w.heap.size w w1) := by rw [hw1]; exact (Below.refl _ _).alloc (Nat.le_refl _) _
  rw [← hw1] at c0 c1 c2
  have hO := poutside_any _ [a, b, c] 1 4 w1.heap.size (w1.alloc (.cells #[.int .i64 a, .int .i64 b, .int .i64 c] 3)) (OwnI.lit [a, b, c] (heap_alloc_new w1 _) (by simp))
  have hb2 : Below w.heap.size w (w1.alloc (.cells #[.int .i64 a, .int .i64 b, .int .i64 c] 3)) := below_then Hb1.out ((Below.refl _ _).alloc (Nat.le_refl _) _)
  have HO := Lib.hid hO
  have HB := Lib.hid hb2
  have Hw1 := Lib.hid hw1
  clear hO hb2 hR hw1
  go_enter Tryz.func31, Tryz.ntmps31
  go_upto_region 1 with fail
  rw [← Hw1.out]
  go_wp2_with fail
  refine HO.out.mono ?_
  rintro e w2 ⟨rfl, hb⟩
  have HE := Lib.hid (below_then HB.out hb)
  clear hb HO HB Hb1 c0 c1 c2
  cases h : outB [a, b, c] 1 4 <;>
  (have Hh := Lib.hid h
   clear h
   go_wp2_with fail
   go_ret
   exact ⟨by rw [Hh.out]; rfl, HE.out⟩)
structure SOk (n : Nat) (D F : List Int) : Prop where
  dl : D.length = 10 * n * n + 2
  fl : F.length = (edgesN n).length
  dr : ∀ x ∈ D, 0 ≤ x ∧ x ≤ 16777216
  fr : ∀ x ∈ F, -16777216 ≤ x ∧ x ≤ 16777216
theorem outB_no {l : List Int} {lo hi : Int} (h : ∀ x ∈ l, lo ≤ x ∧ x ≤ hi) : outB l lo hi = false := by
  unfold outB
  rw [List.any_eq_false]
  intro x hx
  simp [outV, h x hx]
theorem OwnI.drew {w : World} {base : Nat} {v : Value} {l : List Int} (h : OwnI w base v l) : OwnI w.drew base v l := h.below (Below.refl _ _).drew
def stv (n : Nat) (dv fv : Value) : Value := .agg #[.int .i64 n, dv, fv]
set_option maxHeartbeats 16000000 in
set_option maxRecDepth 100000 in
theorem pcheck_any (n : Nat) (hn : Fq n) (dv fv : Value) (D F : List Int) (base : Nat) (w : World) (hcr : Crn w) (hg : 0 < w.heap.size) (hok : SOk n D F) (hd : OwnI w base dv D) (hf : OwnI w base fv F) :
    Calls Tryz.prog 66 #[stv n dv fv] w fun e w' => e = .returned (.int .i64 0) ∧ Below w.heap.size w w' := by
  obtain ⟨da, dc, rfl⟩ := hd.slice
  obtain ⟨fa, fc, rfl⟩ := hf.slice
  have HCn := Lib.hid (fun w' => pcount_any n hn w')
  have HOD := Lib.hid (outB_no hok.dr)
  have HOF := Lib.hid (outB_no hok.fr)
  have HDl := Lib.hid hok.dl
  have HFl := Lib.hid hok.fl
  obtain ⟨ND, hND⟩ : ∃ x, x = D.length := ⟨_, rfl⟩
  obtain ⟨NF, hNF⟩ : ∃ x, x = F.length := ⟨_, rfl⟩
  obtain ⟨w1, hw1⟩ : ∃ u, u = w.alloc (.cells #[.int .i64 (n : Int), .slice da ND dc, .slice fa NF fc] 36) := ⟨_, rfl⟩
  have hb1 : Below w.heap.size w w1 := by rw [hw1]; exact (Below.refl _ _).alloc (Nat.le_refl _) _
  have HEd := Lib.hid (pedges_any n hn w1 (hcr.below hb1 hg) (by have := hb1.size; omega))
  rw [← hND] at hd ⊢
  rw [← hNF] at hf ⊢
  rw [← hND] at HDl
  rw [← hNF] at HFl
  have HR1 : Hid (RowAt w1 w.heap.size [.int .i64 (n : Int), .slice da ND dc, .slice fa NF fc]) := by rw [hw1]; exact RowAt.new _ [.int .i64 (n : Int), .slice da ND dc, .slice fa NF fc] (by simp) _ rfl
  have HD1 := Lib.hid (hd.below hb1)
  have HF1 := Lib.hid (hf.below hb1)
  have HB1 := Lib.hid hb1
  have Hw1 := Lib.hid hw1
  obtain ⟨B, hB⟩ : ∃ x, x = w.heap.size := ⟨_, rfl⟩
  clear hd hf hok hcr hg hb1 hw1 hND hNF hn
  unfold stv
  have c0 := HR1.out.at 0 rfl
  go_enter Tryz.func66, Tryz.ntmps66
  go_upto_region 1 with fail
  rw [← Hw1.out]
  rw [← hB] at HR1 c0 ⊢
  clear hB Hw1
  go_upto_region 2 with (refine HEd.out.mono ?_; rintro e w2 ⟨ev, rfl, hE, hb2⟩; obtain ⟨ea, ec, rfl⟩ := hE.slice)
  have HR2 := Lib.hid (HR1.out.below hb2)
  have HD2 := Lib.hid (HD1.out.below hb2)
  have HF2 := Lib.hid (HF1.out.below hb2)
  have HB2 := Lib.hid (below_then HB1.out hb2)
  obtain ⟨NE, hNE⟩ : ∃ x, x = (edgesN n).length := ⟨_, rfl⟩
  rw [← hNE] at HFl ⊢
  obtain ⟨NC, hNC⟩ : ∃ x, x = 10 * n * n + 2 := ⟨_, rfl⟩
  rw [← hNC] at HDl HCn
  have hq1 := HDl.out
  have hq2 := HFl.out
  clear hE hb2 c0 hNE hNC HEd HR1 HD1 HF1 HB1
  subst hq1 hq2
  refine wp_region_seqL (by kernel_rfl) (fun w' => RowAt w' B [.int .i64 (n : Int), .slice da ND dc, .slice fa NF fc]) 27 [(0, 0), (1, 0), (2, 0), (3, 0), (4, 1), (5, 0), (6, 0), (7, 1), (8, 2), (9, 0), (10, 0), (11, 0), (12, 0), (13, 1), (14, 0), (15, 0), (16, 0), (17, 0), (18, 0), (19, 0), (20, 0), (21, 1), (22, 2), (23, 0), (24, 0), (25, 0), (26, 1), (27, 2), (28, 0)] (by kernel_rfl) (HR2.out.drew) ?_
  refine sl_q (d := some 11) rfl rfl rfl (.int .i64 0) (fun w => rfl) ?_
  simp only [ap_s, ap_n, ls_z, ls_s]
  refine sl_q (d := some 12) rfl rfl rfl (.bool false) (fun w => by simp [execOp, Act.eval, go_sem]) ?_
  simp only [ap_s, ap_n, ls_z, ls_s]
  refine sl_q (d := some 13) rfl rfl rfl (.bool false) (fun w => rfl) ?_
  simp only [ap_s, ap_n, ls_z, ls_s]
  refine sl_q (d := some 14) rfl rfl rfl (.pointer (some ⟨B, 1, none⟩)) (fun w => by go_simp) ?_
  simp only [ap_s, ap_n, ls_z, ls_s]
  refine sl_s (d := some 15) rfl rfl rfl (.slice da ND dc) (fun w hw => by have c := hw.at 1 rfl; simp [execOp, Act.eval, go_sem, c]) ?_
  simp only [ap_s, ap_n, ls_z, ls_s]
  refine sl_q (d := some 16) rfl rfl rfl (.int .i64 (ND : Int)) (fun w => by simp [execOp, Act.eval, go_sem]) ?_
  simp only [ap_s, ap_n, ls_z, ls_s]
  refine sl_q (d := some 17) rfl rfl rfl (.pointer (some ⟨B, 0, none⟩)) (fun w => by go_simp) ?_
  simp only [ap_s, ap_n, ls_z, ls_s]
  refine sl_s (d := some 18) rfl rfl rfl (.int .i64 (n : Int)) (fun w hw => by have c := hw.at 0 rfl; simp [execOp, Act.eval, go_sem, c]) ?_
  simp only [ap_s, ap_n, ls_z, ls_s]
  refine sl_call (d := some 19) rfl rfl rfl ⟨_, Tryz.func50, by kernel_rfl, by kernel_rfl⟩ _ _ _ rfl rfl [.int .i64 (n : Int)] rfl (HCn.out _) ?_
  rintro e w5 ⟨rfl, rfl⟩
  refine ⟨_, rfl, fun _ => HR2.out.drew, ?_⟩
  simp only [ap_s, ap_n, ls_z, ls_s]
  refine sl_q (d := some 20) rfl rfl rfl (.bool false) (fun w => by simp [execOp, Act.eval, go_sem]) ?_
  simp only [ap_s, ap_n, ls_z, ls_s]
  refine sl_q (d := some 21) rfl rfl rfl (.bool false) (fun w => by simp [execOp, Act.eval, go_sem]) ?_
  simp only [ap_s, ap_n, ls_z, ls_s]
  refine sl_q (d := some 22) rfl rfl rfl (.bool false) (fun w => rfl) ?_
  simp only [ap_s, ap_n, ls_z, ls_s]
  refine sl_q (d := some 23) rfl rfl rfl (.pointer (some ⟨B, 2, none⟩)) (fun w => by go_simp) ?_
  simp only [ap_s, ap_n, ls_z, ls_s]
  refine sl_s (d := some 24) rfl rfl rfl (.slice fa NF fc) (fun w hw => by have c := hw.at 2 rfl; simp [execOp, Act.eval, go_sem, c]) ?_
  simp only [ap_s, ap_n, ls_z, ls_s]
  refine sl_q (d := some 25) rfl rfl rfl (.int .i64 (NF : Int)) (fun w => by simp [execOp, Act.eval, go_sem]) ?_
  simp only [ap_s, ap_n, ls_z, ls_s]
  refine sl_q (d := some 26) rfl rfl rfl (.slice ea NF ec) (fun w => rfl) ?_
  simp only [ap_s, ap_n, ls_z, ls_s]
  refine sl_q (d := some 27) rfl rfl rfl (.int .i64 (NF : Int)) (fun w => by simp [execOp, Act.eval, go_sem]) ?_
  simp only [ap_s, ap_n, ls_z, ls_s]
  refine sl_q (d := some 28) rfl rfl rfl (.bool false) (fun w => by simp [execOp, Act.eval, go_sem]) ?_
  simp only [ap_s, ap_n, ls_z, ls_s]
  refine sl_q (d := some 29) rfl rfl rfl (.bool false) (fun w => by simp [execOp, Act.eval, go_sem]) ?_
  simp only [ap_s, ap_n, ls_z, ls_s]
  refine sl_q (d := some 30) rfl rfl rfl (.bool false) (fun w => rfl) ?_
  simp only [ap_s, ap_n, ls_z, ls_s]
  refine sl_q (d := some 31) rfl rfl rfl (.pointer (some ⟨B, 1, none⟩)) (fun w => by go_simp) ?_
  simp only [ap_s, ap_n, ls_z, ls_s]
  refine sl_s (d := some 32) rfl rfl rfl (.slice da ND dc) (fun w hw => by have c := hw.at 1 rfl; simp [execOp, Act.eval, go_sem, c]) ?_
  simp only [ap_s, ap_n, ls_z, ls_s]
  refine sl_call (d := some 33) rfl rfl rfl ⟨_, Tryz.func47, by kernel_rfl, by kernel_rfl⟩ _ _ _ rfl rfl [.slice da ND dc, .int .i64 0, .int .i64 16777216] rfl (poutside_any _ D _ _ base _ HD2.out.drew) ?_
  rw [HOD.out]
  rintro e w3 ⟨rfl, hb3⟩
  have HR3 := Lib.hid (HR2.out.drew.below hb3)
  have HF3 := Lib.hid (HF2.out.drew.below hb3)
  have HD3 := Lib.hid (HD2.out.drew.below hb3)
  refine ⟨_, rfl, fun _ => HR3.out, ?_⟩
  simp only [ap_s, ap_n, ls_z, ls_s]
  refine sl_q (d := some 34) rfl rfl rfl (.bool false) (fun w => by simp [execOp, Act.eval, go_sem]) ?_
  simp only [ap_s, ap_n, ls_z, ls_s]
  refine sl_q (d := some 35) rfl rfl rfl (.bool false) (fun w => rfl) ?_
  simp only [ap_s, ap_n, ls_z, ls_s]
  refine sl_q (d := some 36) rfl rfl rfl (.pointer (some ⟨B, 2, none⟩)) (fun w => by go_simp) ?_
  simp only [ap_s, ap_n, ls_z, ls_s]
  refine sl_s (d := some 37) rfl rfl rfl (.slice fa NF fc) (fun w hw => by have c := hw.at 2 rfl; simp [execOp, Act.eval, go_sem, c]) ?_
  simp only [ap_s, ap_n, ls_z, ls_s]
  refine sl_call (d := some 38) rfl rfl rfl ⟨_, Tryz.func47, by kernel_rfl, by kernel_rfl⟩ _ _ _ rfl rfl [.slice fa NF fc, .int .i64 (-16777216), .int .i64 16777216] rfl (poutside_any _ F _ _ base _ HF3.out) ?_
  rw [HOF.out]
  rintro e w4 ⟨rfl, hb4⟩
  refine ⟨_, rfl, (fun h => by cases h), ?_⟩
  simp only [ap_s, ap_n, ls_z, ls_s]
  refine sl_q (d := some 39) rfl rfl rfl (.bool false) (fun w => by simp [execOp, Act.eval, go_sem]) ?_
  simp only [ap_s, ap_n, ls_z, ls_s]
  refine sl_end ?_
  have HEnd := Lib.hid (below_then (below_then (below_then HB2.out (Below.refl _ _).drew) hb3) hb4)
  clear hb3 hb4 HCn HOD HOF HR2 HD2 HF2 HR3 HD3 HF3 HB2
  go_wp2_with fail
  go_ret
  exact ⟨rfl, HEnd.out⟩
end Go.Proofs.YtkpgciimhjkajaaGreatDoor
/- A region that draws its order, in a round of a range over a function: walked as anywhere. No program. -/
namespace Go.Proofs.YtkpgciimhjkajaaGreatDoor
open Go Go.RowKit
section
variable {P : Program} {ops : Array Oper} {Q : Exit → Act → World → Prop} {l n : Nat}
def noDefer (ops : Array Oper) : Bool := ops.all fun o => match o.op with | .defer _ => false | _ => true
theorem noDefer_spec (h : noDefer ops = true) {j : Nat} {o : Oper} (ho : ops[j]? = some o) (c : Call) : o.op ≠ .defer c := by
  intro e
  have hj := (Array.getElem?_eq_some_iff.1 ho)
  obtain ⟨hlt, he⟩ := hj
  have h1 := Array.all_eq_true.1 h j hlt
  rw [he, e] at h1
  cases h1
theorem rowsIn_of_rows {row : String} {args : Array Value} {w : World} {R : Value → World → Prop} (h : Rows P row args w R) : RowsIn (Fence.wide.inRound l) n P row args w R := by
  intro c cs _
  obtain ⟨v, w', r, s⟩ := h c cs
  exact ⟨v, w', r, (stepsIn_wide (P := P)).2 s⟩
theorem oper_in {o : Oper} {a : Act} {w : World} {K : Act → World → Prop} (hd : ∀ c, o.op ≠ .defer c) (h : Oper.wp P o a w K Q) : Oper.wpIn (Fence.wide.inRound l) n P o a w K Q := by
  refine ⟨fun f _ => trivial, ?_⟩
  rw [Oper.semAt_plain _ _ _ hd]
  unfold Oper.wp at h
  generalize (execOp a.eval o).run P w = r at *
  cases r with
  | ok v w' =>
    cases v with
    | value v => exact h
    | skip => exact h
    | defer d => exact h
    | enter f args => exact ⟨fun h0 => (by cases h0), CallsIn.inRound l (callsIn_wide.2 h)⟩
    | row rw args => exact ⟨fun h0 => (by cases h0), rowsIn_of_rows h⟩
    | _ => exact h.elim
  | halt hh w' => cases hh <;> exact h
theorem wpOp_in (hn : noDefer ops = true) (hL : ¬ LetsOut Q) {i : Nat} {a : Act} {w : World} {K : Act → World → Prop} (h : wpOp P ops Q i K a w) : wpOpIn (Fence.wide.inRound l) n P ops Q i K a w := by
  unfold wpOp at h
  unfold wpOpIn
  split
  · rename_i ho
    simp only [ho] at h
    exact h
  · rename_i o ho
    simp only [ho] at h
    split
    · rename_i hw
      rw [if_pos hw] at h
      exact oper_in (fun c => noDefer_spec hn ho c) (h.resolve_right (fun h => hL h.2))
    · rename_i hw
      rw [if_neg hw] at h
      exact ⟨fun f _ => trivial, h⟩
theorem wpAny_in {md : Region.Mode} (hn : noDefer ops = true) (hL : ¬ LetsOut Q) : ∀ (fuel : Nat) (listed : Array Bool) (a : Act) (w : World), wpAny P md ops Q fuel listed a w → wpAnyIn (Fence.wide.inRound l) n P md ops Q fuel listed a w
  | 0, _, _, _, h => h
  | fuel + 1, _, _, _, h => ⟨h.1, fun i hi => wpOpIn_mono (fun a' w' h' => wpAny_in hn hL fuel _ a' w' h') (wpOp_in hn hL (h.2 i hi))⟩
def OnlyN (Q : Exit → Act → World → Prop) : Exit → Act → World → Prop
  | .normal, a, w => Q .normal a w
  | _, _, _ => False
theorem OnlyN.imp : ∀ (e : Exit) (a : Act) (w : World), NoPanic (OnlyN Q) e a w → Q e a w := fun e a w h => by
  cases e <;> first | exact h | exact (h : False).elim
theorem OnlyN.lets : ¬ LetsOut (NoPanic (OnlyN Q)) := fun ⟨_, _, h⟩ => h
theorem wpIn_region_seqL {id : Nat} {a : Act} {w : World} (hm : P.follows .mixedOrders = true) (S : World → Prop) (L : Nat) (r : List (Nat × Nat)) (hb : (noDefer ops && Region.noSelect ops && (r.length == ops.size) && decide (L < ops.size) && schedL ops L r (Array.replicate ops.size false)) = true)
    (hS : S w.drew) (h : wpSeqL P ops (NoPanic (OnlyN Q)) S r a w.drew) : (Code.region id ops true).wpIn (Fence.wide.inRound l) n P Q a w := by
  simp only [Bool.and_eq_true, beq_iff_eq, decide_eq_true_eq] at hb
  obtain ⟨⟨⟨⟨h0, h1⟩, h2⟩, h3⟩, h4⟩ := hb
  refine wpIn_mono (wpIn_region_any hm ?_) OnlyN.imp
  have hc : ClosedL ops (Array.replicate ops.size false) := fun k o ho hk => by
    have hk' := (Array.getElem?_eq_some_iff.1 ho).1
    simp [hk'] at hk
  have h5 := wpAny_of_L _ _ _ _ (wpSeqL_sound h1 h3 (fun _ _ _ _ _ h => h) r _ a _ h4 hc (by simp) (fun _ => hS) h)
  rw [h2] at h5
  exact wpAny_in h0 OnlyN.lets _ _ _ _ h5
theorem wpIn_region_seq {id : Nat} {a : Act} {w : World} (hm : P.follows .mixedOrders = true) (S : World → Prop) (r : List (Nat × Bool)) (hb : (noDefer ops && Region.noSelect ops && (r.length == ops.size) && schedB ops r (Array.replicate ops.size false)) = true)
    (hS : S w.drew) (h : wpSeq P ops (NoPanic (OnlyN Q)) S r a w.drew) : (Code.region id ops true).wpIn (Fence.wide.inRound l) n P Q a w := by
  simp only [Bool.and_eq_true, beq_iff_eq] at hb
  obtain ⟨⟨⟨h0, h1⟩, h2⟩, h3⟩ := hb
  refine wpIn_mono (wpIn_region_any hm ?_) OnlyN.imp
  have h5 := wpSeq_sound h1 (fun _ _ _ _ _ h => h) r _ a _ h3 hS h
  rw [h2] at h5
  exact wpAny_in h0 OnlyN.lets _ _ _ _ (wpAny_of_held _ _ _ _ h5)
theorem sl_endN {S : World → Prop} {a : Act} {w : World} (h : Q .normal a w) : wpSeqL P ops (NoPanic (OnlyN Q)) S [] a w := h
theorem seq_endN {S : World → Prop} {a : Act} {w : World} (h : Q .normal a w) : wpSeq P ops (NoPanic (OnlyN Q)) S [] a w := h
theorem opIn_val {i : Nat} {o : Oper} {rest : List Nat} {a : Act} {w w' : World} {v : Value} (ho : ops[i]? = some o) (hg : o.guard = none) (hd : ∀ c, o.op ≠ .defer c) (hrun : (execOp a.eval o).run P w = .ok (.value v) w')
    (h : wpOpsIn (Fence.wide.inRound l) n P ops Q rest (a.put o.dst v) w') : wpOpsIn (Fence.wide.inRound l) n P ops Q (i :: rest) a w := by
  rw [wpOpsIn_cons]
  unfold wpOpIn
  simp only [ho]
  rw [if_pos (by simp [Region.wanted, hg])]
  refine oper_in hd ?_
  unfold Oper.wp
  rw [hrun]
  exact h
theorem opIn_skip {i : Nat} {o : Oper} {rest : List Nat} {a : Act} {w w' : World} (ho : ops[i]? = some o) (hg : o.guard = none) (hd : ∀ c, o.op ≠ .defer c) (hrun : (execOp a.eval o).run P w = .ok .skip w')
    (h : wpOpsIn (Fence.wide.inRound l) n P ops Q rest (a.put o.dst undef) w') : wpOpsIn (Fence.wide.inRound l) n P ops Q (i :: rest) a w := by
  rw [wpOpsIn_cons]
  unfold wpOpIn
  simp only [ho]
  rw [if_pos (by simp [Region.wanted, hg])]
  refine oper_in hd ?_
  unfold Oper.wp
  rw [hrun]
  exact h
theorem region_cutIn {F : Fence} {id : Nat} {b : Bool} {a : Act} {w : World} (R : World → Prop) (h : (Code.region id ops b).wpIn F n P (fun e _ w => e = .normal ∧ R w) a w) (k : ∀ a w, R w → Q .normal a w) : (Code.region id ops b).wpIn F n P Q a w :=
  wpIn_mono h (fun e a w ⟨he, hr⟩ => by subst he; exact k a w hr)
end
end Go.Proofs.YtkpgciimhjkajaaGreatDoor
/- The program's flux: the edges of a grid, as a function that is ranged over. -/
namespace Go.Proofs.YtkpgciimhjkajaaGreatDoor
open Go Go.RowKit Go.Shelf
attribute [local go_sem] Oper.semAt_some
theorem pedgesF_any (n : Int) (w : World) : Calls Tryz.prog 111 #[.int .i64 n] w fun e w' => e = .returned (.func (.func 124) #[] #[.pointer (some ⟨w.heap.size, 0, none⟩)]) ∧ w' = w.alloc (.cells #[.int .i64 n] 3) := by
  go_enter Tryz.func111, Tryz.ntmps111
  go_wp2_with fail
  go_ret
  exact ⟨rfl, rfl⟩
theorem edgesN_le {n : Nat} (h : Fq n) : (edgesN n).length ≤ 9000 := by
  rw [edgesN_eq h]
  unfold edP
  refine Nat.le_trans (cpt_le _) ?_
  rw [List.length_mergeSort, edL_len, (cellsN_perm n).length_eq]
  have h8 : n ≤ 8 := h.2
  have := rawTo_len (n := n) (k := 20) (i := 0) (j := 0) h8 (Nat.le_refl _) (by omega) (by omega)
  rw [rawTo_end] at this
  omega
def eenc (E : List Ed) (i : Fin E.length) : Array Value := #[.int .i64 (i.1 : Int), .agg #[.int .i64 (E[i.1].1 : Int), .int .i64 (E[i.1].2 : Int)]]
structure KpE (W W' : World) : Prop where
  size : W.heap.size ≤ W'.heap.size
  same : ∀ (k : Nat) (cs : Array Value) (fr : Nat × Nat), W.heap[k]? = some (Obj.cells cs 95 fr) → W'.heap[k]? = W.heap[k]?
theorem KpE.trans {A B C : World} (h : KpE A B) (k : KpE B C) : KpE A C := ⟨Nat.le_trans h.size k.size, fun j cs fr hj => by rw [k.same j cs fr (by rw [h.same j cs fr hj]; exact hj), h.same j cs fr hj]⟩
theorem KpE.put {w : World} (W : World) (l : Nat) (o o' : Obj) (_ : w.heap.size ≤ l) (h : W.heap[l]? = some o) (ho : o.isCells = false) (_ : o.isWalk = false) : KpE W (W.putObj l o') :=
  ⟨by simp, fun k cs fr hk => World.putObj_heap_other (fun e => by subst e; rw [h] at hk; injection hk with hk; rw [hk] at ho; cases ho)⟩
theorem KpE.below {W W' : World} (h : Below W.heap.size W W') : KpE W W' := ⟨h.size, fun k _ _ hk => h.block k (Array.getElem?_eq_some_iff.1 hk).1⟩
theorem grown_of_below {W W' : World} (h : Below W.heap.size W W') : W.grownBy W' none := ⟨h.os, h.tape, h.output, h.size, fun k hk _ => h.block k hk⟩
theorem OwnE2.block {w : World} {base g c cap : Nat} {l : List Ed} {n : Nat} (h : OwnE2 w base (.slice (some ⟨g, 0, none⟩) n cap) l) (hc : c < l.length) : ∃ cs fr, w.heap[g]? = some (.cells cs 95 fr) := by
  rcases h.2 with ⟨e, h0⟩ | ⟨g', cap', cur, e, _, hh, _⟩
  · cases e
  · obtain ⟨rfl, _⟩ : g = g' ∧ _ := by simpa using e
    exact ⟨_, _, hh⟩
def fins (L k : Nat) : List (Fin L) := (List.finRange L).take k
theorem fins_succ {L k : Nat} (h : k < L) : fins L (k + 1) = fins L k ++ [⟨k, h⟩] := by
  unfold fins
  rw [List.take_add_one, List.getElem?_eq_getElem (by simpa using h)]
  simp
theorem fins_length {L k : Nat} (h : k ≤ L) : (fins L k).length = k := by simp [fins, h]
set_option maxRecDepth 100000 in
set_option maxHeartbeats 8000000 in
theorem edges1_in (n : Nat) (hn : Fq n) (m : Nat) (hm : 1 ≤ m) (l Bs : Nat) (J Jx : List (Fin (edgesN n).length) → World → Prop) (W : World) (hJ : AbidesFrom W.heap.size J)
    (hY : ∀ pre x W1, J pre W1 → pre.length < (edgesN n).length → YieldAt Fence.wide (m - 1) Tryz.prog l (eenc (edgesN n) x) W1 fun e W' =>
      (e = .returned (.bool true) ∧ J (pre ++ [x]) W' ∧ KpE W1 W') ∨ (e = .returned (.bool false) ∧ Jx (pre ++ [x]) W'))
    (hBs : W.cell? ⟨Bs, 0, none⟩ = some (.int .i64 n)) (hcr : Crn W) (hg : 0 < W.heap.size) (h0 : J [] W) :
    CallsIn Fence.wide m Tryz.prog 124 #[.func (.yield l) #[] #[], .pointer (some ⟨Bs, 0, none⟩)] W fun e W' => (∃ v, e = .returned v) ∧
      ((∃ ys, ys = List.finRange (edgesN n).length ∧ J ys W') ∨ (∃ pre : List (Fin (edgesN n).length), True ∧ Jx pre W')) := by
  have HEd := Lib.hid (pedges_any n hn W hcr hg)
  refine callsIn_of_wp Tryz.func124 rfl trivial ?_ rfl
  simp only [Tryz.ntmps124, List.size_toArray, List.length_cons, List.length_nil, Nat.reduceAdd, Nat.reduceSub, Array.replicate_succ, Array.replicate_zero, List.push_toArray, List.append_toArray, List.nil_append, List.cons_append]
  gi_wp2_with (refine ⟨trivial, ?_⟩; gi_at_call 65; refine (callsIn_wide.2 HEd.out).mono ?_; rintro e w1 ⟨ev, rfl, hE, hb1⟩; obtain ⟨ea, ec, rfl⟩ := hE.slice)
  have hJ1 : J [] w1 := hJ _ _ _ none h0 (grown_of_below hb1) (fun r e => by cases e)
  obtain ⟨N, hN⟩ : ∃ x, x = (edgesN n).length := ⟨_, rfl⟩
  have HN := Lib.hid hN
  have HJ := Lib.hid hJ
  have HY := Lib.hid hY
  have HE := Lib.hid hE
  have HB1 := Lib.hid hb1
  rw [← hN]
  clear hE hb1 h0 HEd hN hJ hY
  gi_loopw [14] (fun kv wr => ∃ c : Nat, c ≤ N ∧ kv = .int .i64 c ∧ Hid (J (fins (edgesN n).length c) wr ∧ W.heap.size ≤ wr.heap.size ∧ KpE w1 wr)) (fun kv _ => (100000 - intOf kv).toNat)
  case atStart => exact ⟨0, by omega, rfl, by rw [show fins (edgesN n).length 0 = [] from rfl]; exact hJ1, HB1.out.size, Nat.le_refl _, fun _ _ _ _ => rfl⟩
  case round =>
    clear hJ1
    obtain ⟨c, hc, rfl, hs⟩ := hrel
    by_cases hlt : c < N
    · have c0 : (c : Int) < (N : Int) := by omega
      have hcl : c < (edgesN n).length := by rw [← HN.out]; exact hlt
      obtain ⟨g, cap, e, hg1, hcp, hcm, hc2⟩ := HE.out.at (by omega)
      obtain ⟨rfl, rfl⟩ : ea = some ⟨g, 0, none⟩ ∧ ec = cap := by simpa using e
      have hc3 : (N : Int) ≤ (ec : Int) := by rw [HN.out]; omega
      have hc4 : (ec : Int) ≤ 9223372036854775807 := by omega
      have hgb : wr.heap[g]? = w1.heap[g]? := by
        obtain ⟨cs, fr, h⟩ := HE.out.block hcl
        exact hs.out.2.2.same g cs fr h
      have hx : wr.cell? ⟨g, c * 2, none⟩ = some (.int .i64 ((edgesN n)[c].1 : Int)) := by rw [World.cell?_of_block (w := w1) hgb]; exact hc2 c hcl 0 _ rfl
      have hy : wr.cell? ⟨g, c * 2 + 1, none⟩ = some (.int .i64 ((edgesN n)[c].2 : Int)) := by rw [World.cell?_of_block (w := w1) hgb]; exact hc2 c hcl 1 _ rfl
      obtain ⟨x, hxe⟩ : ∃ x : Int, x = ((edgesN n)[c].1 : Int) := ⟨_, rfl⟩
      obtain ⟨y, hye⟩ : ∃ x : Int, x = ((edgesN n)[c].2 : Int) := ⟨_, rfl⟩
      rw [← hxe] at hx
      rw [← hye] at hy
      have hbw : Below wr.heap.size wr (wr.alloc (.cells #[.int .i64 x, .int .i64 y] 95)) := (Below.refl _ _).alloc (Nat.le_refl _) _
      have hJw := HJ.out _ _ _ none hs.out.1 (grown_of_below hbw) (fun r e => by cases e)
      obtain ⟨fn, tmps, assign, body, hyl, hR⟩ := HY.out _ ⟨c, hcl⟩ _ hJw (by rw [fins_length (Nat.le_of_lt hcl)]; exact hcl)
      have hyl : (Instr.yield l #[.int .i64 (c : Int), .agg #[.int .i64 x, .int .i64 y]]).run Tryz.prog (wr.alloc (.cells #[.int .i64 x, .int .i64 y] 95)) = .ok (.round l fn tmps assign body) (wr.alloc (.cells #[.int .i64 x, .int .i64 y] 95)) := by
        rw [hxe, hye]; rw [hxe, hye] at hyl; exact hyl
      have HK := Lib.hid (KpE.trans hs.out.2.2 (KpE.below hbw))
      have HSz := Lib.hid (Nat.le_trans hs.out.2.1 hbw.size)
      have HR := Lib.hid hR
      have HFs := Lib.hid (fins_succ hcl)
      have c9 : (c : Int) < 100000 := by have := edgesN_le hn; omega
      clear hJw hbw hgb hc2 hR hs hxe hye e
      gi_wp2
      refine HR.out.mono ?_
      rintro e W3 (⟨rfl, hJ3, hk3⟩ | ⟨rfl, hJx3⟩)
      · rw [← HFs.out] at hJ3
        have HS3 := Lib.hid (And.intro hJ3 (And.intro (Nat.le_trans HSz.out hk3.size) (HK.out.trans hk3)))
        clear hJ3 hk3
        gi_wp2
        go_roundw
        case rel => exact ⟨c + 1, by omega, by go_num, HS3⟩
        case measure => simp [intOf]; omega
      · have HJx := Lib.hid hJx3
        gi_wp2
        refine bodyPost_ret (results_none rfl _ _ _) rfl ?_
        exact ⟨⟨_, rfl⟩, .inr ⟨_, trivial, HJx.out⟩⟩
    · obtain rfl : c = N := by omega
      have HJe : Hid (J (List.finRange (edgesN n).length) wr) := by
        have h := hs.out.1
        rw [HN.out] at h
        have e : fins (edgesN n).length (edgesN n).length = List.finRange (edgesN n).length := by unfold fins; rw [List.take_of_length_le (by simp)]
        rw [e] at h
        exact h
      clear hs
      gi_wp2
      go_end0
      exact ⟨⟨_, rfl⟩, .inl ⟨_, rfl, HJe.out⟩⟩
theorem edges_stops (n : Nat) (hn : Fq n) (m : Nat) (hm : 1 ≤ m) (Bs : Nat) (w : World) (hBs : Bs < w.heap.size) (hc : w.cell? ⟨Bs, 0, none⟩ = some (.int .i64 n)) (hcr : Crn w) (hg : 0 < w.heap.size) :
    SeqStopsK Fence.wide m Tryz.prog 124 #[.pointer (some ⟨Bs, 0, none⟩)] (eenc (edgesN n)) KpE (fun ys => ys = List.finRange (edgesN n).length) (fun _ => True) (edgesN n).length w := fun l J Jx W hW hJ _ hY h0 =>
  edges1_in n hn m hm l Bs J Jx W hJ hY ((hW.cell (p := ⟨Bs, 0, none⟩) hBs).trans hc) (hcr.below hW hg) (Nat.lt_of_lt_of_le hg hW.size) h0
end Go.Proofs.YtkpgciimhjkajaaGreatDoor
