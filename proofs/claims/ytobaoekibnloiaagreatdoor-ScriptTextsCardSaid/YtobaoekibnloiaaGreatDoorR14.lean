/- ScriptReturns answers true at every input. No conditions. -/
import Derived.Test.YtobaoekibnloiaaGreatDoorR13
import Derived.Deep.RegionWith
import Derived.StillTailTactics
import Derived.Laws.BytesArg
import Derived.Test.YtobaoekibnloiaaGreatDoorRows
import Derived.WalkKit
import Derived.ProofKit
import Derived.OpenShut
import Derived.Deep.DeepHandedRow
import Derived.Lib.LaidTab
import Derived.Lib.SmallJoins
import Derived.Stop.LaidErr
import Derived.Test.YtobaoekibnloiaaGreatDoorCards
import Derived.Test.YtobaoekibnloiaaGreatDoorTie
set_option linter.unusedVariables false
set_option linter.unusedSimpArgs false
/- The reference's station: the words of a station. -/
namespace Go.Proofs.YtobaoekibnloiaaGreatDoor
open Go Go.RowKit

theorem rkinds_is (w : World) {H : Nat} (hH : w.heap.size = H) (j : Nat) (hj : j < 3) :
    Calls Tryz.prog 61 #[] w fun e w' => e = .returned (.slice (some ⟨H, 0, none⟩) 3 3) ∧ w'.cell? ⟨H, j, none⟩ = some (.string (kwK j)) ∧ Below w.heap.size w w' := by
  subst hH
  refine (rkinds_any w).mono ?_
  rintro e w' ⟨rfl, rfl⟩
  refine ⟨rfl, ?_, (Below.refl _ _).alloc (Nat.le_refl _) _⟩
  have : j = 0 ∨ j = 1 ∨ j = 2 := by omega
  rcases this with rfl | rfl | rfl <;> simp [kwK]
theorem numsF_ok : ∀ {ws : List ByteArray} {l : List Int}, numsF ws = some l → ∀ n ∈ l, ¬ longI n
  | [], l, h, n, hn => by simp [numsF] at h; subst h; simp at hn
  | t :: r, l, h, n, hn => by
    unfold numsF at h
    split at h
    · next m k hm hk =>
      injection h with h; subst h
      rcases List.mem_cons.1 hn with rfl | hn
      · exact (numF_iff.1 hm).1
      · exact numsF_ok hk n hn
    · cases h
abbrev nilV : Value := .slice none 0 0
def stEv (st : Int) : Ev := ⟨4, ⟨#[]⟩, [], 0, st, ⟨#[]⟩, 0, false, 0, 0, 0, 0, []⟩

set_option maxHeartbeats 40000000 in
set_option maxRecDepth 100000 in
theorem rstation_any (v : Value) (ws : List ByteArray) (w : World) (h : StrsIn w v ws) :
    Calls Tryz.prog 65 #[v] w (EvIs (stF ws) w) := by
  have Hin := Lib.hid h
  have Hbad : Hid (∀ wx y bv cv, bv.oneCell' = true → cv.oneCell' = true → Below w.heap.size w wx → stF ws = none → EvIs (stF ws) w (.returned (.tuple #[Ev.val y bv cv, .bool false])) wx) := by
    intro wx y bv cv ho1 ho2 hx hno
    exact ⟨y, bv, cv, false, rfl, by rw [if_neg (by simp)]; exact hno, fun h => absurd h (by simp), ho1, ho2, hx⟩
  by_cases h4 : 4 ≤ ws.length
  · obtain ⟨k, nm, f, c, r, rfl⟩ : ∃ k nm f c r, ws = k :: nm :: f :: c :: r := by
      match ws, h4 with
      | k :: nm :: f :: c :: r, _ => exact ⟨k, nm, f, c, r, rfl⟩
    obtain ⟨ab, ao, cap, rfl, hc1, hc2⟩ := h.ne (by simp)
    have q0 := (h.at 0 (by simp)).1
    have q1 := (h.at 1 (by simp)).1
    have q2 := (h.at 2 (by simp)).1
    have q3 := (h.at 3 (by simp)).1
    simp only [List.getElem_cons_zero, List.getElem_cons_succ, Nat.add_zero] at q0 q1 q2 q3
    have z1 := (h.at 1 (by simp)).2
    have z2 := (h.at 2 (by simp)).2
    simp only [List.getElem_cons_zero, List.getElem_cons_succ] at z1 z2
    have hab : ab < w.heap.size := World.block_lt_of_cell? (a := ⟨ab, ao, none⟩) _ q0
    have hn : (k :: nm :: f :: c :: r).length = r.length + 4 := rfl
    rw [hn] at hc1 h4 ⊢
    generalize hm : r.length = m at *
    have Hm := Lib.hid hm
    clear hn hm h
    have HQ : Hid (∀ w', Below w.heap.size w w' → w'.cell? ⟨ab, ao, none⟩ = some (.string k) ∧ w'.cell? ⟨ab, ao + 1, none⟩ = some (.string nm) ∧ w'.cell? ⟨ab, ao + 2, none⟩ = some (.string f) ∧ w'.cell? ⟨ab, ao + 3, none⟩ = some (.string c)) := fun w' hb => ⟨cell_then hb q0, cell_then hb q1, cell_then hb q2, cell_then hb q3⟩
    have HA : Hid (EvAt ((w.alloc (.cells (evCells Ev.zero nilV nilV).toArray 36)).alloc (.cells (evCells (stEv 0) nilV nilV).toArray 36)) w.heap.size (evCells Ev.zero nilV nilV)) := (EvAt.new _ _ rfl _).alloc _
    have HB : Hid (EvAt ((w.alloc (.cells (evCells Ev.zero nilV nilV).toArray 36)).alloc (.cells (evCells (stEv 0) nilV nilV).toArray 36)) (w.heap.size + 1) (evCells (stEv 0) nilV nilV)) := by
      have := EvAt.new (w.alloc (.cells (evCells Ev.zero nilV nilV).toArray 36)) (evCells (stEv 0) nilV nilV) rfl 36
      unfold Hid
      rw [show (w.alloc (.cells (evCells Ev.zero nilV nilV).toArray 36)).heap.size = w.heap.size + 1 by simp] at this
      exact this
    have HC : Hid (Below w.heap.size w ((w.alloc (.cells (evCells Ev.zero nilV nilV).toArray 36)).alloc (.cells (evCells (stEv 0) nilV nilV).toArray 36))) := ((Below.refl _ _).alloc (Nat.le_refl _) _).alloc (by simp) _
    simp only [evCells, Ev.zero, stEv, nilV] at HA HB HC
    have Hk0 : Hid (nameOk nm = false → stF (k :: nm :: f :: c :: r) = none) := by intro h; unfold stF; simp [h]
    have Hk1 : Hid (numF f = none → stF (k :: nm :: f :: c :: r) = none) := by
      intro h; unfold stF; simp only [h]
      split
      · cases kindF k <;> rfl
      · rfl
    have Hk2 : Hid (kindF k = none → stF (k :: nm :: f :: c :: r) = none) := by
      intro h; unfold stF; simp only [h]
      split <;> rfl
    have Hk3 : Hid (∀ fr st, nameOk nm = true → kindF k = some st → numF f = some fr → stF (k :: nm :: f :: c :: r) = if c = kwClosed then (biasF r).map (fun l => ⟨4, ⟨#[]⟩, [], 0, st, nm, fr, true, 0, 0, 0, 0, l⟩)
        else if c = kwAt then match r with
          | w1 :: w2 :: w3 :: w4 :: r' => match numF w1, numF w2, numF w3, numF w4, biasF r' with
            | some p, some q, some s, some t, some l => some ⟨4, ⟨#[]⟩, [], 0, st, nm, fr, false, p, q, s, t, l⟩
            | _, _, _, _, _ => none
          | _ => none
        else none) := by
      intro fr st h1 h2 h3
      conv => lhs; unfold stF
      simp only [h1, h2, h3, if_true]
      rfl
    have Hdrop : Hid (∀ w', Below w.heap.size w w' → ∀ A c', c' = cap - 4 → (0 < m → A = some ⟨ab, ao + 4, none⟩) → StrsIn w' (.slice A m c') r) := by
      intro w' hb A c' hc' hA
      subst hc'
      have := (Hin.out.drop 4 (by simp) A (fun h => hA (by have := Hm.out; simp at h; omega))).below hb
      simp only [List.length_cons, List.drop_succ_cons, List.drop_zero] at this
      rw [Hm.out] at this
      exact this
    go_enter Tryz.func65, Tryz.ntmps65
    go_wp2_with fail
    refine (rname_any nm z1 _).mono ?_
    rintro e w1 ⟨rfl, hb1⟩
    have EA := Lib.hid (HA.out.below hb1)
    have EB := Lib.hid (HB.out.below hb1)
    have HB1 := Lib.hid (below_then HC.out hb1)
    clear HA HB HC hb1 q0 q1 q2 q3
    obtain ⟨q0, q1, q2, q3⟩ := HQ.out _ HB1.out
    cases hnm : nameOk nm with
    | false =>
      have Hnm := Lib.hid hnm
      clear hnm
      go_wp2_with (first | (refine ev_load rfl _ rfl _ rfl _ EB.out ?_) | (refine ev_store rfl _ _ rfl _ rfl _ (evCells (stEv 0) nilV nilV) rfl EA.out rfl (evCells_one _ rfl rfl) ?_; intro wz EZ HZ))
      refine ret_ev rfl _ _ _ EZ rfl rfl rfl ?_
      exact Hbad.out _ (stEv 0) nilV nilV rfl rfl (Below.trans HB1.out (HZ.below (Nat.le_refl _))) (Hk0.out Hnm.out)
    | true =>
      have Hnm := Lib.hid hnm
      clear hnm
      go_wp2_with fail
      go_loopw [5] (fun x wr => ∃ j : Nat, j ≤ 3 ∧ x = .int .i64 j ∧ Hid (EvAt wr w.heap.size (evCells Ev.zero nilV nilV)) ∧ Hid (EvAt wr (w.heap.size + 1) (evCells (stEv (stK k j)) nilV nilV)) ∧ Below w.heap.size w wr) (fun x _ => (3 - intOf x).toNat)
      case atStart => exact ⟨0, by omega, rfl, EA, by unfold Hid; rw [stK_0]; exact EB.out, HB1.out⟩
      case round =>
        obtain ⟨j, hj, rfl, EAr, EBr, hBr⟩ := hrel
        clear q0 q1 q2 q3 EA EB
        by_cases hlt : j < 3
        · obtain ⟨q0, _, _, _⟩ := HQ.out _ hBr
          have Hh := Lib.hid (@stK_hit k j hlt)
          have Hm' := Lib.hid (@stK_miss k j hlt)
          have H0 : Hid (∀ w', Below wr.heap.size wr w' → w'.cell? ⟨ab, ao, none⟩ = some (.string k) ∧ Below wr.heap.size wr w') := fun w' h => ⟨cell_then h q0, h⟩
          obtain ⟨s, hs⟩ : ∃ s, s = kwK j := ⟨_, rfl⟩
          obtain ⟨q, hq⟩ : ∃ q, q = decide (k = s) := ⟨_, rfl⟩
          have hsq : (s.toList == k.toList) = q := by
            by_cases hk : k = s
            · rw [hq, hk]; simp
            · rw [hq, decide_eq_false hk]; exact str_ne (fun e => hk e.symm)
          rw [← hs] at Hh Hm'
          have Hq := Lib.hid hq
          have HR := Lib.hid (rkinds_is wr.drew (H := wr.heap.size) rfl j hlt)
          rw [← hs] at HR
          have b4 : wr.cell? ⟨w.heap.size + 1, 4, none⟩ = some (.int .i64 (stK k j)) := EBr.out.2.1 4 (by omega)
          have d4 : wr.frozen? ⟨w.heap.size + 1, 4, none⟩ = false := EBr.out.2.2 4 (by omega)
          have hlt4 : w.heap.size + 1 < wr.heap.size := EBr.out.lt
          have g1 : (0 : Int) ≤ (j : Int) := by omega
          have g2 : (j : Int) < 3 := by omega
          clear hs hq
          go_wp2_with fail
          go_region_with (first | (go_at_call 61; ((with_reducible refine HR.out.mono ?_); rintro e w' ⟨rfl, k0, hb⟩; have q0' := (H0.out _ (below_then (Below.refl _ _).drew hb)).1)))
          all_goals
            have hbz : Below wr.heap.size wr w' := below_then (Below.refl _ _).drew hb
            have EA2 := Lib.hid (EAr.out.below hbz)
            have EB2 := Lib.hid (EBr.out.below hbz)
            have HB2 := Lib.hid (below_then hBr hbz)
            have b4' : w'.cell? ⟨w.heap.size + 1, 4, none⟩ = some (.int .i64 (stK k j)) := cell_then hbz b4
            have d4' : w'.frozen? ⟨w.heap.size + 1, 4, none⟩ = false := EB2.out.2.2 4 (by omega)
            clear hbz hb b4 d4 k0 q0 q0'
            cases q with
            | true =>
              go_wp2_with fail
              go_roundw
              case rel =>
                refine ⟨j + 1, by omega, by go_num, EA2.out.other (by simp) _, ?_, HB2.out.setCell (by simp) _⟩
                have e := EB2.out.set 4 (by omega) (.int .i64 ((j : Int) + 1))
                have e2 := Hh.out (of_decide_eq_true Hq.out.symm)
                unfold Hid
                rw [e2]
                exact e
              case measure => simp [intOf]; omega
            | false =>
              go_wp2_with fail
              go_roundw
              case rel =>
                refine ⟨j + 1, by omega, by go_num, EA2.out, ?_, HB2.out⟩
                unfold Hid
                rw [Hm'.out (of_decide_eq_false Hq.out.symm)]
                exact EB2.out
              case measure => simp [intOf]; omega
        · obtain rfl : j = 3 := by omega
          rw [stK_3] at EBr
          obtain ⟨q0, q1, q2, q3⟩ := HQ.out _ hBr
          go_wp2_with fail
          refine (rnumber_any f z2 wr).mono ?_
          intro e w2 hr
          obtain ⟨fr, ok, hfr, rfl, hnum, hb2⟩ := rnum_out hr
          have EA2 := Lib.hid (EAr.out.below hb2)
          have EB2 := Lib.hid (EBr.out.below hb2)
          have HB2 := Lib.hid (below_then hBr hb2)
          have Hfr := Lib.hid hfr
          clear hr hb2 q0 q1 q2 q3 EAr EBr hfr hlt
          obtain ⟨q0, q1, q2, q3⟩ := HQ.out _ HB2.out
          have Hnum := Lib.hid hnum
          clear hnum
          cases ok with
          | false =>
            cases hkf : kindF k with
            | none =>
              have Hkf := Lib.hid hkf
              rw [hkf] at EB2
              simp only [Option.getD_none] at EB2
              clear hkf
              go_wp2_with (first | (refine ev_load rfl _ rfl _ rfl _ EB2.out ?_) | (refine ev_store rfl _ _ rfl _ rfl _ (evCells (stEv 0) nilV nilV) rfl EA2.out rfl (evCells_one _ rfl rfl) ?_; intro wz EZ HZ))
              refine ret_ev rfl _ _ _ EZ rfl rfl rfl ?_
              exact Hbad.out _ (stEv 0) nilV nilV rfl rfl (Below.trans HB2.out (HZ.below (Nat.le_refl _))) (Hk2.out Hkf.out)
            | some st =>
              rw [hkf] at EB2
              simp only [Option.getD_some] at EB2
              clear hkf
              go_wp2_with (first | (refine ev_load rfl _ rfl _ rfl _ EB2.out ?_) | (refine ev_store rfl _ _ rfl _ rfl _ (evCells (stEv st) nilV nilV) rfl EA2.out rfl (evCells_one _ rfl rfl) ?_; intro wz EZ HZ))
              refine ret_ev rfl _ _ _ EZ rfl rfl rfl ?_
              exact Hbad.out _ (stEv st) nilV nilV rfl rfl (Below.trans HB2.out (HZ.below (Nat.le_refl _))) (Hk1.out (by rw [Hnum.out]; rfl))
          | true =>
            cases hkf : kindF k with
            | none =>
              have Hkf := Lib.hid hkf
              rw [hkf] at EB2
              simp only [Option.getD_none] at EB2
              have b4 : w2.cell? ⟨w.heap.size + 1, 4, none⟩ = some (.int .i64 0) := EB2.out.2.1 4 (by omega)
              clear hkf
              go_wp2_with (first | (refine ev_load rfl _ rfl _ rfl _ EB2.out ?_) | (refine ev_store rfl _ _ rfl _ rfl _ (evCells (stEv 0) nilV nilV) rfl EA2.out rfl (evCells_one _ rfl rfl) ?_; intro wz EZ HZ))
              refine ret_ev rfl _ _ _ EZ rfl rfl rfl ?_
              exact Hbad.out _ (stEv 0) nilV nilV rfl rfl (Below.trans HB2.out (HZ.below (Nat.le_refl _))) (Hk2.out Hkf.out)
            | some st =>
              have Hkf := Lib.hid hkf
              rw [hkf] at EB2
              simp only [Option.getD_some] at EB2
              obtain ⟨st1, st3, hkw⟩ := kindF_iff.1 hkf
              clear hkw
              have b4 : w2.cell? ⟨w.heap.size + 1, 4, none⟩ = some (.int .i64 st) := EB2.out.2.1 4 (by omega)
              have hst0 : (st == 0) = false := by simp; omega
              clear hkf
              have Hfin := Lib.hid (Hk3.out fr st Hnm.out Hkf.out (by rw [Hnum.out]; rfl))
              have b5 : w2.cell? ⟨w.heap.size + 1, 5, none⟩ = some (.string ⟨#[]⟩) := EB2.out.2.1 5 (by omega)
              have b6 : w2.cell? ⟨w.heap.size + 1, 6, none⟩ = some (.int .i64 0) := EB2.out.2.1 6 (by omega)
              have b7 : w2.cell? ⟨w.heap.size + 1, 7, none⟩ = some (.bool false) := EB2.out.2.1 7 (by omega)
              have d5 : w2.frozen? ⟨w.heap.size + 1, 5, none⟩ = false := EB2.out.2.2 5 (by omega)
              have d6 : w2.frozen? ⟨w.heap.size + 1, 6, none⟩ = false := EB2.out.2.2 6 (by omega)
              have d7 : w2.frozen? ⟨w.heap.size + 1, 7, none⟩ = false := EB2.out.2.2 7 (by omega)
              have hab2 : ab ≠ w.heap.size + 1 := by omega
              have EAX : Hid (EvAt ((w2.setCell ⟨w.heap.size + 1, 5, none⟩ (.string nm)).setCell ⟨w.heap.size + 1, 6, none⟩ (.int .i64 fr)) w.heap.size (evCells Ev.zero nilV nilV)) := (EA2.out.other (by simp) _).other (by simp) _
              have EBX : Hid (EvAt ((w2.setCell ⟨w.heap.size + 1, 5, none⟩ (.string nm)).setCell ⟨w.heap.size + 1, 6, none⟩ (.int .i64 fr)) (w.heap.size + 1) (evCells ⟨4, ⟨#[]⟩, [], 0, st, nm, fr, false, 0, 0, 0, 0, []⟩ nilV nilV)) := (EB2.out.set 5 (by omega) _).set 6 (by omega) _
              have HX : Hid (Below w.heap.size w ((w2.setCell ⟨w.heap.size + 1, 5, none⟩ (.string nm)).setCell ⟨w.heap.size + 1, 6, none⟩ (.int .i64 fr))) := (HB2.out.setCell (by simp) _).setCell (by simp) _
              obtain ⟨p, hp⟩ : ∃ p, p = decide (c = kwClosed) := ⟨_, rfl⟩
              have kc := (kw_list kwClosed c [99, 108, 111, 115, 101, 100] rfl).2
              rw [← hp] at kc
              obtain ⟨q, hq⟩ : ∃ q, q = decide (c = kwAt) := ⟨_, rfl⟩
              have ka := (kw_list kwAt c [97, 116] rfl).2
              rw [← hq] at ka
              have Hp0 := Lib.hid hp
              have Hq0 := Lib.hid hq
              clear hp hq
              cases p with
              | true =>
                have Hc := Lib.hid (of_decide_eq_true Hp0.out.symm)
                have EAW : Hid (EvAt (((w2.setCell ⟨w.heap.size + 1, 5, none⟩ (.string nm)).setCell ⟨w.heap.size + 1, 6, none⟩ (.int .i64 fr)).setCell ⟨w.heap.size + 1, 7, none⟩ (.bool true)) w.heap.size (evCells Ev.zero nilV nilV)) := EAX.out.other (by simp) _
                have EBW : Hid (EvAt (((w2.setCell ⟨w.heap.size + 1, 5, none⟩ (.string nm)).setCell ⟨w.heap.size + 1, 6, none⟩ (.int .i64 fr)).setCell ⟨w.heap.size + 1, 7, none⟩ (.bool true)) (w.heap.size + 1) (evCells ⟨4, ⟨#[]⟩, [], 0, st, nm, fr, true, 0, 0, 0, 0, []⟩ nilV nilV)) := EBX.out.set 7 (by omega) _
                have HW : Hid (Below w.heap.size w (((w2.setCell ⟨w.heap.size + 1, 5, none⟩ (.string nm)).setCell ⟨w.heap.size + 1, 6, none⟩ (.int .i64 fr)).setCell ⟨w.heap.size + 1, 7, none⟩ (.bool true))) := HX.out.setCell (by simp) _
                have Hf2 : Hid (stF (k :: nm :: f :: c :: r) = (biasF r).map (fun l => (⟨4, ⟨#[]⟩, [], 0, st, nm, fr, true, 0, 0, 0, 0, l⟩ : Ev))) := by unfold Hid; rw [Hfin.out, if_pos Hc.out]
                clear Hfin
                go_wp2_with fail
                all_goals
                  refine (rbiases_any _ r _ (Hdrop.out _ HW.out _ _ ?_ ?_)).mono ?_
                  · omega
                  · intro h; first | rfl | (exfalso; omega)
                  rintro e w3 ⟨cv, l, ok, rfl, hbi, hown, ⟨ca, cn, cc, rfl⟩, hb3⟩
                  have EA3 := Lib.hid (EAW.out.below hb3)
                  have EB3 := Lib.hid (EBW.out.below hb3)
                  have HB3 := Lib.hid (below_then HW.out hb3)
                  have Hbi := Lib.hid hbi
                  have Hown := Lib.hid hown
                  have HWs : Hid (w.heap.size + 1 < _) := EBW.out.lt
                  have b12 : w3.cell? ⟨w.heap.size + 1, 12, none⟩ = some nilV := EB3.out.2.1 12 (by omega)
                  have d12 : w3.frozen? ⟨w.heap.size + 1, 12, none⟩ = false := EB3.out.2.2 12 (by omega)
                  have EA4 : Hid (EvAt (w3.setCell ⟨w.heap.size + 1, 12, none⟩ (.slice ca cn cc)) w.heap.size (evCells Ev.zero nilV nilV)) := EA3.out.other (by simp) _
                  have EB4 : Hid (EvAt (w3.setCell ⟨w.heap.size + 1, 12, none⟩ (.slice ca cn cc)) (w.heap.size + 1) (evCells ⟨4, ⟨#[]⟩, [], 0, st, nm, fr, true, 0, 0, 0, 0, []⟩ nilV (.slice ca cn cc))) := EB3.out.set 12 (by omega) _
                  have HB4 : Hid (Below w.heap.size w (w3.setCell ⟨w.heap.size + 1, 12, none⟩ (.slice ca cn cc))) := HB3.out.setCell (by simp) _
                  clear hbi hown hb3
                  cases ok with
                  | false =>
                    go_wp2_with (first | (refine ev_load rfl _ rfl _ rfl _ EB4.out ?_) | (refine ev_store rfl _ _ rfl _ rfl _ (evCells ⟨4, ⟨#[]⟩, [], 0, st, nm, fr, true, 0, 0, 0, 0, []⟩ nilV (.slice ca cn cc)) rfl EA4.out rfl (evCells_one _ rfl rfl) ?_; intro wz EZ HZ))
                    refine ret_ev rfl _ _ _ EZ rfl rfl rfl ?_
                    exact Hbad.out _ ⟨4, ⟨#[]⟩, [], 0, st, nm, fr, true, 0, 0, 0, 0, []⟩ nilV (.slice ca cn cc) rfl rfl (Below.trans HB4.out (HZ.below (Nat.le_refl _))) (by rw [Hf2.out, Hbi.out]; rfl)
                  | true =>
                    go_wp2_with (first | (refine ev_load rfl _ rfl _ rfl _ EB4.out ?_) | (refine ev_store rfl _ _ rfl _ rfl _ (evCells ⟨4, ⟨#[]⟩, [], 0, st, nm, fr, true, 0, 0, 0, 0, []⟩ nilV (.slice ca cn cc)) rfl EA4.out rfl (evCells_one _ rfl rfl) ?_; intro wz EZ HZ))
                    refine ret_ev rfl _ _ _ EZ rfl rfl rfl ?_
                    have hbi : biasF r = some l := Hbi.out.trans (if_pos (by simp))
                    obtain ⟨ho, hle⟩ := Hown.out (by simp)
                    have hrl : r.length ≤ 2000000 := by obtain ⟨_, _, _, _, _, hh, _⟩ := Hin.out; simp at hh; omega
                    have hpi := ((biasF_iff _ _).1 hbi).1
                    have h0 := BiasIn.of_own ho (by omega) (fun p hp => ⟨not_long (hpi p hp).1, not_long (hpi p hp).2⟩)
                    have h1 := h0.kept (b := w.heap.size + 1) (w' := w3.setCell ⟨w.heap.size + 1, 12, none⟩ (.slice ca cn cc)) (fun k _ hn _ => Below.heap_setCell _ _ _ _ (fun e => hn e)) (Or.inl HWs.out)
                    have h2 := h1.kept (b := w.heap.size) (w' := wz) (fun k _ hn _ => HZ.2.2.2.2 k hn) (Or.inl (Nat.lt_of_le_of_lt (Nat.le_succ _) HWs.out))
                    refine ⟨⟨4, ⟨#[]⟩, [], 0, st, nm, fr, true, 0, 0, 0, 0, l⟩, nilV, .slice ca cn cc, true, rfl, ?_, fun _ => ⟨?_, BytesF.nil _ _, h2.mono (Nat.le_of_lt (Nat.lt_of_le_of_lt (Nat.le_succ _) HWs.out))⟩, rfl, rfl, Below.trans HB4.out (HZ.below (Nat.le_refl _))⟩
                    · rw [if_pos rfl, Hf2.out, hbi]; rfl
                    · exact ⟨by show I64 4; unfold I64; omega, by simp [ByteArray.size], I64.zero, by show I64 st; unfold I64; omega, z1, Hfr.out, I64.zero, I64.zero, I64.zero, I64.zero⟩
              | false =>
                have Hc := Lib.hid (of_decide_eq_false Hp0.out.symm)
                cases q with
                | false =>
                  have Ha := Lib.hid (of_decide_eq_false Hq0.out.symm)
                  go_wp2_with (first | (refine ev_load rfl _ rfl _ rfl _ EBX.out ?_) | (refine ev_store rfl _ _ rfl _ rfl _ (evCells ⟨4, ⟨#[]⟩, [], 0, st, nm, fr, false, 0, 0, 0, 0, []⟩ nilV nilV) rfl EAX.out rfl (evCells_one _ rfl rfl) ?_; intro wz EZ HZ))
                  all_goals
                    refine ret_ev rfl _ _ _ EZ rfl rfl rfl ?_
                    exact Hbad.out _ ⟨4, ⟨#[]⟩, [], 0, st, nm, fr, false, 0, 0, 0, 0, []⟩ nilV nilV rfl rfl (Below.trans HX.out (HZ.below (Nat.le_refl _))) (by rw [Hfin.out, if_neg Hc.out, if_neg Ha.out])
                | true =>
                  have Ha := Lib.hid (of_decide_eq_true Hq0.out.symm)
                  by_cases hm4 : 4 ≤ m
                  · skip
                    obtain ⟨mm, rfl⟩ : ∃ mm, m = mm + 4 := ⟨m - 4, by omega⟩
                    obtain ⟨w1', w2', w3', w4', r', rfl⟩ : ∃ w1' w2' w3' w4' r', r = w1' :: w2' :: w3' :: w4' :: r' := by
                      have := Hm.out
                      match r, this with
                      | a :: b :: c :: d :: r', _ => exact ⟨a, b, c, d, r', rfl⟩
                      | [], h => simp at h
                      | [a], h => simp at h
                      | [a, b], h => simp at h
                      | [a, b, c], h => simp at h
                    have Hmm : Hid (r'.length = mm) := by have := Hm.out; simp at this; exact this
                    have Htk : Hid (∀ w', Below w.heap.size w w' → StrsIn w' (.slice (some ⟨ab, ao + 4, none⟩) 4 (cap - 4)) [w1', w2', w3', w4']) := by
                      intro w' hb
                      have h1 := Hdrop.out w' hb (some ⟨ab, ao + 4, none⟩) (cap - 4) rfl (fun _ => rfl)
                      have h2 := Hm.out
                      rw [← h2] at h1
                      exact h1.take 4 (by simp)
                    have Hdr : Hid (∀ w', Below w.heap.size w w' → ∀ A c', c' = cap - 8 → (0 < mm → A = some ⟨ab, ao + 8, none⟩) → StrsIn w' (.slice A mm c') r') := by
                      intro w' hb A c' hc' hA
                      subst hc'
                      have h1 := Hdrop.out w' hb (some ⟨ab, ao + 4, none⟩) (cap - 4) rfl (fun _ => rfl)
                      have h2 := Hm.out
                      rw [← h2] at h1
                      have h3 := h1.drop 4 (by simp) A (fun h => by rw [hA (by have := Hmm.out; simp at h; omega)])
                      have h4 := Hmm.out
                      simp only [List.length_cons, List.drop_succ_cons, List.drop_zero] at h3
                      rw [h4, show cap - 4 - 4 = cap - 8 by omega] at h3
                      exact h3
                    have Hf3 : Hid (stF (k :: nm :: f :: c :: w1' :: w2' :: w3' :: w4' :: r') = match numsF [w1', w2', w3', w4'] with
                        | some [p, q, s, t] => (biasF r').map (fun l => (⟨4, ⟨#[]⟩, [], 0, st, nm, fr, false, p, q, s, t, l⟩ : Ev))
                        | _ => none) := by
                      unfold Hid
                      rw [Hfin.out, if_neg Hc.out, if_pos Ha.out]
                      simp only [numsF]
                      cases numF w1' <;> cases numF w2' <;> cases numF w3' <;> cases numF w4' <;> cases biasF r' <;> rfl
                    have hcap : ¬ cap = 4 := by omega
                    have hcap4 : 4 ≤ cap - 4 := by omega
                    clear Hfin Hdrop
                    go_wp2_with fail
                    refine (rnumbers_any _ [w1', w2', w3', w4'] _ (Htk.out _ HX.out)).mono ?_
                    rintro e w3 ⟨nv, zs, ok, rfl, hnum, hnown, hb3⟩
                    have EA3 := Lib.hid (EAX.out.below hb3)
                    have EB3 := Lib.hid (EBX.out.below hb3)
                    have HB3 := Lib.hid (below_then HX.out hb3)
                    have Hnums0 := Lib.hid hnum
                    have Hnow := Lib.hid hnown
                    have HgX : Hid (w.heap.size + 1 < _) := EBX.out.lt
                    clear hnum hnown hb3
                    cases ok with
                    | false =>
                      go_wp2_with (first | (refine ev_load rfl _ rfl _ rfl _ EB3.out ?_) | (refine ev_store rfl _ _ rfl _ rfl _ (evCells ⟨4, ⟨#[]⟩, [], 0, st, nm, fr, false, 0, 0, 0, 0, []⟩ nilV nilV) rfl EA3.out rfl (evCells_one _ rfl rfl) ?_; intro wz EZ HZ))
                      refine ret_ev rfl _ _ _ EZ rfl rfl rfl ?_
                      exact Hbad.out _ ⟨4, ⟨#[]⟩, [], 0, st, nm, fr, false, 0, 0, 0, 0, []⟩ nilV nilV rfl rfl (Below.trans HB3.out (HZ.below (Nat.le_refl _))) (by rw [Hf3.out, Hnums0.out]; rfl)
                    | true =>
                      have Hnums : Hid (numsF [w1', w2', w3', w4'] = some zs) := Hnums0.out.trans (if_pos (by simp))
                      obtain ⟨z0, z1', z2', z3', rfl⟩ : ∃ z0 z1' z2' z3', zs = [z0, z1', z2', z3'] := by
                        have := numsF_length Hnums.out
                        match zs, this with
                        | [a, b, c, d], _ => exact ⟨a, b, c, d, rfl⟩
                      have Hzl := Lib.hid (numsF_ok Hnums.out)
                      obtain ⟨g, gc, rfl, hg, hgc, hcs⟩ := (Hnow.out rfl).at (by simp)
                      have n0 : w3.drew.cell? ⟨g, 0, none⟩ = some (.int .i64 z0) := hcs 0 (by simp)
                      have n1 : w3.drew.cell? ⟨g, 1, none⟩ = some (.int .i64 z1') := hcs 1 (by simp)
                      have n2 : w3.drew.cell? ⟨g, 2, none⟩ = some (.int .i64 z2') := hcs 2 (by simp)
                      have n3 : w3.drew.cell? ⟨g, 3, none⟩ = some (.int .i64 z3') := hcs 3 (by simp)
                      have Hn := Lib.hid (And.intro n0 (And.intro n1 (And.intro n2 n3)))
                      have EA4 := Lib.hid EA3.out.drew
                      have EB4 := Lib.hid EB3.out.drew
                      have HB4 := Lib.hid HB3.out.drew
                      have hgc4 : 4 ≤ gc := hgc
                      clear hg hgc hcs n0 n1 n2 n3 Hnow Hnums0
                      simp only [List.length_cons, List.length_nil]
                      go_wp2_with fail
                      have m0 : w3.cell? ⟨g, 0, none⟩ = some (.int .i64 z0) := Hn.out.1
                      have m1 : w3.cell? ⟨g, 1, none⟩ = some (.int .i64 z1') := Hn.out.2.1
                      have m2 : w3.cell? ⟨g, 2, none⟩ = some (.int .i64 z2') := Hn.out.2.2.1
                      have m3 : w3.cell? ⟨g, 3, none⟩ = some (.int .i64 z3') := Hn.out.2.2.2
                      go_still_tail 15, (by kernel_rfl)
                      change wpList _ _ _ _ _ w3.drew
                      clear m0 m1 m2 m3 EA3 EB3 HB3 Hn
                      generalize w3.drew = w4 at *
                      have b8 : w4.cell? ⟨w.heap.size + 1, 8, none⟩ = some (.int .i64 0) := EB4.out.2.1 8 (by omega)
                      have b9 : w4.cell? ⟨w.heap.size + 1, 9, none⟩ = some (.int .i64 0) := EB4.out.2.1 9 (by omega)
                      have b10 : w4.cell? ⟨w.heap.size + 1, 10, none⟩ = some (.int .i64 0) := EB4.out.2.1 10 (by omega)
                      have b11 : w4.cell? ⟨w.heap.size + 1, 11, none⟩ = some (.int .i64 0) := EB4.out.2.1 11 (by omega)
                      have d8 : w4.frozen? ⟨w.heap.size + 1, 8, none⟩ = false := EB4.out.2.2 8 (by omega)
                      have d9 : w4.frozen? ⟨w.heap.size + 1, 9, none⟩ = false := EB4.out.2.2 9 (by omega)
                      have d10 : w4.frozen? ⟨w.heap.size + 1, 10, none⟩ = false := EB4.out.2.2 10 (by omega)
                      have d11 : w4.frozen? ⟨w.heap.size + 1, 11, none⟩ = false := EB4.out.2.2 11 (by omega)
                      have EAY : Hid (EvAt ((((w4.setCell ⟨w.heap.size + 1, 8, none⟩ (.int .i64 z0)).setCell ⟨w.heap.size + 1, 9, none⟩ (.int .i64 z1')).setCell ⟨w.heap.size + 1, 10, none⟩ (.int .i64 z2')).setCell ⟨w.heap.size + 1, 11, none⟩ (.int .i64 z3')) w.heap.size (evCells Ev.zero nilV nilV)) := (((EA4.out.other (by simp) _).other (by simp) _).other (by simp) _).other (by simp) _
                      have EBY : Hid (EvAt ((((w4.setCell ⟨w.heap.size + 1, 8, none⟩ (.int .i64 z0)).setCell ⟨w.heap.size + 1, 9, none⟩ (.int .i64 z1')).setCell ⟨w.heap.size + 1, 10, none⟩ (.int .i64 z2')).setCell ⟨w.heap.size + 1, 11, none⟩ (.int .i64 z3')) (w.heap.size + 1) (evCells ⟨4, ⟨#[]⟩, [], 0, st, nm, fr, false, z0, z1', z2', z3', []⟩ nilV nilV)) := (((EB4.out.set 8 (by omega) _).set 9 (by omega) _).set 10 (by omega) _).set 11 (by omega) _
                      have HY : Hid (Below w.heap.size w ((((w4.setCell ⟨w.heap.size + 1, 8, none⟩ (.int .i64 z0)).setCell ⟨w.heap.size + 1, 9, none⟩ (.int .i64 z1')).setCell ⟨w.heap.size + 1, 10, none⟩ (.int .i64 z2')).setCell ⟨w.heap.size + 1, 11, none⟩ (.int .i64 z3'))) := (((HB4.out.setCell (by simp) _).setCell (by simp) _).setCell (by simp) _).setCell (by simp) _
                      go_wp2_with fail
                      all_goals
                        refine (rbiases_any _ r' _ (Hdr.out _ HY.out _ _ ?_ ?_)).mono ?_
                        · omega
                        · intro h; first | rfl | (exfalso; omega)
                        rintro e w5 ⟨cv, l, ok, rfl, hbi, hown, ⟨ca, cn, cc, rfl⟩, hb3⟩
                        have EA3 := Lib.hid (EAY.out.below hb3)
                        have EB3 := Lib.hid (EBY.out.below hb3)
                        have HB3 := Lib.hid (below_then HY.out hb3)
                        have Hbi := Lib.hid hbi
                        have Hown := Lib.hid hown
                        have HWs : Hid (w.heap.size + 1 < _) := EBY.out.lt
                        have b12 : w5.cell? ⟨w.heap.size + 1, 12, none⟩ = some nilV := EB3.out.2.1 12 (by omega)
                        have d12 : w5.frozen? ⟨w.heap.size + 1, 12, none⟩ = false := EB3.out.2.2 12 (by omega)
                        have EA4 : Hid (EvAt (w5.setCell ⟨w.heap.size + 1, 12, none⟩ (.slice ca cn cc)) w.heap.size (evCells Ev.zero nilV nilV)) := EA3.out.other (by simp) _
                        have EB4 : Hid (EvAt (w5.setCell ⟨w.heap.size + 1, 12, none⟩ (.slice ca cn cc)) (w.heap.size + 1) (evCells ⟨4, ⟨#[]⟩, [], 0, st, nm, fr, false, z0, z1', z2', z3', []⟩ nilV (.slice ca cn cc))) := EB3.out.set 12 (by omega) _
                        have HB4 : Hid (Below w.heap.size w (w5.setCell ⟨w.heap.size + 1, 12, none⟩ (.slice ca cn cc))) := HB3.out.setCell (by simp) _
                        clear hbi hown hb3
                        cases ok with
                        | false =>
                          go_wp2_with (first | (refine ev_load rfl _ rfl _ rfl _ EB4.out ?_) | (refine ev_store rfl _ _ rfl _ rfl _ (evCells ⟨4, ⟨#[]⟩, [], 0, st, nm, fr, false, z0, z1', z2', z3', []⟩ nilV (.slice ca cn cc)) rfl EA4.out rfl (evCells_one _ rfl rfl) ?_; intro wz EZ HZ))
                          refine ret_ev rfl _ _ _ EZ rfl rfl rfl ?_
                          exact Hbad.out _ ⟨4, ⟨#[]⟩, [], 0, st, nm, fr, false, z0, z1', z2', z3', []⟩ nilV (.slice ca cn cc) rfl rfl (Below.trans HB4.out (HZ.below (Nat.le_refl _))) (by rw [Hf3.out, Hnums.out, Hbi.out]; rfl)
                        | true =>
                          go_wp2_with (first | (refine ev_load rfl _ rfl _ rfl _ EB4.out ?_) | (refine ev_store rfl _ _ rfl _ rfl _ (evCells ⟨4, ⟨#[]⟩, [], 0, st, nm, fr, false, z0, z1', z2', z3', []⟩ nilV (.slice ca cn cc)) rfl EA4.out rfl (evCells_one _ rfl rfl) ?_; intro wz EZ HZ))
                          refine ret_ev rfl _ _ _ EZ rfl rfl rfl ?_
                          have hbi : biasF r' = some l := Hbi.out.trans (if_pos (by simp))
                          obtain ⟨ho, hle⟩ := Hown.out (by simp)
                          have hrl : r'.length ≤ 2000000 := by obtain ⟨_, _, _, _, _, hh, _⟩ := Hin.out; simp at hh; omega
                          have hpi := ((biasF_iff _ _).1 hbi).1
                          have h0 := BiasIn.of_own ho (by omega) (fun p hp => ⟨not_long (hpi p hp).1, not_long (hpi p hp).2⟩)
                          have h1 := h0.kept (b := w.heap.size + 1) (w' := w5.setCell ⟨w.heap.size + 1, 12, none⟩ (.slice ca cn cc)) (fun k _ hn _ => Below.heap_setCell _ _ _ _ (fun e => hn e)) (Or.inl HWs.out)
                          have h2 := h1.kept (b := w.heap.size) (w' := wz) (fun k _ hn _ => HZ.2.2.2.2 k hn) (Or.inl (Nat.lt_of_le_of_lt (Nat.le_succ _) HWs.out))
                          refine ⟨⟨4, ⟨#[]⟩, [], 0, st, nm, fr, false, z0, z1', z2', z3', l⟩, nilV, .slice ca cn cc, true, rfl, ?_, fun _ => ⟨?_, BytesF.nil _ _, h2.mono (Nat.le_of_lt (Nat.lt_of_le_of_lt (Nat.le_succ _) HWs.out))⟩, rfl, rfl, Below.trans HB4.out (HZ.below (Nat.le_refl _))⟩
                          · rw [if_pos rfl, Hf3.out, Hnums.out, hbi]; rfl
                          · exact ⟨by show I64 4; unfold I64; omega, by simp [ByteArray.size], I64.zero, by show I64 st; unfold I64; omega, z1, Hfr.out, not_long (Hzl.out z0 (by simp)), not_long (Hzl.out z1' (by simp)), not_long (Hzl.out z2' (by simp)), not_long (Hzl.out z3' (by simp))⟩
                  · skip
                    have Hno : Hid (stF (k :: nm :: f :: c :: r) = none) := by
                      unfold Hid
                      rw [Hfin.out, if_neg Hc.out, if_pos Ha.out]
                      have := Hm.out
                      match r, this with
                      | [], _ => rfl
                      | [x], _ => rfl
                      | [x, y], _ => rfl
                      | [x, y, z], _ => rfl
                      | x :: y :: z :: u :: v, h => exact absurd h (by simp; omega)
                    clear Hfin
                    go_wp2_with (first | (refine ev_load rfl _ rfl _ rfl _ EBX.out ?_) | (refine ev_store rfl _ _ rfl _ rfl _ (evCells ⟨4, ⟨#[]⟩, [], 0, st, nm, fr, false, 0, 0, 0, 0, []⟩ nilV nilV) rfl EAX.out rfl (evCells_one _ rfl rfl) ?_; intro wz EZ HZ))
                    all_goals
                      refine ret_ev rfl _ _ _ EZ rfl rfl rfl ?_
                      exact Hbad.out _ ⟨4, ⟨#[]⟩, [], 0, st, nm, fr, false, 0, 0, 0, 0, []⟩ nilV nilV rfl rfl (Below.trans HX.out (HZ.below (Nat.le_refl _))) Hno.out
  · have hb3 : stF ws = none := by
      match ws, h4 with
      | [], _ => rfl
      | [x], _ => rfl
      | [x, y], _ => rfl
      | [x, y, z], _ => rfl
      | x :: y :: z :: t :: u, h => exact absurd (by simp) h
    have Hb3 := Lib.hid hb3
    clear hb3
    obtain ⟨a, cap, rfl, _⟩ := h
    generalize ws.length = n at *
    go_enter Tryz.func65, Tryz.ntmps65
    go_wp2_with fail
    refine bodyPost_ret (v := .tuple #[(stEv 0).val nilV nilV, .bool false]) (by simp [results, Tryz.results65, go_sem, Ev.val, evCells, stEv]) rfl (Hbad.out _ _ _ _ rfl rfl ?_ Hb3.out)
    exact ((Below.refl _ _).alloc (Nat.le_refl _) _).alloc (by simp) _ |> fun hh => (by repeat (first | exact hh | refine Below.setCell ?_ (by simp) _))
end Go.Proofs.YtobaoekibnloiaaGreatDoor
/- The reference's event: the words of a line. -/
namespace Go.Proofs.YtobaoekibnloiaaGreatDoor
open Go Go.RowKit

theorem ok_of {y : Ev} (h1 : I64 y.kind) (h2 : y.text.size ≤ 1000000) (h3 : I64 y.n) (h : y.station = 0 ∧ y.name = ⟨#[]⟩ ∧ y.start = 0 ∧ y.face = 0 ∧ y.pa = 0 ∧ y.pb = 0 ∧ y.pc = 0) : y.Ok := by
  obtain ⟨e1, e2, e3, e4, e5, e6, e7⟩ := h
  exact ⟨h1, h2, h3, by rw [e1]; exact I64.zero, by rw [e2]; simp [ByteArray.size], by rw [e3]; exact I64.zero, by rw [e4]; exact I64.zero, by rw [e5]; exact I64.zero, by rw [e6]; exact I64.zero, by rw [e7]; exact I64.zero⟩
def kEv (k : Int) : Ev := ⟨k, ⟨#[]⟩, [], 0, 0, ⟨#[]⟩, 0, false, 0, 0, 0, 0, []⟩
def nEv (k n : Int) : Ev := ⟨k, ⟨#[]⟩, [], n, 0, ⟨#[]⟩, 0, false, 0, 0, 0, 0, []⟩
def tEv (t : ByteArray) : Ev := ⟨1, t, [], 0, 0, ⟨#[]⟩, 0, false, 0, 0, 0, 0, []⟩
def bEv (l : List UInt8) : Ev := ⟨2, ⟨#[]⟩, l, 0, 0, ⟨#[]⟩, 0, false, 0, 0, 0, 0, []⟩
theorem I64.small {n : Int} (h1 : 0 ≤ n) (h2 : n ≤ 100) : I64 n := by unfold I64; omega

/-- Bytes of the call's own as a string. -/
theorem own_str {w : World} {base : Nat} {v : Value} {l : List UInt8} (h : w.ownsRow base 5 1 v l.length (bcs l)) : ∃ (a : Option Addr) (n c : Nat), v = .slice a n c ∧ (convert 22 9 v).run Tryz.prog w = .ok (.string (mkB l)) w := by
  rcases Nat.eq_zero_or_pos l.length with h0 | h0
  · obtain rfl : l = [] := List.eq_nil_of_length_eq_zero h0
    rcases h.2 with ⟨e, _⟩ | ⟨g, cap, cur, e, _⟩
    · refine ⟨_, _, _, e, ?_⟩
      rw [e]
      exact run_convert_bytes_nil w 22 5 Tryz.underlying22 Tryz.underlying5 0 0 9 Tryz.underlying9
    · refine ⟨_, _, _, e, ?_⟩
      rw [e]
      exact run_convert_bytes_back (P := Tryz.prog) w 22 9 5 ⟨g, 0, none⟩ cap [] Tryz.underlying22 Tryz.underlying5 Tryz.underlying9 (fun j hj => by simp at hj)
  · obtain ⟨g, cap, e, hc⟩ := own_back h h0
    exact ⟨_, _, _, e, by rw [e]; exact hc⟩
set_option maxHeartbeats 8000000 in
set_option maxRecDepth 100000 in
theorem revent_any (v : Value) (ws : List ByteArray) (w : World) (h : StrsIn w v ws) (h0 : ws ≠ []) :
    Calls Tryz.prog 43 #[v] w (EvIs (evF ws) w) := by
  obtain ⟨k, r, rfl⟩ : ∃ k r, ws = k :: r := by
    cases ws with
    | nil => exact absurd rfl h0
    | cons k r => exact ⟨k, r, rfl⟩
  have Hin := Lib.hid h
  have Hbad : Hid (∀ wx y bv cv, bv.oneCell' = true → cv.oneCell' = true → Below w.heap.size w wx → evF (k :: r) = none → EvIs (evF (k :: r)) w (.returned (.tuple #[Ev.val y bv cv, .bool false])) wx) := by
    intro wx y bv cv ho1 ho2 hx hno
    exact ⟨y, bv, cv, false, rfl, by rw [if_neg (by simp)]; exact hno, fun h => absurd h (by simp), ho1, ho2, hx⟩
  obtain ⟨ab, ao, cap, rfl, hc1, hc2⟩ := h.ne (by simp)
  have q0 := (h.at 0 (by simp)).1
  simp only [List.getElem_cons_zero, Nat.add_zero] at q0
  have hab : ab < w.heap.size := World.block_lt_of_cell? (a := ⟨ab, ao, none⟩) _ q0
  have EA : Hid (EvAt (w.alloc (.cells (evCells Ev.zero nilV nilV).toArray 36)) w.heap.size (evCells Ev.zero nilV nilV)) := EvAt.new _ _ rfl _
  have HB : Hid (Below w.heap.size w (w.alloc (.cells (evCells Ev.zero nilV nilV).toArray 36))) := (Below.refl _ _).alloc (Nat.le_refl _) _
  simp only [evCells, Ev.zero, nilV] at EA HB
  have kr := (kw_list kwRepeat k [114, 101, 112, 101, 97, 116] rfl).2
  have ks := (kw_list kwStation k [115, 116, 97, 116, 105, 111, 110] rfl).2
  have kt := (kw_list kwTick k [116, 105, 99, 107] rfl).2
  have kc := (kw_list kwCrash k [99, 114, 97, 115, 104] rfl).2
  have kx := (kw_list kwText k [116, 101, 120, 116] rfl).2
  have kb := (kw_list kwBinary k [98, 105, 110, 97, 114, 121] rfl).2
  by_cases hr : k = kwRepeat
  · rw [decide_eq_true hr] at kr
    have Hr := Lib.hid hr
    clear hr ks kt kc kx kb
    cases r with
    | nil =>
      simp only [List.length_cons, List.length_nil] at hc1 ⊢
      clear h
      go_enter Tryz.func43, Tryz.ntmps43
      go_wp2_with (refine ev_store rfl _ _ rfl _ rfl _ (evCells (kEv 6) nilV nilV) rfl EA.out rfl (evCells_one _ rfl rfl) ?_; intro wz EZ HZ)
      refine ret_ev rfl _ _ _ EZ rfl rfl rfl ?_
      refine ⟨kEv 6, nilV, nilV, true, rfl, ?_, fun _ => ⟨ok_of (I64.small (by simp [kEv]) (by simp [kEv])) (by simp [kEv, ByteArray.size]) I64.zero ⟨rfl, rfl, rfl, rfl, rfl, rfl, rfl⟩, BytesF.nil _ _, BiasIn.nil _ _⟩, rfl, rfl, Below.trans HB.out (HZ.below (Nat.le_refl _))⟩
      rw [Hr.out]; simp [evF, kEv]
    | cons x t =>
      have Hno : Hid (evF (k :: x :: t) = none) := by unfold Hid; rw [Hr.out]; simp [evF]
      have hl2 : ((k :: x :: t).length : Int) = (t.length : Int) + 2 := by simp; omega
      have hn2 : (k :: x :: t).length = t.length + 2 := rfl
      rw [hn2] at hc1 ⊢
      generalize t.length = n at *
      clear h hl2 hn2
      have hne : ((n : Int) + 2 == 1) = false := by simp; omega
      go_enter Tryz.func43, Tryz.ntmps43
      go_wp2_with (refine ev_store rfl _ _ rfl _ rfl _ (evCells (kEv 6) nilV nilV) rfl EA.out rfl (evCells_one _ rfl rfl) ?_; intro wz EZ HZ)
      refine ret_ev rfl _ _ _ EZ rfl rfl rfl ?_
      exact Hbad.out _ (kEv 6) nilV nilV rfl rfl (Below.trans HB.out (HZ.below (Nat.le_refl _))) Hno.out
  · rw [decide_eq_false hr] at kr
    by_cases hs : k = kwStation
    · rw [decide_eq_true hs] at ks
      have Hev : Hid (evF (k :: r) = stF r) := by unfold Hid; rw [hs]; simp [evF, show kwStation ≠ kwRepeat by decide]
      have Htl : Hid (∀ w', Below w.heap.size w w' → ∀ A c', c' = cap - 1 → (0 < r.length → A = some ⟨ab, ao + 1, none⟩) → StrsIn w' (.slice A r.length c') r) := by
        intro w' hb A c' hc' hA
        subst hc'
        have h3 := (Hin.out.below hb).drop 1 (by simp) A (fun h => hA (by simp at h; omega))
        simpa using h3
      have hn : (k :: r).length = r.length + 1 := rfl
      rw [hn] at hc1 ⊢
      clear hr hs kt kc kx kb h hn
      generalize hm : r.length = m at *
      have Hm := Lib.hid hm
      clear hm
      go_enter Tryz.func43, Tryz.ntmps43
      go_wp2_with fail
      all_goals
        refine (rstation_any _ r _ (Htl.out _ HB.out _ _ ?_ ?_)).mono ?_
        · omega
        · intro h; first | rfl | (exfalso; omega)
        rintro e w1 ⟨y, bv, cv, ok, rfl, ho, hparts, hbo, hco, hb1⟩
        have EA1 := Lib.hid (EA.out.below hb1)
        have HB1 := Lib.hid (below_then HB.out hb1)
        have Ho := Lib.hid ho
        have Hp := Lib.hid hparts
        have Hsz := Lib.hid hb1.size
        have Hbo := Lib.hid (And.intro hbo hco)
        clear ho hparts hbo hco hb1
        go_wp2_with (refine ev_store rfl _ _ rfl _ rfl _ (evCells y bv cv) rfl EA1.out rfl (evCells_one _ Hbo.out.1 Hbo.out.2) ?_; intro wz EZ HZ)
        refine ret_ev rfl _ _ _ EZ rfl rfl rfl ?_
        refine ⟨y, bv, cv, ok, rfl, ?_, fun hq => ?_, Hbo.out.1, Hbo.out.2, Below.trans HB1.out (HZ.below (Nat.le_refl _))⟩
        · rw [Hev.out]; exact Ho.out
        · have h1 := Hp.out hq
          have h2 : w.heap.size < (w.alloc (.cells (evCells Ev.zero nilV nilV).toArray 36)).heap.size := by simp
          exact (HZ.parts h1 h2).mono (Nat.le_of_lt h2)
    · rw [decide_eq_false hs] at ks
      have hk2 : ∀ x, evF [k, x] = if k = kwTick then (numF x).map fun n => nEv 3 n else if k = kwCrash then (numF x).map fun n => nEv 5 n else if k = kwText then (dataOf x).map fun l => tEv (mkB l) else if k = kwBinary then (dataOf x).map fun l => bEv l else none := by
        intro x; simp only [evF, if_neg hr, if_neg hs]; rfl
      have hk0 : (∀ x, r ≠ [x]) → evF (k :: r) = none := by
        intro h; simp only [evF, if_neg hr, if_neg hs]
      by_cases hl2 : r.length = 1
      · obtain ⟨x, rfl⟩ : ∃ x, r = [x] := List.length_eq_one_iff.1 hl2
        have q1 := (h.at 1 (by simp)).1
        have z1 := (h.at 1 (by simp)).2
        simp only [List.getElem_cons_zero, List.getElem_cons_succ] at q1 z1
        simp only [List.length_cons, List.length_nil] at hc1 ⊢
        have Hk2 := Lib.hid (hk2 x)
        have HQ : Hid (∀ w', Below w.heap.size w w' → w'.cell? ⟨ab, ao, none⟩ = some (.string k) ∧ w'.cell? ⟨ab, ao + 1, none⟩ = some (.string x)) := fun w' hb => ⟨cell_then hb q0, cell_then hb q1⟩
        clear hk2 hk0 hl2 h hr hs
        go_enter Tryz.func43, Tryz.ntmps43
        go_wp2_with fail
        refine (rnumber_any x z1 _).mono ?_
        intro e w1 hr1
        obtain ⟨n, ok, hn, rfl, hnum, hb1⟩ := rnum_out hr1
        have EA1 := Lib.hid (EA.out.below hb1)
        have HB1 := Lib.hid (below_then HB.out hb1)
        have Hn := Lib.hid hn
        have Hnum := Lib.hid hnum
        clear hn hnum hr1 hb1 q0 q1
        obtain ⟨q0, q1⟩ := HQ.out _ HB1.out
        go_wp2_with fail
        refine (rdata_any x z1 w1).mono ?_
        rintro e w2 ⟨dv, l, rfl, hown, hdl, hd, hb2⟩
        obtain ⟨da, dn, dc, rfl, hconv⟩ := own_str hown
        have EA2 := Lib.hid (EA1.out.below hb2)
        have HB2 := Lib.hid (below_then HB1.out hb2)
        have Hown := Lib.hid hown
        have Hd := Lib.hid hd
        have Hdl := Lib.hid hdl
        have Hsz := Lib.hid hb2.size
        have Hlt1 : Hid (w.heap.size < w1.heap.size) := EA1.out.lt
        obtain ⟨dq, hdq⟩ : ∃ dq, dq = (dataOf x).isSome := ⟨_, rfl⟩
        rw [← hdq]
        have Hdq := Lib.hid hdq
        clear hb2 q0 q1 hown hd hdl hdq
        obtain ⟨q0, q1⟩ := HQ.out _ HB2.out
        by_cases h3 : k = kwTick
        · rw [decide_eq_true h3] at kt
          have He : Hid (evF [k, x] = (numF x).map fun n => nEv 3 n) := by unfold Hid; rw [Hk2.out, if_pos h3]
          clear h3 kc kx kb hconv
          go_wp2_with (refine ev_store rfl _ _ rfl _ rfl _ (evCells (nEv 3 n) nilV nilV) rfl EA2.out rfl (evCells_one _ rfl rfl) ?_; intro wz EZ HZ)
          refine ret_ev rfl _ _ _ EZ rfl rfl rfl ?_
          refine ⟨nEv 3 n, nilV, nilV, ok, rfl, ?_, fun hq => ⟨ok_of (I64.small (by simp [nEv]) (by simp [nEv])) (by simp [nEv, ByteArray.size]) Hn.out ⟨rfl, rfl, rfl, rfl, rfl, rfl, rfl⟩, BytesF.nil _ _, BiasIn.nil _ _⟩, rfl, rfl, Below.trans HB2.out (HZ.below (Nat.le_refl _))⟩
          rw [He.out, Hnum.out]; cases ok <;> rfl
        · rw [decide_eq_false h3] at kt
          by_cases h4 : k = kwCrash
          · rw [decide_eq_true h4] at kc
            have He : Hid (evF [k, x] = (numF x).map fun n => nEv 5 n) := by unfold Hid; rw [Hk2.out, if_neg h3, if_pos h4]
            clear h3 h4 kx kb hconv
            go_wp2_with (refine ev_store rfl _ _ rfl _ rfl _ (evCells (nEv 5 n) nilV nilV) rfl EA2.out rfl (evCells_one _ rfl rfl) ?_; intro wz EZ HZ)
            refine ret_ev rfl _ _ _ EZ rfl rfl rfl ?_
            refine ⟨nEv 5 n, nilV, nilV, ok, rfl, ?_, fun hq => ⟨ok_of (I64.small (by simp [nEv]) (by simp [nEv])) (by simp [nEv, ByteArray.size]) Hn.out ⟨rfl, rfl, rfl, rfl, rfl, rfl, rfl⟩, BytesF.nil _ _, BiasIn.nil _ _⟩, rfl, rfl, Below.trans HB2.out (HZ.below (Nat.le_refl _))⟩
            rw [He.out, Hnum.out]; cases ok <;> rfl
          · rw [decide_eq_false h4] at kc
            by_cases h5 : k = kwText
            · rw [decide_eq_true h5] at kx
              have He : Hid (evF [k, x] = (dataOf x).map fun l => tEv (mkB l)) := by unfold Hid; rw [Hk2.out, if_neg h3, if_neg h4, if_pos h5]
              clear h3 h4 h5 kb
              go_wp2_with (refine ev_store rfl _ _ rfl _ rfl _ (evCells (tEv (mkB l)) nilV nilV) rfl EA2.out rfl (evCells_one _ rfl rfl) ?_; intro wz EZ HZ)
              refine ret_ev rfl _ _ _ EZ rfl rfl rfl ?_
              refine ⟨tEv (mkB l), nilV, nilV, dq, rfl, ?_, fun hq => ⟨ok_of (I64.small (by simp [tEv]) (by simp [tEv])) (by show (mkB l).size ≤ _; unfold mkB; rw [ByteArray.size, List.size_toArray]; exact Hdl.out) I64.zero ⟨rfl, rfl, rfl, rfl, rfl, rfl, rfl⟩, BytesF.nil _ _, BiasIn.nil _ _⟩, rfl, rfl, Below.trans HB2.out (HZ.below (Nat.le_refl _))⟩
              rw [He.out, Hdq.out, ← Hd.out]; cases dataOf x <;> rfl
            · rw [decide_eq_false h5] at kx
              by_cases h6 : k = kwBinary
              · rw [decide_eq_true h6] at kb
                have He : Hid (evF [k, x] = (dataOf x).map fun l => bEv l) := by unfold Hid; rw [Hk2.out, if_neg h3, if_neg h4, if_neg h5, if_pos h6]
                clear h3 h4 h5 h6 hconv
                go_wp2_with (refine ev_store rfl _ _ rfl _ rfl _ (evCells (bEv l) (.slice da dn dc) nilV) rfl EA2.out rfl (evCells_one _ rfl rfl) ?_; intro wz EZ HZ)
                refine ret_ev rfl _ _ _ EZ rfl rfl rfl ?_
                refine ⟨bEv l, .slice da dn dc, nilV, dq, rfl, ?_, fun hq => ⟨ok_of (I64.small (by simp [bEv]) (by simp [bEv])) (by simp [bEv, ByteArray.size]) I64.zero ⟨rfl, rfl, rfl, rfl, rfl, rfl, rfl⟩, ?_, BiasIn.nil _ _⟩, rfl, rfl, Below.trans HB2.out (HZ.below (Nat.le_refl _))⟩
                · rw [He.out, Hdq.out, ← Hd.out]; cases dataOf x <;> rfl
                · have h0 := (BytesF.of_own Hown.out Hdl.out).kept (b := w.heap.size) (w' := wz) (fun k _ hn _ => HZ.2.2.2.2 k hn) (Or.inl Hlt1.out)
                  exact h0.mono (Nat.le_of_lt Hlt1.out)
              · rw [decide_eq_false h6] at kb
                have He : Hid (evF [k, x] = none) := by unfold Hid; rw [Hk2.out, if_neg h3, if_neg h4, if_neg h5, if_neg h6]
                clear h3 h4 h5 h6 hconv
                go_wp2_with (refine ev_store rfl _ _ rfl _ rfl _ (evCells (kEv 0) nilV nilV) rfl EA2.out rfl (evCells_one _ rfl rfl) ?_; intro wz EZ HZ)
                refine ret_ev rfl _ _ _ EZ rfl rfl rfl ?_
                exact Hbad.out _ (kEv 0) nilV nilV rfl rfl (Below.trans HB2.out (HZ.below (Nat.le_refl _))) He.out
      · have Hno := Lib.hid (hk0 (fun x e => hl2 (by rw [e]; rfl)))
        have hn : (k :: r).length = r.length + 1 := rfl
        rw [hn] at hc1 ⊢
        have hne : ((r.length : Int) + 1 != 2) = true := by simp; omega
        clear hk2 hk0 hr hs kt kc kx kb h hn
        generalize r.length = m at *
        go_enter Tryz.func43, Tryz.ntmps43
        go_wp2_with (refine ev_store rfl _ _ rfl _ rfl _ (evCells (kEv 0) nilV nilV) rfl EA.out rfl (evCells_one _ rfl rfl) ?_; intro wz EZ HZ)
        refine ret_ev rfl _ _ _ EZ rfl rfl rfl ?_
        exact Hbad.out _ (kEv 0) nilV nilV rfl rfl (Below.trans HB.out (HZ.below (Nat.le_refl _))) Hno.out
end Go.Proofs.YtobaoekibnloiaaGreatDoor
/- The reference's Line. -/
namespace Go.Proofs.YtobaoekibnloiaaGreatDoor
open Go Go.RowKit

theorem words_in {s : ByteArray} {w w1 : World} {v : Value} (hs : s.size ≤ 1000000) (h : w1.ownsRow w.heap.size 9 1 v (accTo 32 s (s.size + 1)).1.length ((accTo 32 s (s.size + 1)).1.map Value.string)) : StrsIn w1 v (cutB 32 s) := by
  rw [accTo_cut] at h
  exact StrsIn.of_own h (by have := cutB_length 32 s; omega) (fun x hx => by have := cutB_part 32 s x hx; omega)

set_option maxHeartbeats 2000000 in
set_option maxRecDepth 100000 in
theorem rline_any (s : ByteArray) (hs : s.size ≤ 1000000) (w : World) :
    Calls Tryz.prog 24 #[.string s] w (LineIs s w) := by
  have HS := Lib.hid hs
  have EA : Hid (EvAt (w.alloc (.cells (evCells Ev.zero nilV nilV).toArray 36)) w.heap.size (evCells Ev.zero nilV nilV)) := EvAt.new _ _ rfl _
  have HB : Hid (Below w.heap.size w (w.alloc (.cells (evCells Ev.zero nilV nilV).toArray 36))) := (Below.refl _ _).alloc (Nat.le_refl _) _
  simp only [evCells, Ev.zero, nilV] at EA HB
  clear hs
  go_enter Tryz.func24, Tryz.ntmps24
  go_wp2_with fail
  refine (rwords_any s HS.out _).mono ?_
  rintro e w1 ⟨v, rfl, hown, hb1⟩
  have Hst := Lib.hid (words_in HS.out hown)
  have EA1 := Lib.hid (EA.out.below hb1)
  have HB1 := Lib.hid (below_then HB.out hb1)
  clear hown hb1
  go_wp2_with fail
  refine (revent_any v _ w1 Hst.out (cutB_ne 32 s)).mono ?_
  rintro e w2 ⟨y, bv, cv, ok, rfl, ho, hp, hbo, hco, hb2⟩
  have EA2 := Lib.hid (EA1.out.below hb2)
  have HB2 := Lib.hid (below_then HB1.out hb2)
  have Ho := Lib.hid ho
  have Hp := Lib.hid hp
  have Hbo := Lib.hid (And.intro hbo hco)
  have Hlt : Hid (w.heap.size < w1.heap.size) := EA1.out.lt
  clear ho hp hbo hco hb2
  have EN : Hid (EvAt (w2.alloc (.cells (evCells Ev.zero nilV nilV).toArray 36)) w2.heap.size (evCells Ev.zero nilV nilV)) := EvAt.new _ _ rfl _
  simp only [evCells, Ev.zero, nilV] at EN
  have Hne : Hid (w.heap.size < w2.heap.size) := EA2.out.lt
  have HB3 := Lib.hid (HB2.out.alloc HB2.out.size (.cells (evCells Ev.zero nilV nilV).toArray 36))
  simp only [evCells, Ev.zero, nilV] at HB3
  have Hfin : Hid (∀ w3 wz z dv ev, Apart w2.heap.size (w2.alloc (.cells (evCells Ev.zero nilV nilV).toArray 36)) w3 → Apart w.heap.size w3 wz → EvParts w1.heap.size w2 z dv ev → EvParts w.heap.size wz z dv ev ∧ Below w.heap.size w wz) := by
    intro w3 wz z dv ev h1 h2 hp
    refine ⟨?_, HB3.out.trans ((h1.below (Nat.le_of_lt Hne.out)).trans (h2.below (Nat.le_refl _)))⟩
    have h3 := hp.kept (b := w2.heap.size) (w' := w3) (fun k _ hn hk => by rw [h1.2.2.2.2 k hn, Below.heap_alloc _ _ _ hk]) (Or.inr (Nat.le_refl _))
    exact (h2.parts h3 Hlt.out).mono (Nat.le_of_lt Hlt.out)
  simp only [Ev.val]
  cases ok with
  | false =>
    go_wp2_with (first
      | (refine ev_store rfl _ _ rfl _ rfl _ (evCells y bv cv) rfl EN.out rfl (evCells_one _ Hbo.out.1 Hbo.out.2) ?_; intro w3 E3 H3; have EA3 := (EA2.out.alloc _).apart H3 (Nat.ne_of_lt Hne.out))
      | (refine ev_store rfl _ _ rfl _ rfl _ (evCells Ev.zero nilV nilV) rfl EA3 rfl (evCells_one _ rfl rfl) ?_; intro wz EZ HZ))
    refine ret_ev rfl _ _ _ EZ rfl rfl rfl ?_
    obtain ⟨f1, f2⟩ := Hfin.out w3 wz Ev.zero nilV nilV H3 HZ (zero_parts _ _)
    refine ⟨Ev.zero, nilV, nilV, 3, rfl, ?_, f1, rfl, rfl, f2⟩
    unfold lineF
    rw [Ho.out]
    exact ⟨rfl, rfl⟩
  | true =>
    go_wp2_with (first
      | (refine ev_load rfl _ rfl _ rfl _ E3 ?_)
      | (refine ev_store rfl _ _ rfl _ rfl _ (evCells y bv cv) rfl EN.out rfl (evCells_one _ Hbo.out.1 Hbo.out.2) ?_; intro w3 E3 H3; have EA3 := (EA2.out.alloc _).apart H3 (Nat.ne_of_lt Hne.out))
      | (refine ev_store rfl _ _ rfl _ rfl _ (evCells y bv cv) rfl EA3 rfl (evCells_one _ Hbo.out.1 Hbo.out.2) ?_; intro wz EZ HZ))
    refine ret_ev rfl _ _ _ EZ rfl rfl rfl ?_
    obtain ⟨f1, f2⟩ := Hfin.out w3 wz y bv cv H3 HZ (Hp.out (by simp))
    refine ⟨y, bv, cv, 0, rfl, ?_, f1, Hbo.out.1, Hbo.out.2, f2⟩
    unfold lineF
    rw [Ho.out]
    exact ⟨rfl, rfl⟩
end Go.Proofs.YtobaoekibnloiaaGreatDoor
/- Lists of events of the call's own. No walk. -/
namespace Go.Proofs.YtobaoekibnloiaaGreatDoor
open Go Go.RowKit

abbrev Evl := Ev × Value × Value
/-- Events as cells, one after the other. -/
def ecells (L : List Evl) : List Value := L.flatMap fun p => evCells p.1 p.2.1 p.2.2
theorem ecells_append (a b : List Evl) : ecells (a ++ b) = ecells a ++ ecells b := by simp [ecells]
theorem ecells_at : ∀ (L : List Evl) (i : Nat) (h : i < L.length) (j : Nat), j < 13 → (ecells L)[i * 13 + j]? = (evCells L[i].1 L[i].2.1 L[i].2.2)[j]?
  | p :: r, 0, _, j, hj => by
    show (evCells p.1 p.2.1 p.2.2 ++ ecells r)[0 * 13 + j]? = _
    rw [Nat.zero_mul, Nat.zero_add, List.getElem?_append_left (by show j < 13; exact hj)]; rfl
  | p :: r, i + 1, h, j, hj => by
    show (evCells p.1 p.2.1 p.2.2 ++ ecells r)[(i + 1) * 13 + j]? = _
    rw [List.getElem?_append_right (by show 13 ≤ _; omega)]
    have e : (i + 1) * 13 + j - (evCells p.1 p.2.1 p.2.2).length = i * 13 + j := by show _ - 13 = _; omega
    rw [e]
    exact ecells_at r i (by simpa using h) j hj
/-- v is a slice of events of the call's own; their bytes and biases lie in blocks from B on. -/
def OwnE (w : World) (base B : Nat) (v : Value) (L : List Evl) : Prop := w.ownsRow base 36 13 v L.length (ecells L) ∧ ∀ p ∈ L, EvParts B w p.1 p.2.1 p.2.2
theorem OwnE.nil (w : World) (base B : Nat) : OwnE w base B (.slice none 0 0) [] := ⟨World.ownsRow_nil w base _ 13, by simp⟩
theorem OwnE.below {w w' : World} {base B : Nat} {v : Value} {L : List Evl} (h : OwnE w base B v L) (hb : Below w.heap.size w w') : OwnE w' base B v L := ⟨ownsRow_below h.1 hb, fun p hp => (h.2 p hp).below hb⟩
theorem OwnE.but {w w' : World} {base B b : Nat} {v : Value} {L : List Evl} (h : OwnE w base B v L) (hb : But w.heap.size b w w') (h1 : b < base) (h2 : b < B) : OwnE w' base B v L := ⟨ownsRow_but h.1 hb h1, fun p hp => (h.2 p hp).kept (Kept.of_but hb) (Or.inl h2)⟩
theorem OwnE.evs {w : World} {base B : Nat} {v : Value} {L : List Evl} (h : OwnE w base B v L) (hl : L.length ≤ 1000000) : EvsIn B w v (L.map (·.1)) := by
  have h' := h.1
  obtain ⟨⟨h1, h2⟩, hp⟩ := h
  rcases h2 with ⟨e, h0⟩ | ⟨g, cap, cur, e, hg, hh, hc, _⟩
  · exact ⟨none, 0, by rw [e, List.length_map, h0], by rw [List.length_map]; exact hl, fun i hi => by rw [List.length_map] at hi; omega⟩
  · refine ⟨_, cap, by rw [List.length_map]; exact e, by rw [List.length_map]; exact hl, fun i hi => ?_⟩
    rw [List.length_map] at hi
    refine ⟨g, 0, L[i].2.1, L[i].2.2, rfl, ?_, ?_⟩
    · intro j u hj
      have hlt : j < 13 := (List.getElem?_eq_some_iff.1 hj).1
      rw [List.getElem_map] at hj
      rw [← ecells_at L i hi j hlt] at hj
      have := own_cells h' e hj
      rw [Nat.zero_add]; exact this
    · rw [List.getElem_map]; exact hp _ (List.getElem_mem hi)
/-- What a literal of one event lays. -/
theorem ev_fold (y : Ev) (bv cv : Value) : List.foldl (fun (cs : Array Value) (x : Value × Nat) => cs.setIfInBounds x.snd x.fst) #[Value.int .i64 0, .string ⟨#[]⟩, .slice none 0 0, .int .i64 0, .int .i64 0, .string ⟨#[]⟩, .int .i64 0, .bool false, .int .i64 0, .int .i64 0, .int .i64 0, .int .i64 0, .slice none 0 0] (evCells y bv cv).zipIdx = (evCells y bv cv).toArray := by
  simp [evCells]
theorem evinfo : (Tryz.prog.info? 36).map (fun i => (i.zero, i.size, i.bytes)) = some (some (Ev.val Ev.zero nilV nilV), 13, 152) := by kernel_rfl
theorem append_ev {w : World} {base B : Nat} {v : Value} {L : List Evl} (h : OwnE w base B v L) (y : Ev) (bv cv : Value) (hp : EvParts B w y bv cv) (hb1 : bv.oneCell' = true) (hc1 : cv.oneCell' = true) (hn : L.length ≤ 1000000000) (hb : base ≤ w.heap.size) (ty : TypeId) :
    ∃ (v' : Value) (w' : World), (Builtin.append_ #[26, 26] ty #[v, .slice (some ⟨w.heap.size, 0, none⟩) 1 1]).run Tryz.prog (w.alloc (.cells (evCells y bv cv).toArray 36)) = .ok v' w' ∧
      OwnE w' base B v' (L ++ [(y, bv, cv)]) ∧ Below base w w' ∧ ∀ k T, T ≠ 36 → Typed w k T → w'.heap[k]? = w.heap[k]? := by
  have hA := World.ownsRow.alloc h.1 (.cells (evCells y bv cv).toArray 36)
  have hnews : ∀ j u, (evCells y bv cv)[j]? = some u → (w.alloc (.cells (evCells y bv cv).toArray 36)).cell? ((⟨w.heap.size, 0, none⟩ : Addr).add j) = some u := news_alloc w rfl (evCells y bv cv).toArray 36
  obtain ⟨v', w', h1, h2, h3, h4⟩ := append_at 26 36 Tryz.underlying26 evinfo rfl (by decide) hA ⟨w.heap.size, 0, none⟩ 1 1 (evCells y bv cv) rfl hnews (evCells_one y hb1 hc1) hn (by omega) (by decide) (by simp; omega) ty
  have hal : Below w.heap.size w (w.alloc (.cells (evCells y bv cv).toArray 36)) := (Below.refl _ _).alloc (Nat.le_refl _) _
  refine ⟨v', w', h1, ⟨?_, fun p hq => ?_⟩, (hal.mono hb).trans h3, fun k T hT ht => ?_⟩
  rotate_left 2
  · have hlt : k < w.heap.size := by obtain ⟨cs, fr, e⟩ := ht; exact (Array.getElem?_eq_some_iff.1 e).1
    have e1 : (w.alloc (.cells (evCells y bv cv).toArray 36)).heap[k]? = w.heap[k]? := hal.block k hlt
    have ht' : Typed (w.alloc (.cells (evCells y bv cv).toArray 36)) k T := by obtain ⟨cs, fr, e⟩ := ht; exact ⟨cs, fr, by rw [e1]; exact e⟩
    rw [ht'.grown hA h4 hT, e1]
  · rw [ecells_append, List.length_append]
    have : ecells [(y, bv, cv)] = evCells y bv cv := by simp [ecells]
    rw [this]; exact h2
  · rcases List.mem_append.1 hq with hq | hq
    · exact ((h.2 p hq).below hal).grown hA h4
    · obtain rfl := List.mem_singleton.1 hq
      exact (hp.below hal).grown hA h4
/-- Words in blocks of words. -/
def TStrs (w : World) (a : Option Addr) (ws : List ByteArray) : Prop := ∀ i, i < ws.length → ∃ ab ao : Nat, a = some ⟨ab, ao, none⟩ ∧ w.cell? ⟨ab, ao + i, none⟩ = some (.string (ws.getD i ByteArray.empty)) ∧ Typed w ab 9
theorem TStrs.of_same {w w' : World} {a : Option Addr} {ws : List ByteArray} (h : TStrs w a ws) (hk : ∀ k, Typed w k 9 → w'.heap[k]? = w.heap[k]?) : TStrs w' a ws := by
  intro i hi
  obtain ⟨ab, ao, e, hc, ht⟩ := h i hi
  have hb := hk ab ht
  obtain ⟨cs, fr, e2⟩ := ht
  have e' : w'.cell? ⟨ab, ao + i, none⟩ = w.cell? ⟨ab, ao + i, none⟩ := World.cell?_of_block (w := w) hb
  exact ⟨ab, ao, e, by rw [e']; exact hc, cs, fr, by rw [hb]; exact e2⟩
theorem TStrs.below {w w' : World} {a : Option Addr} {ws : List ByteArray} (h : TStrs w a ws) (hb : Below w.heap.size w w') : TStrs w' a ws :=
  h.of_same fun k ⟨_, _, e⟩ => hb.block k (Array.getElem?_eq_some_iff.1 e).1
theorem TStrs.of_own {w : World} {base : Nat} {a : Option Addr} {n c : Nat} {ws : List ByteArray} (h : w.ownsRow base 9 1 (.slice a n c) ws.length (ws.map Value.string)) : TStrs w a ws := by
  intro i hi
  have h' := h
  rcases h.2 with ⟨e, h0⟩ | ⟨g, cap, cur, e, hg, hh, hc, _⟩
  · omega
  · obtain ⟨rfl, _⟩ : a = some ⟨g, 0, none⟩ ∧ _ := by simpa using e
    refine ⟨g, 0, rfl, ?_, _, _, hh⟩
    have := own_cells h' e (j := i) (u := .string ws[i]) (by simp [hi])
    rw [Nat.zero_add, this]; simp [List.getD_eq_getElem?_getD, hi]
end Go.Proofs.YtobaoekibnloiaaGreatDoor
/- What a reader of scripts returns; its steps, plain. No walk. -/
namespace Go.Proofs.YtobaoekibnloiaaGreatDoor
open Go Go.RowKit

/-- What a reader of scripts returns. -/
def ParseIs (t : ByteArray) (w : World) (e : Ending) (w' : World) : Prop :=
  ∃ (v : Value) (l : List Ev) (k : Nat) (err : Int), e = .returned (.tuple #[v, .int .i64 k, .int .i64 err]) ∧ parseT t = (l, k, err) ∧ EvsIn w.heap.size w' v l ∧ Below w.heap.size w w'
theorem parseF_step (s : ByteArray) (r : List ByteArray) (i : Nat) (acc : List Ev) : parseF (s :: r) i acc = if skipL s = true then parseF r (i + 1) acc else match lineF s with
    | none => ([], i + 1, 3)
    | some x => if acc.length = 200 then ([], i + 1, 2) else parseF r (i + 1) (acc ++ [x]) := rfl
theorem skip_nil : skipL ⟨#[]⟩ = true := rfl
theorem skip_head (s : ByteArray) (h : 0 < s.size) : skipL s = decide ((s[0].toNat : Int) = 35) := by
  have hl : s.data.toList.length = s.size := Array.length_toList
  have e : s.data.toList = s[0] :: s.data.toList.drop 1 := by
    have := List.drop_eq_getElem_cons (l := s.data.toList) (i := 0) (by omega)
    rw [List.drop_zero] at this
    exact this
  unfold skipL
  rw [e]
  show (s[0] == 35) = _
  rw [Bool.eq_iff_iff, beq_iff_eq, decide_eq_true_iff]
  constructor
  · intro h; rw [h]; rfl
  · intro h; exact UInt8.toNat_inj.1 (by have : s[0].toNat = 35 := by omega
                                         rw [this]; rfl)
end Go.Proofs.YtobaoekibnloiaaGreatDoor
/- script's Parse. -/
namespace Go.Proofs.YtobaoekibnloiaaGreatDoor
open Go Go.RowKit

theorem TStrs.new (w : World) (ws : List ByteArray) : TStrs (w.alloc (.cells (ws.map Value.string).toArray 9)) (some ⟨w.heap.size, 0, none⟩) ws := fun i hi =>
  ⟨w.heap.size, 0, rfl, by rw [Nat.zero_add]; simp [List.getD_eq_getElem?_getD, hi], _, _, heap_alloc_new w _⟩

set_option maxHeartbeats 8000000 in
set_option maxRecDepth 100000 in
theorem pparse_any (t : ByteArray) (ht : t.size ≤ 1000000) (w : World) (hE : Env w) :
    Calls Tryz.prog 10 #[.string t] w (ParseIs t w) := by
  by_cases hbig : 20000 < t.size
  · have Hbig : Hid (parseT t = ([], 0, 2)) := by unfold Hid parseT; rw [if_pos hbig]
    have hbig' : (20000 : Int) < (t.size : Int) := by omega
    clear hbig ht hE
    go_enter Tryz.func10, Tryz.ntmps10
    go_wp2_with fail
    refine bodyPost_ret (v := .tuple #[.slice none 0 0, .int .i64 0, .int .i64 2]) (by simp [results, Tryz.results10, go_sem]) rfl ?_
    exact ⟨_, [], 0, 2, rfl, Hbig.out, EvsIn.nil _ _, Below.refl _ _⟩
  · have Hp : Hid (parseT t = parseF (cutB 10 t) 0 []) := by unfold Hid parseT; rw [if_neg hbig]
    have HT := Lib.hid ht
    have hsm : ¬ (20000 : Int) < (t.size : Int) := by omega
    have HE := Lib.hid hE
    have hs8 := hE.size
    have hbig' : t.size ≤ 20000 := by omega
    have Hbg := Lib.hid hbig'
    clear ht hbig hE hbig'
    go_enter Tryz.func10, Tryz.ntmps10
    go_wp2_with fail
    refine (psplit_any 10 t HT.out w HE.out).mono ?_
    rintro e w1 ⟨rfl, hw1⟩
    have Hb1 : Hid (Below w.heap.size w w1) := by rw [hw1]; exact (Below.refl _ _).alloc (Nat.le_refl _) _
    have Hts : Hid (TStrs w1 (some ⟨w.heap.size, 0, none⟩) (cutB 10 t)) := by rw [hw1]; exact TStrs.new _ _
    have hwl := cutB_length 10 t
    have hws := cutB_part 10 t
    clear hw1
    generalize cutB 10 t = ws at *
    obtain ⟨a, ha⟩ : ∃ a, a = (some ⟨w.heap.size, 0, none⟩ : Option Addr) := ⟨_, rfl⟩
    rw [← ha] at Hts ⊢
    clear ha
    obtain ⟨n, hn⟩ : ∃ n, n = ws.length := ⟨_, rfl⟩
    rw [← hn] at hwl ⊢
    have Hn := Lib.hid hn
    have Hws := Lib.hid hws
    clear hn hws
    have hnn : n ≤ 20001 := by have := Hbg.out; omega
    clear hwl
    go_wp2_with fail
    go_loopw [5, 16] (fun o x wr => ∃ (k : Nat) (ov : Value) (L : List Evl), ov = o ∧ k ≤ n ∧ x = .int .i64 k ∧ Hid (OwnE wr w.heap.size w.heap.size ov L) ∧ L.length ≤ 200 ∧ L.length ≤ k ∧ Hid (parseF ws 0 [] = parseF (ws.drop k) k (L.map (·.1))) ∧ Hid (TStrs wr a ws) ∧ Below w.heap.size w wr) (fun _ x _ => (n - intOf x).toNat)
    case atStart => exact ⟨0, _, [], rfl, by omega, rfl, OwnE.nil _ _ _, by simp, by simp, by unfold Hid; simp, Hts, Hb1.out⟩
    case round =>
      obtain ⟨k, ov, L, rfl, hk, rfl, hown, hL, hLk, hspec, hts, hBr⟩ := hrel
      by_cases hlt : k < n
      · have hkl : k < ws.length := by have := Hn.out; omega
        obtain ⟨ab, ao, rfl, hc', _⟩ := hts.out k hkl
        have hget : ws.getD k ByteArray.empty = ws[k] := by simp [List.getD_eq_getElem?_getD, hkl]
        have Hdrop : Hid (ws.drop k = ws[k] :: ws.drop (k + 1)) := List.drop_eq_getElem_cons hkl
        have hss := Hws.out _ (List.getElem_mem hkl)
        rw [hget] at hc'
        clear hget
        generalize ws[k] = s at *
        have i0 : (0 : Int) ≤ (k : Int) := by omega
        have i1 : (k : Int) < (n : Int) := by omega
        have Hstep : Hid (parseF ws 0 [] = if skipL s = true then parseF (ws.drop (k + 1)) (k + 1) (L.map (·.1)) else match lineF s with
            | none => ([], k + 1, 3)
            | some x => if (L.map (·.1)).length = 200 then ([], k + 1, 2) else parseF (ws.drop (k + 1)) (k + 1) (L.map (·.1) ++ [x])) := by
          unfold Hid; rw [hspec.out, Hdrop.out, parseF_step]; try rfl
        by_cases hz : s = ⟨#[]⟩
        · have e0 : (s.toList == []) = true := by rw [hz, ByteArray.toList_eq]; rfl
          have Hsk : Hid (parseF ws 0 [] = parseF (ws.drop (k + 1)) (k + 1) (L.map (·.1))) := by unfold Hid; rw [Hstep.out, hz, skip_nil, if_pos rfl]
          clear hz Hstep
          go_wp2_with fail
          go_roundw
          case rel => exact ⟨k + 1, ov, L, rfl, by omega, by go_num, hown, hL, by omega, Hsk, hts, hBr⟩
          case measure => simp [intOf]; omega
        · have e0 : (s.toList == []) = false := by
            have := str_ne hz
            rwa [ByteArray.toList_eq (⟨#[]⟩ : ByteArray)] at this
          have hpos : 0 < s.size := by
            rcases Nat.eq_zero_or_pos s.size with e | e
            · exfalso; apply hz
              apply ByteArray.ext
              exact Array.eq_empty_of_size_eq_zero e
            · exact e
          have hsk := skip_head s hpos
          clear hz
          by_cases h35 : (s[0].toNat : Int) = 35
          · have e1 : ((s[0].toNat : Int) == 35) = true := by simpa using h35
            rw [decide_eq_true h35] at hsk
            have Hsk : Hid (parseF ws 0 [] = parseF (ws.drop (k + 1)) (k + 1) (L.map (·.1))) := by unfold Hid; rw [Hstep.out, hsk, if_pos rfl]
            clear h35 hsk Hstep
            go_wp2_with fail
            go_roundw
            case rel => exact ⟨k + 1, ov, L, rfl, by omega, by go_num, hown, hL, by omega, Hsk, hts, hBr⟩
            case measure => simp [intOf]; omega
          · have e1 : ((s[0].toNat : Int) == 35) = false := by simpa using h35
            rw [decide_eq_false h35] at hsk
            have Hst2 : Hid (parseF ws 0 [] = match lineF s with
                | none => ([], k + 1, 3)
                | some x => if (L.map (·.1)).length = 200 then ([], k + 1, 2) else parseF (ws.drop (k + 1)) (k + 1) (L.map (·.1) ++ [x])) := by
              unfold Hid; rw [Hstep.out, hsk, if_neg (by simp)]
            clear h35 hsk Hstep
            go_wp2_with fail
            refine (pline_any s (by have := Hbg.out; omega) wr (HE.out.below hBr hs8)).mono ?_
            rintro e w2 ⟨y, bv, cv, err, rfl, hl, hp, hbo, hco, hb2⟩
            have HO2 := Lib.hid (hown.out.below hb2)
            have HB2 := Lib.hid (below_then hBr hb2)
            have HT2 := Lib.hid (hts.out.below hb2)
            have Hsz := Lib.hid hb2.size
            have Hpar := Lib.hid hp
            have Hbo := Lib.hid (And.intro hbo hco)
            have EN : Hid (EvAt (w2.alloc (.cells (evCells Ev.zero nilV nilV).toArray 36)) w2.heap.size (evCells Ev.zero nilV nilV)) := EvAt.new _ _ rfl _
            simp only [evCells, Ev.zero, nilV] at EN
            obtain ⟨oa, oc, rfl⟩ : ∃ a c, ov = .slice a L.length c := by
              rcases hown.out.1.2 with ⟨e, h0⟩ | ⟨g, cap, cur, e, _⟩
              · exact ⟨none, 0, by rw [e, h0]⟩
              · exact ⟨_, _, e⟩
            have Hl := Lib.hid hl
            clear hp hbo hco hb2 e0 e1 hc' hl
            have Hw3 : Hid (∀ w3, Apart w2.heap.size (w2.alloc (.cells (evCells Ev.zero nilV nilV).toArray 36)) w3 → Below w2.heap.size w2 w3) := fun w3 h => ((Below.refl _ _).alloc (Nat.le_refl _) _).trans (h.below (Nat.le_refl _))
            have hk1 : ((k + 1 : Nat) : Int) = (k : Int) + 1 := by omega
            have Hk1 := Lib.hid hk1
            clear hk1
            simp only [Ev.val]
            cases hf : lineF s with
            | none =>
              obtain ⟨rfl, rfl⟩ : err = 3 ∧ y = Ev.zero := by have := Hl.out; rw [hf] at this; exact this
              have Hst3 : Hid (parseT t = ([], k + 1, 3)) := by unfold Hid; rw [Hp.out, Hst2.out, hf]
              clear hf Hst2
              go_wp2_with (refine ev_store rfl _ _ rfl _ rfl _ (evCells Ev.zero bv cv) rfl EN.out rfl (evCells_one _ Hbo.out.1 Hbo.out.2) ?_; intro w3 E3 H3)
              refine bodyPost_ret (v := .tuple #[.slice none 0 0, .int .i64 ((k : Int) + 1), .int .i64 3]) (by simp [results, Tryz.results10, go_sem]) rfl ?_
              exact ⟨_, [], k + 1, 3, by rw [Hk1.out], Hst3.out, EvsIn.nil _ _, below_then HB2.out (Hw3.out _ H3)⟩
            | some x =>
              obtain ⟨rfl, rfl⟩ : err = 0 ∧ y = x := by have := Hl.out; rw [hf] at this; exact this
              by_cases h200 : L.length = 200
              · have Hst3 : Hid (parseT t = ([], k + 1, 2)) := by unfold Hid; rw [Hp.out, Hst2.out, hf]; simp only [List.length_map]; rw [if_pos h200]
                have hge : ((L.length : Int) == 200) = true := by simp; omega
                clear hf Hst2 h200
                go_wp2_with (refine ev_store rfl _ _ rfl _ rfl _ (evCells y bv cv) rfl EN.out rfl (evCells_one _ Hbo.out.1 Hbo.out.2) ?_; intro w3 E3 H3)
                refine bodyPost_ret (v := .tuple #[.slice none 0 0, .int .i64 ((k : Int) + 1), .int .i64 2]) (by simp [results, Tryz.results10, go_sem]) rfl ?_
                exact ⟨_, [], k + 1, 2, by rw [Hk1.out], Hst3.out, EvsIn.nil _ _, below_then HB2.out (Hw3.out _ H3)⟩
              · have Hst3 : Hid (parseF ws 0 [] = parseF (ws.drop (k + 1)) (k + 1) ((L ++ [(y, bv, cv)]).map (·.1))) := by
                  unfold Hid; rw [Hst2.out, hf]; simp only [List.length_map, List.map_append, List.map_cons, List.map_nil]; rw [if_neg h200]
                have hlt2 : ((L.length : Int) == 200) = false := by simp; omega
                have hlt3 : (L.length : Int) < 200 := by omega
                have HAp : Hid (∀ w3, Apart w2.heap.size (w2.alloc (.cells (evCells Ev.zero nilV nilV).toArray 36)) w3 → ∃ (v' : Value) (w' : World), (Builtin.append_ #[26, 26] 26 #[.slice oa L.length oc, .slice (some ⟨w3.heap.size, 0, none⟩) 1 1]).run Tryz.prog (w3.alloc (.cells (evCells y bv cv).toArray 36)) = .ok v' w' ∧
                    OwnE w' w.heap.size w.heap.size v' (L ++ [(y, bv, cv)]) ∧ Below w.heap.size w w' ∧ TStrs w' (some ⟨ab, ao, none⟩) ws) := by
                  intro w3 h3
                  have hb3 := Hw3.out w3 h3
                  obtain ⟨v', w', a1, a2, a3, a4⟩ := append_ev (HO2.out.below hb3) y bv cv ((Hpar.out.below hb3).mono hBr.size) Hbo.out.1 Hbo.out.2 (by omega) (Nat.le_trans HB2.out.size hb3.size) 26
                  exact ⟨v', w', a1, a2, (below_then HB2.out hb3).trans a3, (HT2.out.below hb3).of_same fun k hk => a4 k _ (by decide) hk⟩
                have hsz13 : (evCells y bv cv).length = 13 := rfl
                clear hf Hst2 h200
                go_wp2_with (first
                  | (refine ev_load rfl _ rfl _ rfl _ E3 ?_)
                  | (at_builtin; rw [ev_fold]; obtain ⟨v', w', hrun, hown', hB', hT'⟩ := HAp.out _ H3; have Hrun := Lib.hid hrun; have Hown' := Lib.hid hown'; have HB' := Lib.hid hB'; have HT' := Lib.hid hT'; clear hrun hown' hB' hT'; refine wpList_append_run rfl _ _ _ rfl _ _ _ _ rfl rfl Hrun.out ?_)
                  | (refine ev_store rfl _ _ rfl _ rfl _ (evCells y bv cv) rfl EN.out rfl (evCells_one _ Hbo.out.1 Hbo.out.2) ?_; intro w3 E3 H3))
                go_roundw
                case rel =>
                  refine ⟨k + 1, v', L ++ [(y, bv, cv)], rfl, by omega, by go_num, Hown'.out, by simp; omega, by simp; omega, Hst3.out, HT'.out, HB'.out⟩
                case measure => simp [intOf]; omega
      · obtain rfl : k = n := by omega
        have Hfin : Hid (parseT t = (L.map (·.1), 0, 0)) := by
          unfold Hid
          have h1 := hspec.out
          rw [Hn.out, List.drop_length] at h1
          rw [Hp.out, h1]; rfl
        obtain ⟨oa, on, oc, hov⟩ : ∃ a n c, ov = .slice a n c := by
          rcases hown.out.1.2 with ⟨e, _⟩ | ⟨g, cap, cur, e, _⟩
          · exact ⟨_, _, _, e⟩
          · exact ⟨_, _, _, e⟩
        have HE := Lib.hid (hown.out.evs (by omega))
        go_wp2_with fail
        refine bodyPost_ret (v := .tuple #[ov, .int .i64 0, .int .i64 0]) (by simp [results, Tryz.results10, go_sem]) rfl ?_
        exact ⟨ov, _, 0, 0, rfl, Hfin.out, HE.out, hBr⟩
end Go.Proofs.YtobaoekibnloiaaGreatDoor
/- New of synopticfield: a reader of the first choices of a list that came in. -/
namespace Go.Proofs.YtobaoekibnloiaaGreatDoor
open Go Go.RowKit

/-- A list of bytes that came in, below block B. -/
def U8At (w : World) (B : Nat) (v : Value) : Prop :=
  ∃ (a : Option Addr) (len cap : Nat), v = .slice a len cap ∧ len ≤ cap ∧ cap ≤ 9223372036854775807 ∧
    ∀ i, i < len → ∃ ab ao : Nat, a = some ⟨ab, ao, none⟩ ∧ ab < B ∧ ∃ z : Int, 0 ≤ z ∧ z ≤ 255 ∧ w.cell? ⟨ab, ao + i, none⟩ = some (.int .u8 z)
theorem U8At.below {w w' : World} {B : Nat} {v : Value} (h : U8At w B v) (hb : Below w.heap.size w w') : U8At w' B v := by
  obtain ⟨a, len, cap, e, h1, h2, h3⟩ := h
  refine ⟨a, len, cap, e, h1, h2, fun i hi => ?_⟩
  obtain ⟨ab, ao, ha, hB, z, z0, z1, hc⟩ := h3 i hi
  refine ⟨ab, ao, ha, hB, z, z0, z1, ?_⟩
  rw [hb.cell (World.block_lt_of_cell? _ _ hc)]; exact hc
/-- A new reader. -/
def NewCodes (B : Nat) (w : World) (e : Ending) (w' : World) : Prop := e = .returned (.pointer (some ⟨w.heap.size, 0, none⟩)) ∧ CodesIs w' B w.heap.size ∧ Below w.heap.size w w' ∧ w'.heap.size = w.heap.size + 1
set_option maxHeartbeats 1000000 in
theorem cnew_ok (v : Value) (m : Nat) (B : Nat) (w : World) (hB : B ≤ w.heap.size) (hm : m ≤ 1000) (h : U8At w B v) : Calls Tryz.prog 6 #[v, .int .i64 m] w (NewCodes B w) := by
  obtain ⟨a, len, cap, rfl, hlc, hc, hel⟩ := h
  have Hel := Lib.hid hel
  have fin : ∀ (k : Nat), k ≤ len → k ≤ 1000 → NewCodes B w (.returned (.pointer (some ⟨w.heap.size, 0, none⟩))) (w.alloc (.cells #[.slice a k cap, .int .i64 0] 53)) := by
    intro k hk hk2
    have hb : Below w.heap.size w (w.alloc (.cells #[.slice a k cap, .int .i64 0] 53)) := (Below.refl _ _).alloc (Nat.le_refl _) _
    refine ⟨rfl, ⟨a, k, cap, 0, hB, by simp, by simp, by simp, by omega, hk2, fun i _ hi => ?_⟩, hb, by simp⟩
    obtain ⟨ab, ao, ha, hlt, z, z0, z1, hcell⟩ := Hel.out i (by omega)
    refine ⟨ab, ao, ha, hlt, z, z0, z1, ?_⟩
    rw [hb.cell (World.block_lt_of_cell? _ _ hcell), hcell]
  have Hfin := Lib.hid fin
  clear fin hel
  by_cases hlt : m < len
  · have hlt' : (m : Int) < (len : Int) := by omega
    go_enter Tryz.func6, Tryz.ntmps6
    go_wp2_with fail
    go_ret
    exact Hfin.out m (by omega) hm
  · go_enter Tryz.func6, Tryz.ntmps6
    go_wp2_with fail
    go_ret
    exact Hfin.out len (Nat.le_refl _) (by omega)
end Go.Proofs.YtobaoekibnloiaaGreatDoor
/- ScriptReturns answers true. -/
namespace Go.Proofs.YtobaoekibnloiaaGreatDoor
open Go Go.RowKit

theorem EvsIn.mono {B C : Nat} {w : World} {v : Value} {l : List Ev} (h : EvsIn B w v l) (hC : C ≤ B) : EvsIn C w v l := by
  obtain ⟨a, cap, h1, h2, h3⟩ := h
  refine ⟨a, cap, h1, h2, fun i hi => ?_⟩
  obtain ⟨ab, ao, bv, cv, e, hr, hp⟩ := h3 i hi
  exact ⟨ab, ao, bv, cv, e, hr, hp.mono hC⟩
theorem U8At.mono {w : World} {B C : Nat} {v : Value} (h : U8At w B v) (hB : B ≤ C) : U8At w C v := by
  obtain ⟨a, len, cap, e, h1, h2, h3⟩ := h
  refine ⟨a, len, cap, e, h1, h2, fun i hi => ?_⟩
  obtain ⟨ab, ao, ha, hb, r⟩ := h3 i hi
  exact ⟨ab, ao, ha, by omega, r⟩
theorem OwnE.slice {w : World} {base B : Nat} {v : Value} {L : List Evl} (h : OwnE w base B v L) : ∃ a n c, v = .slice a n c := by
  rcases h.1.2 with ⟨e, _⟩ | ⟨g, cap, cur, e, _⟩
  · exact ⟨_, _, _, e⟩
  · exact ⟨_, _, _, e⟩
/-- A load of an event that has a guard, which lets it through. -/
theorem ev_load_w {ops : Array Oper} {rest : List Oper} {op : Oper} {a : Act} {w : World} {Q : Exit → Act → World → Prop} (hw : Region.wanted op (yielded ops a.tmps) = true) (x : Operand) (ho : op.op = .load 36 x)
    (b : Nat) (hx : a.eval x = .pointer (some ⟨b, 0, none⟩)) (y : Ev) (bv cv : Value) (h : EvAt w b (evCells y bv cv))
    (k : wpList Tryz.prog ops Q rest (a.put op.dst (y.val bv cv)) w) : wpList Tryz.prog ops Q (op :: rest) a w := by
  refine wpList_step fun K hK => ?_
  rw [if_pos hw]
  have hl := ev_loadAt (x := y) h.range
  unfold Oper.wp execOp
  simp only [ho, hx, Sem.run_bind, hl, Result.andThen_ok, Sem.run_pure]
  exact hK _ _ k
/-- The events so far, all of them with a line. -/
def Evs0 (l : List Ev) : Prop := ∀ x ∈ l, errOf x = 0 ∧ x.Within 12 2
theorem fmt_small : ∀ (l : List Ev), Evs0 l → (fmtL l).length ≤ l.length * 400
  | [], _ => by simp [fmtL]
  | x :: r, h => by
    have ih := fmt_small r (fun y hy => h y (List.mem_cons_of_mem _ hy))
    obtain ⟨h1, h2⟩ := h x (by simp)
    have hz := (line_size (good_of_ok h1) 12 2 h2 (by omega)).2.2
    have hl : (lineW x).data.toList.length = (lineW x).size := Array.length_toList
    have e : fmtL (x :: r) = ((lineW x).data.toList ++ [10]) ++ fmtL r := by simp [fmtL]
    rw [e]
    simp only [List.length_append, List.length_cons, List.length_nil]
    omega
theorem format_all {l : List Ev} (h : Evs0 l) (hl : l.length ≤ 7) : formatF l = (mkB (fmtL l), 0) ∧ parseT (mkB (fmtL l)) = (l, 0, 0) ∧ (mkB (fmtL l)).size ≤ 20000 := by
  have h0 := firstErr_ok (fun x hx => (h x hx).1)
  have hz := fmt_small l h
  have hsz : (mkB (fmtL l)).size = (fmtL l).length := by unfold mkB; exact List.size_toArray
  refine ⟨?_, parse_fmt (fun x hx => (h x hx).1) (by omega) (by omega), by omega⟩
  unfold formatF
  rw [h0, if_neg (by simp), if_neg (by omega)]
theorem below_of_st {w w2 wr : World} {B b : Nat} (h0 : Below w.heap.size w w2) (h : St w2 B b wr) (hb : w.heap.size ≤ b) : Below w.heap.size w wr :=
  h0.trans ((h.2.mono h0.size).below hb)
theorem env_st {w2 wr : World} {B b : Nat} (hE : Env w2) (h : St w2 B b wr) (hb : 8 ≤ b) : Env wr := hE.but h.2 (by have := hE.size; omega) hb
set_option maxHeartbeats 16000000 in
set_option maxRecDepth 100000 in
theorem sreturns_any (v : Value) (w : World) (hE : Env w) (hv : U8At w w.heap.size v) :
    Calls Tryz.prog 4 #[v] w fun e w' => e = .returned (.bool true) ∧ Below w.heap.size w w' := by
  have HE := Lib.hid hE
  have HV := Lib.hid hv
  have Hs8 : Hid (8 ≤ w.heap.size) := hE.size
  clear hE hv
  go_enter Tryz.func4, Tryz.ntmps4
  go_wp2_with fail
  refine (awake_any w HE.out).mono ?_
  rintro e w1 ⟨rfl, hb1⟩
  have HB1 := Lib.hid hb1
  have HV1 := Lib.hid (HV.out.below hb1)
  clear hb1
  go_wp2_with fail
  refine (cnew_ok v 240 w.heap.size w1 HB1.out.size (by omega) HV1.out).mono ?_
  rintro e w2 ⟨rfl, hc, hb2, hz2⟩
  have HB2 := Lib.hid (below_then HB1.out hb2)
  obtain ⟨b, hb⟩ : ∃ b, b = w1.heap.size := ⟨_, rfl⟩
  rw [← hb] at hc hz2 ⊢
  have HC := Lib.hid hc
  have Hb : Hid (w.heap.size ≤ b ∧ b < w2.heap.size) := by unfold Hid; have := HB1.out.size; omega
  have HE2 := Lib.hid (HE.out.below HB2.out Hs8.out)
  clear hc hb2 hz2 hb HV1 HB1 HV HE
  go_wp2_with fail
  refine (next_ok w.heap.size b 8 w2 HC.out (by omega) (by omega)).mono ?_
  rintro e w3 ⟨n, n0, n1, rfl, hst⟩
  have HS3 := Lib.hid hst
  clear hst
  obtain ⟨n, rfl⟩ : ∃ m : Nat, n = m := ⟨n.toNat, by omega⟩
  go_wp2_with fail
  go_loopw [4, 5] (fun lv nv wr => ∃ (m : Nat) (ov : Value) (L : List Evl), ov = lv ∧ nv = .int .i64 m ∧ m ≤ 7 ∧ Hid (OwnE wr w2.heap.size w2.heap.size ov L) ∧ L.length + m ≤ 7 ∧ Hid (Evs0 (L.map (·.1))) ∧ Hid (St w2 w.heap.size b wr)) (fun _ nv _ => (intOf nv).toNat)
  case atStart => exact ⟨n, _, [], rfl, rfl, by omega, OwnE.nil _ _ _, by simp; omega, by intro x hx; simp at hx, HS3.out⟩
  case round =>
    obtain ⟨m, ov, L, rfl, rfl, hm, hown, hL, hall, hst⟩ := hrel
    by_cases hlt : 0 < m
    · have m0 : (0 : Int) < (m : Int) := by omega
      have m1 : (m : Int) ≤ 7 := by omega
      go_wp2_with fail
      refine (event_any w.heap.size b wr hst.out.1).mono ?_
      rintro e wa ⟨x, bv, cv, rfl, hp, hw, hpl, hb1, hc1, hsa⟩
      have HP := Lib.hid (hp.mono (Nat.zero_le _))
      have HPb := Lib.hid hp
      have HW := Lib.hid hw
      have Hone := Lib.hid (And.intro hb1 hc1)
      have HSa := Lib.hid (hst.out.then hsa)
      have HOa : Hid (OwnE wa w2.heap.size w2.heap.size ov L) := hown.out.but hsa.2 Hb.out.2 Hb.out.2
      have EN : Hid (EvAt (wa.alloc (.cells (evCells Ev.zero (.slice none 0 0) (.slice none 0 0)).toArray 36)) wa.heap.size (evCells Ev.zero (.slice none 0 0) (.slice none 0 0))) := EvAt.new _ _ rfl _
      have Hal : Hid (∀ w4, Apart wa.heap.size (wa.alloc (.cells (evCells Ev.zero (.slice none 0 0) (.slice none 0 0)).toArray 36)) w4 → Below wa.heap.size wa w4) := fun w4 h => ((Below.refl _ _).alloc (Nat.le_refl _) _).trans (h.below (Nat.le_refl _))
      simp only [evCells, Ev.zero] at EN Hal
      have Hws : Hid (w2.heap.size ≤ wr.heap.size) := hst.out.size
      clear hp hw hpl hb1 hc1 hsa hst hown
      unfold Ev.val
      go_wp2_with (first
        | (refine ev_load rfl _ rfl _ rfl _ E3 ?_)
        | (refine ev_store rfl _ _ rfl _ rfl _ (evCells x bv cv) rfl EN.out rfl (evCells_one _ Hone.out.1 Hone.out.2) ?_; intro w4 E3 H3))
      have hb4 := Hal.out w4 H3
      have HB4 := Lib.hid hb4
      have HSb := Lib.hid (HSa.out.below hb4)
      have HE4 := Lib.hid (env_st HE2.out HSb.out (by have := Hs8.out; have := Hb.out; omega))
      have HE3 := Lib.hid E3
      clear E3 H3 hb4
      refine (pwrite_any x bv cv w4 (HP.out.below HB4.out) HE4.out).mono ?_
      rintro e w5 ⟨rfl, hb5⟩
      have HB5 := Lib.hid (below_then HB4.out hb5)
      have HE5 := Lib.hid (HE3.out.below hb5)
      have HEn5 := Lib.hid (HE4.out.below hb5 (by have := HB4.out.size; have := Hs8.out; have := Hb.out; have := Hws.out; have := HSa.out.size; omega))
      clear hb5
      obtain ⟨er, her⟩ : ∃ er, er = errOf x := ⟨_, rfl⟩
      rw [← her]
      have Her := Lib.hid her
      clear her
      by_cases he : er = 0
      · have hb : (er != 0) = false := by simpa using he
        have he' : errOf x = 0 := Her.out ▸ he
        have HL := Lib.hid (lineF_lineW he')
        have Hsz := Lib.hid (lw_size HW.out)
        rw [if_pos he'] at Hsz
        rw [if_pos he]
        have He' := Lib.hid he'
        obtain ⟨s, hs⟩ : ∃ s, s = lineW x := ⟨_, rfl⟩
        rw [← hs]
        rw [← hs] at HL Hsz
        clear hs he' he
        go_wp2_with fail
        refine (pline_any s (by have := Hsz.out; omega) w5 HEn5.out).mono ?_
        rintro e w6 ⟨y, bv', cv', err, rfl, hm6, hp6, ho1, ho2, hb6⟩
        obtain ⟨rfl, rfl⟩ : err = 0 ∧ y = x := by rw [HL.out] at hm6; exact hm6
        have HB6 := Lib.hid (below_then HB5.out hb6)
        have HE6 := Lib.hid (HE5.out.below hb6)
        have HP6 := Lib.hid (hp6.mono (Nat.zero_le _))
        have Hone6 := Lib.hid (And.intro ho1 ho2)
        have EN6 : Hid (EvAt (w6.alloc (.cells (evCells Ev.zero (.slice none 0 0) (.slice none 0 0)).toArray 36)) w6.heap.size (evCells Ev.zero (.slice none 0 0) (.slice none 0 0))) := EvAt.new _ _ rfl _
        have Hal6 : Hid (∀ w4, Apart w6.heap.size (w6.alloc (.cells (evCells Ev.zero (.slice none 0 0) (.slice none 0 0)).toArray 36)) w4 → Below w6.heap.size w6 w4) := fun w4 h => ((Below.refl _ _).alloc (Nat.le_refl _) _).trans (h.below (Nat.le_refl _))
        simp only [evCells, Ev.zero] at EN6 Hal6
        have HAp : Hid (∀ w8, Below wa.heap.size wa w8 → ∃ (v' : Value) (w' : World), (Builtin.append_ #[26, 26] 26 #[ov, .slice (some ⟨w8.heap.size, 0, none⟩) 1 1]).run Tryz.prog (w8.alloc (.cells (evCells y bv cv).toArray 36)) = .ok v' w' ∧
            OwnE w' w2.heap.size w2.heap.size v' (L ++ [(y, bv, cv)]) ∧ St w2 w.heap.size b w') := by
          intro w8 h8
          obtain ⟨v', w', a1, a2, a3, _⟩ := append_ev (HOa.out.below h8) y bv cv ((HPb.out.below h8).mono Hws.out) Hone.out.1 Hone.out.2 (by omega) (by have := HSa.out.size; have := h8.size; omega) 26
          exact ⟨v', w', a1, a2, (HSa.out.below h8).grown a3 Hb.out.2 (Nat.le_refl _)⟩
        clear hm6 hp6 hb6 ho1 ho2 EN Hal
        unfold Ev.val
        go_wp2_with (first
          | (refine ev_load_w rfl _ rfl _ rfl y bv cv HE7.out ?_)
          | (refine ev_load_w rfl _ rfl _ rfl y bv' cv' E7.out ?_)
          | (refine ev_store rfl _ _ rfl _ rfl _ (evCells y bv' cv') rfl EN6.out rfl (evCells_one _ Hone6.out.1 Hone6.out.2) ?_; intro w7 e7 H7; have E7 := Lib.hid e7; have hb7 := Hal6.out w7 H7; have HE7 := Lib.hid (HE6.out.below hb7); have HB7 := Lib.hid (below_then HB6.out hb7); have HP7 := Lib.hid (HP6.out.below hb7); have HQ7 := Lib.hid (HP.out.below HB7.out); clear e7 H7 hb7))
        refine (rsame_any y bv cv bv' cv' w7 HQ7.out HP7.out).mono ?_
        rintro e w8 ⟨rfl, hb8⟩
        have HB8 := Lib.hid (below_then HB7.out hb8)
        have HE8 := Lib.hid (HE7.out.below hb8)
        clear hb8
        have hsz13 : (evCells y bv cv).length = 13 := rfl
        go_wp2_with (first
          | (refine ev_load rfl _ rfl _ rfl _ HE8.out ?_)
          | (at_builtin; rw [ev_fold]; obtain ⟨v', w', hrun, hown', hS'⟩ := HAp.out w8 HB8.out; have Hrun := Lib.hid hrun; have Hown' := Lib.hid hown'; have HS' := Lib.hid hS'; clear hrun hown' hS'; refine wpList_append_run rfl _ _ _ rfl _ _ _ _ rfl rfl Hrun.out ?_))
        go_roundw
        case rel =>
          refine ⟨m - 1, v', L ++ [(y, bv, cv)], rfl, by rw [Int.ofNat_sub (by omega)]; rfl, by omega, Hown'.out, by simp; omega, ?_, HS'.out⟩
          intro z hz
          simp only [List.map_append, List.map_cons, List.map_nil] at hz
          rcases List.mem_append.1 hz with hz | hz
          · exact hall.out z hz
          · obtain rfl := List.mem_singleton.1 hz; exact ⟨He'.out, HW.out⟩
        case measure => simp [intOf]; omega
      · have hb : (er != 0) = true := by simpa using he
        clear he
        go_wp2_with fail
        go_roundw
        case rel => exact ⟨m - 1, ov, L, rfl, by rw [Int.ofNat_sub (by omega)]; rfl, by omega, HOa.out.below HB5.out, by omega, hall, HSa.out.below HB5.out⟩
        case measure => simp [intOf]; omega
    · obtain rfl : m = 0 := by omega
      have HO := hown
      have HSt := hst
      go_wp2_with fail
      refine (lline_any w.heap.size b wr HSt.out.1).mono ?_
      rintro e wa ⟨s, rfl, hs, hsa⟩
      have HSa := Lib.hid (HSt.out.then hsa)
      have HOa : Hid (OwnE wa w2.heap.size w2.heap.size ov L) := HO.out.but hsa.2 Hb.out.2 Hb.out.2
      have HEa := Lib.hid (env_st HE2.out HSa.out (by have := Hs8.out; have := Hb.out; omega))
      have Hsz := Lib.hid hs
      clear hs hsa hst hown
      go_wp2_with fail
      refine (pline_any s (by have := Hsz.out; omega) wa HEa.out).mono ?_
      rintro e w6 ⟨y, bv, cv, err, rfl, hm6, hp6, ho1, ho2, hb6⟩
      have HB6 := Lib.hid hb6
      have HP6 := Lib.hid (hp6.mono (Nat.zero_le _))
      have Hone6 := Lib.hid (And.intro ho1 ho2)
      have Hm6 := Lib.hid hm6
      have EN6 : Hid (EvAt (w6.alloc (.cells (evCells Ev.zero (.slice none 0 0) (.slice none 0 0)).toArray 36)) w6.heap.size (evCells Ev.zero (.slice none 0 0) (.slice none 0 0))) := EvAt.new _ _ rfl _
      have Hal6 : Hid (∀ w4, Apart w6.heap.size (w6.alloc (.cells (evCells Ev.zero (.slice none 0 0) (.slice none 0 0)).toArray 36)) w4 → Below w6.heap.size w6 w4) := fun w4 h => ((Below.refl _ _).alloc (Nat.le_refl _) _).trans (h.below (Nat.le_refl _))
      simp only [evCells, Ev.zero] at EN6 Hal6
      clear hm6 hp6 ho1 ho2 hb6
      unfold Ev.val
      go_upto_if 65 with (refine ev_store rfl _ _ rfl _ rfl _ (evCells y bv cv) rfl EN6.out rfl (evCells_one _ Hone6.out.1 Hone6.out.2) ?_; intro w7 e7 H7; have E7 := Lib.hid e7; have hb7 := Hal6.out w7 H7; have HB7 := Lib.hid (below_then HB6.out hb7); have HP7 := Lib.hid (HP6.out.below hb7); clear e7 H7 hb7)
      go_cut [] (fun wx => Below wa.heap.size wa wx)
      case first =>
        cases hf : lineF s with
        | none =>
          obtain ⟨rfl, rfl⟩ : err = 3 ∧ y = Ev.zero := by have h := Hm6.out; rw [hf] at h; exact h
          clear hf
          go_wp2_with fail
          go_meet
          exact HB7.out
        | some x =>
          obtain ⟨rfl, rfl⟩ : err = 0 ∧ y = x := by have h := Hm6.out; rw [hf] at h; exact h
          have HL := Lib.hid (lineF_back hf)
          have HE7 := Lib.hid (HEa.out.below HB7.out (by have := Hs8.out; have := Hb.out; have := HSa.out.size; omega))
          clear hf
          go_wp2_with (refine ev_load rfl _ rfl _ rfl _ E7.out ?_)
          refine (pwrite_any y bv cv w7 HP7.out HE7.out).mono ?_
          rintro e w8 ⟨rfl, hb8⟩
          have HB8 := Lib.hid (below_then HB7.out hb8)
          clear hb8
          rw [HL.out.1, if_pos rfl, HL.out.2]
          go_wp2_with fail
          go_meet
          exact HB8.out
      case rest =>
        have HC2 := Lib.hid hcut
        have HEc := Lib.hid (HEa.out.below hcut (by have := Hs8.out; have := Hb.out; have := HSa.out.size; omega))
        have HOc := Lib.hid (HOa.out.below hcut)
        have HF := Lib.hid (format_all hall.out (by simp; omega))
        clear hcut
        go_wp2_with fail
        refine (pformat_any ov (L.map (·.1)) wc ((HOc.out.evs (by omega)).mono (Nat.zero_le _)) HEc.out (fun x hx => (hall.out x hx).2.big) (by simp; omega)).mono ?_
        rintro e w8 ⟨rfl, hb8⟩
        have HB8 := Lib.hid (below_then HC2.out hb8)
        have HO8 := Lib.hid (HOc.out.below hb8)
        have HE8 := Lib.hid (HEc.out.below hb8 (by have := Hs8.out; have := Hb.out; have := HSa.out.size; have := HC2.out.size; omega))
        clear hb8
        rw [HF.out.1]
        obtain ⟨t, ht⟩ : ∃ t, t = mkB (fmtL (L.map (·.1))) := ⟨_, rfl⟩
        have HT : Hid (parseT t = (L.map (·.1), 0, 0)) := by unfold Hid; rw [ht]; exact HF.out.2.1
        have HTz : Hid (t.size ≤ 20000) := by unfold Hid; rw [ht]; exact HF.out.2.2
        simp only
        rw [← ht]
        clear ht
        go_wp2_with fail
        refine (pparse_any t (by have := HTz.out; omega) w8 HE8.out).mono ?_
        rintro e w9 ⟨v2, l2, k2, err2, rfl, hq, hev, hb9⟩
        obtain ⟨rfl, rfl, rfl⟩ : L.map (·.1) = l2 ∧ 0 = k2 ∧ 0 = err2 := by rw [HT.out] at hq; simpa using hq
        have HB9 := Lib.hid (below_then HB8.out hb9)
        have HO9 := Lib.hid ((HO8.out.below hb9).evs (by omega))
        have Hev := Lib.hid (hev.mono (Nat.zero_le _))
        clear hq hev hb9
        go_wp2_with fail
        refine (rsameall_any ov v2 (L.map (·.1)) w9 (HO9.out.mono (Nat.zero_le _)) Hev.out).mono ?_
        rintro e w10 ⟨rfl, hb10⟩
        have HB10 := Lib.hid (below_then HB9.out hb10)
        clear hb10
        go_wp2_with fail
        go_ret
        exact ⟨rfl, (below_of_st HB2.out HSa.out Hb.out.1).trans (HB10.out.mono (by have := HB2.out.size; have := HSa.out.size; omega))⟩
end Go.Proofs.YtobaoekibnloiaaGreatDoor
/- What the rows of these statements give at their first world, how an argument opens, and the last step of a row. No conditions. -/
namespace Go.Proofs.YtobaoekibnloiaaGreatDoor
open Go Go.ChangeShapes Go.WideShapes Go.ChangeAt Go.RowKit
open Go.ChangeMaps (open_string shut_string)

theorem own : ownKnob Tryz.prog.godebug = none := by kernel_rfl
theorem laid_out : laidOutB Tryz.prog = true := by kernel_rfl

section
variable {H : Type} {enc : TypeId × Value → H} {P : Program}
theorem trodAll_low (hl : laidOutB P = true) {W W' : World} (hb : Below W.heap.size W W') : ∀ (ts : List TypeId) (vs : List Value) (ds : List (DataW H)) (ps : List MemPlace),
    (ts.all fun t => P.readableRec t && decide (t < P.types.size)) = true → DataW.TrodAll enc P W 0 (fun _ => true) true ts vs ds ps → (∀ p ∈ ps, p.block < W.heap.size) →
    DataW.TrodAll enc P W' 0 (fun b => decide (b < W.heap.size)) true ts vs ds ps
  | [], [], [], _, _, h, _ => h
  | [], [], _ :: _, _, _, h, _ => h.elim
  | [], _ :: _, _, _, _, h, _ => h.elim
  | _ :: _, [], _, _, _, h, _ => h.elim
  | _ :: _, _ :: _, [], _, _, h, _ => h.elim
  | t :: ts, v :: vs, d :: ds, ps, hT, h, hlt => by
    obtain ⟨p, q, hp, hq, e⟩ := h
    simp only [List.all_cons, Bool.and_eq_true, decide_eq_true_eq] at hT
    refine ⟨p, q, Below.trod hl hT.1.1 hT.1.2 hp hb (fun x hx => hlt x (by rw [e]; simp [hx])), trodAll_low hl hb ts vs ds q hT.2 hq (fun x hx => hlt x (by rw [e]; simp [hx])), e⟩

theorem law_post (hl : laidOutB P = true) {f : Func} {s : ChangeSpec} {apart fresh handsOn : Bool} {tb : TypeId} {W W' : World} {args : Array Value} {ds gs : List (DataW H)} {before : List MemPlace}
    (hT : (f.params.toList.all fun t => P.readableRec t && decide (t < P.types.size)) = true) (hr : f.resultTypes = #[tb]) (htb : P.underlying tb = some .bool)
    (hW : DataW.Whole enc P f.params.toList s.vars apart W args.toList ds gs before) (hv : s.vars = []) (hf : s.fn H (ds ++ gs) = { results := [.lit (.bool true)], args := ds }) (hb : Below W.heap.size W W') :
    s.post enc P f apart fresh handsOn false W args (.bool true) W' := by
  have hW' := hW
  obtain ⟨p, q, hA, hV, rfl, _, _⟩ := hW
  have hlt : ∀ x ∈ p ++ q, x.block < W.heap.size := fun x hx => hW'.lt x hx
  rw [hv] at hV
  have hq : gs = [] ∧ q = [] := trodVars_none hV
  obtain ⟨rfl, rfl⟩ := hq
  have hA' := trodAll_low hl hb _ _ _ _ hT hA (fun x hx => hlt x (by simp [hx]))
  refine ⟨ds, [], p ++ [], [], p, [], hW', ?_, ?_, ?_, World.keptBut_mono (fun x hx => ⟨hx, by simp at hx; simp [hx]⟩) (hb.frame (· ∈ p ++ [])), fun h => by cases h⟩
  · rw [hf, hr]
    exact trodAll_cons_mk (shut_bool htb _) trodAll_mk0
  · rw [hf]; exact hA'
  · rw [hf, hv]; exact (rfl : ([] : List MemPlace) = [])
end

/-- The variables that the rows list. -/
def tabs : List (String × DataW Unit) := [("math/bits.deBruijn32tab", Rows.laid_math_bits_deBruijn32tab), ("math/bits.deBruijn64tab", Rows.laid_math_bits_deBruijn64tab), ("internal/strconv.uint64pow10", Rows.laid_internal_strconv_uint64pow10), ("unicode/utf8.acceptRanges", Rows.laid_unicode_utf8_acceptRanges), ("strconv.ErrRange", Rows.laid_strconv_ErrRange), ("strconv.ErrSyntax", Rows.laid_strconv_ErrSyntax), ("unicode/utf8.first", Rows.laid_unicode_utf8_first)]

theorem gB64 : Tryz.prog.globalNamed "math/bits.deBruijn64tab" = some 7 := by kernel_rfl
def b64 : List Int := [0, 1, 56, 2, 57, 49, 28, 3, 61, 58, 42, 50, 38, 29, 17, 4, 62, 47, 59, 36, 45, 43, 51, 22, 53, 39, 33, 30, 24, 18, 12, 5, 63, 55, 48, 27, 60, 41, 37, 16, 46, 35, 44, 21, 52, 32, 23, 11, 54, 26, 40, 15, 34, 20, 31, 10, 25, 14, 19, 9, 13, 8, 7, 6]
theorem star_err : "*" ++ "errors.errorString" = "*errors.errorString" := by decide
theorem errT (u : TypeId) (h : Tryz.prog.typeName? 3 u = some "*errors.errorString") : u = 153 :=
  typeName_ptr_named (nm := "errors.errorString") (by rw [star_err]; kernel_rfl) (by kernel_rfl) (by decide) u (by rw [star_err]; exact h)
set_option maxRecDepth 100000 in
theorem env_of {W : World} (hL : laidMetH Tryz.prog tabs W) (hs : W.ShapedOpen Tryz.prog) : Env W := by
  have h : laidMet Tryz.prog tabs W := hL
  have h1 := laidMet.tail h
  have h2 := laidMet.tail h1
  have h3 := laidMet.tail h2
  have h4 := laidMet.tail h3
  have h5 := laidMet.tail h4
  have ht : Lib.TabIs Tryz.prog W "internal/strconv.uint64pow10" .u64 Lib.pow10Tab :=
    Lib.tabIs_of_head (zs := Lib.pow10Tab) (k := .u64) gPow (show (Tryz.prog.globals[1]?).map (·.type) = some 135 by kernel_rfl) Tryz.underlying135 Tryz.underlying99 (by kernel_rfl) (by kernel_rfl) h2
  have hb : Lib.TabIs Tryz.prog W "math/bits.deBruijn64tab" .u8 b64 :=
    Lib.tabIs_of_head (zs := b64) (k := .u8) gB64 (show (Tryz.prog.globals[7]?).map (·.type) = some 157 by kernel_rfl) Tryz.underlying157 Tryz.underlying5 (by kernel_rfl) (by kernel_rfl) h1
  obtain ⟨a0, s0, hv0, -, -, -⟩ := laid_sentinel h4 gRng (show (Tryz.prog.globals[3]?).map (·.type) = some 62 by kernel_rfl) Tryz.underlying62 errT Tryz.underlying153 Tryz.underlying155 rfl rfl Tryz.underlying9 (by kernel_rfl) (by kernel_rfl)
  obtain ⟨a1, s1, hv1, -, -, -⟩ := laid_sentinel h5 gSyn (show (Tryz.prog.globals[2]?).map (·.type) = some 62 by kernel_rfl) Tryz.underlying62 errT Tryz.underlying153 Tryz.underlying155 rfl rfl Tryz.underlying9 (by kernel_rfl) (by kernel_rfl)
  refine ⟨cell_of_shapedOpen_int (P := Tryz.prog) (g := 0) (t := 3) (zero := #[.int .i64 0]) hs (of_decide_eq_true (by kernel_rfl)) (by kernel_rfl) rfl (by kernel_rfl) (by kernel_rfl) Tryz.underlying3, ht, ⟨_, _, hv1⟩, ⟨_, _, hv0⟩, ?_⟩
  have hc := hb.cell gB64 0 (by decide)
  have : 7 < W.heap.size := World.block_lt_of_cell? (a := ⟨7, 0, none⟩) _ hc
  omega

/-- The cells of a table. -/
def cellsL : DataW Unit → List Value
  | .agg l => (l.map fun | .lit (.int k z) => [Value.int k z] | .agg m => m.map (fun | .lit (.int k z) => Value.int k z | _ => undef) | _ => [undef]).flatten
  | _ => []
def layIn (d : DataW Unit) : Obj → Obj
  | .cells _ t frozen => .cells (cellsL d).toArray t frozen
  | o => o
def layErr (b : Nat) : Obj → Obj
  | .cells _ t frozen => .cells #[.iface 153 (.pointer (some ⟨b, 0, none⟩))] t frozen
  | o => o
def synS : ByteArray := { data := #[105, 110, 118, 97, 108, 105, 100, 32, 115, 121, 110, 116, 97, 120] }
def rngS : ByteArray := { data := #[118, 97, 108, 117, 101, 32, 111, 117, 116, 32, 111, 102, 32, 114, 97, 110, 103, 101] }
noncomputable def low : Nat := (World.holding Tryz.prog default ⟨#[], #[], []⟩).heap.size
/-- A WORLD FOR THE WITNESS: the settled one, the variables holding what their initialisers lay. -/
noncomputable def laidWorld (os : Os) : World :=
  let w0 := World.holding Tryz.prog os ⟨#[.cells #[.string synS] 155, .cells #[.string rngS] 155], #[], []⟩
  { w0 with heap := ((((((w0.heap.modify 6 (layIn Rows.laid_math_bits_deBruijn32tab)).modify 7 (layIn Rows.laid_math_bits_deBruijn64tab)).modify 1 (layIn Rows.laid_internal_strconv_uint64pow10)).modify 5 (layIn Rows.laid_unicode_utf8_acceptRanges)).modify 4 (layIn Rows.laid_unicode_utf8_first)).modify 2 (layErr low)).modify 3 (layErr (low + 1)) }
set_option maxRecDepth 100000 in
theorem laid_met (os : Os) (args : Array Value) : laidMet Tryz.prog tabs ((laidWorld os).forCall (fun _ _ => 0) ⟨#[], args, []⟩).memory :=
  laidMet_of_run' 8 (by kernel_rfl) (by kernel_rfl)

set_option maxRecDepth 100000 in
/-- A list of bytes that came in. -/
theorem open_codes {H : Type} {enc : TypeId × Value → H} {W : World} {base : Nat} {v : Value} {d : DataW H} {p : List MemPlace} (hv : Value.okWide Tryz.prog W .any base 22 v) (h : DataW.Trod enc Tryz.prog W 0 (fun _ => true) true 22 v d p) :
    U8At W W.heap.size v := by
  obtain ⟨a0, len, cap, rfl⟩ := okWide_slice Tryz.underlying22 hv
  obtain ⟨fuel, hf⟩ := h
  rcases open_ints Tryz.underlying22 Tryz.underlying5 (by kernel_rfl) hf with ⟨hcs, _⟩ | ⟨a, len', cap', zs, hcs, _, hl, hm, hz, _, hcell, hwz⟩
  · have hcs : a0 = none ∧ len = 0 ∧ cap = 0 := by simpa [Value.cells] using hcs
    obtain ⟨rfl, rfl, rfl⟩ := hcs
    exact ⟨none, 0, 0, rfl, by omega, by omega, fun i hi => by omega⟩
  · have hcs : a0 = some a ∧ len = len' ∧ cap = cap' := by simpa [Value.cells] using hcs
    obtain ⟨rfl, rfl, rfl⟩ := hcs
    simp only [if_true] at hz
    have hm' : cap ≤ 9223372036854775807 := by unfold maxLen at hm; omega
    refine ⟨some a, len, cap, rfl, hl, hm', fun i hi => ?_⟩
    obtain ⟨b, off, rfl, hc⟩ := ints_at hcell (by omega)
    have hci := hc i (by omega)
    refine ⟨b, off, rfl, World.block_lt_of_cell? (a := ⟨b, off + i, none⟩) _ hci, _, ?_, ?_, hci⟩
    all_goals
      have hw := hwz (zs.getD i 0) (by rw [List.getD_eq_getElem?_getD, List.getElem?_eq_getElem (by omega)]; simp)
      simp only [Lit.wf, Bool.and_eq_true, decide_eq_true_eq] at hw
      have h1 : IntKind.u8.min = 0 := rfl
      have h2 : IntKind.u8.max = 255 := rfl
      omega
end Go.Proofs.YtobaoekibnloiaaGreatDoor
/- ScriptReturns answers true at every input. No conditions. -/

namespace Go.Proofs.YtobaoekibnloiaaGreatDoor.returns
open Go Go.ChangeShapes Go.WideShapes Go.ChangeAt Go.RowKit
open Go.ChangeMaps (open_string)

noncomputable def zeroArgs : Array Value := #[.slice none 0 0]
theorem reads (os : Os) {H : Type} (enc : TypeId × Value → H) : ∃ places, DataW.whole enc Tryz.prog ((laidWorld os).forCall (fun _ _ => 0) ⟨#[], zeroArgs, []⟩).memory Tryz.f4.params.toList Rows.scriptReturnsSpec.vars false zeroArgs.toList 8 =
    some ([.nil], [], places) :=
  ⟨[], by kernel_rfl⟩

set_option maxRecDepth 100000 in
theorem lifted (os : Os) (started : os.Started) (H : Type) (enc : TypeId × Value → H) (F : Stop.Interp) :
    ReturnsInHanded {} Tryz.checked os 4 .any ((OpenSpec.ofChange Rows.scriptReturnsSpec).preRow enc Tryz.prog Tryz.f4 Rows.scriptReturnsRow.domain false Rows.scriptReturnsRow.laid) (((OpenSpec.ofChange Rows.scriptReturnsSpec).at F).post enc Tryz.prog Tryz.f4 false true false false) := by
  obtain ⟨places, hx⟩ := reads os enc
  refine returnsInHanded_of_row (C := Tryz.checked) (s := OpenSpec.ofChange Rows.scriptReturnsSpec) own started (by kernel_rfl) Tryz.func4
    (witness_row_at (enc := enc) (C := Tryz.checked) false (laidWorld os) zeroArgs rfl (by kernel_rfl) (by kernel_rfl) (by kernel_rfl)
      (OpenSpec.preRow_of_cond 8 hx (by kernel_rfl) (fun k hk => by cases hk) (by kernel_rfl) (laid_met os _))) ?_
  intro W base args ds gs before hval hW _ _ _ hL hsh _
  have hW' := hW
  obtain ⟨p, q, hA0, hV, rfl, hfz, hnd⟩ := hW
  have hA : DataW.TrodAll enc Tryz.prog W 0 (fun _ => true) true Tryz.f4.params.toList args.toList ds p := hA0
  rw [Tryz.params4] at hA hval
  obtain ⟨v0, vs0, d0, ds0, p0, q0, hargs, rfl, rfl, h0, r0⟩ := trodAll_cons hA
  obtain ⟨rfl, rfl, rfl⟩ := trodAll_nil r0
  obtain rfl : args = #[v0] := by cases args; simp_all
  obtain ⟨rfl, rfl⟩ := trodVars_none hV
  have hc := open_codes (hval 0 22 v0 rfl rfl) h0
  refine (sreturns_any v0 W (env_of hL hsh) hc).mono fun e W' ⟨he, hb⟩ => ?_
  subst he
  exact ⟨_, rfl, law_post laid_out (by kernel_rfl) (by kernel_rfl) Tryz.underlying4 hW' rfl rfl hb⟩

theorem said : Rows.ScriptReturnsSaid :=
  OpenClaim.holds_of_cond 4 Tryz.f4 rfl rfl rfl rfl rfl rfl rfl ⟨rfl, rfl, rfl, rfl, rfl⟩ rfl rfl rfl rfl rfl (by kernel_rfl) Tryz.func4 (by kernel_rfl)
    (of_decide_eq_true (by kernel_rfl)) (by unfold Func.isWrapper; first | (rw [if_pos (by decide +kernel)]; kernel_rfl) | (rw [if_neg (by decide +kernel)]; exact ⟨rfl, rfl⟩))
    (fun os started H enc _ F => by rw [OpenClaim.pre_eq_preRow]; exact lifted os started H enc F)

theorem plain (f : FuncId) (fn : Func) (hf : Tryz.pinned.checked.prog.funcNamed "synoptic/synopticlaw41.ScriptReturns" = some f) (hfn : Tryz.pinned.checked.prog.funcs[f]? = some fn) :
    true = Tryz.pinned.checked.prog.looks [] ∧ ∀ (j : Nat) t, fn.params[j]? = some t → Tryz.pinned.checked.prog.wantsStandIn t = false := by
  obtain rfl : f = 4 := Option.some.inj ((show Tryz.prog.funcNamed "synoptic/synopticlaw41.ScriptReturns" = some 4 by kernel_rfl).symm.trans hf) |>.symm
  obtain rfl : fn = Tryz.f4 := (Option.some.inj (Tryz.func4.symm.trans hfn)).symm
  refine ⟨by kernel_rfl, fun j t ht => ?_⟩
  have hall : (Tryz.f4.params.all fun t => !Tryz.prog.wantsStandIn t) = true := by kernel_rfl
  have := (Array.all_eq_true_iff_forall_mem.1 hall) t (Array.mem_of_getElem? ht)
  have h2 : Tryz.prog.wantsStandIn t = false := by simpa using this
  exact h2
end Go.Proofs.YtobaoekibnloiaaGreatDoor.returns

namespace Go.Proofs.YtobaoekibnloiaaGreatDoor
theorem returns_card : Rows.ScriptReturnsCardSaid :=
  Claim7.holds_tied_plain_at .later [] _ _ _ _ returns.said (fun _ h => by cases h) (by kernel_rfl) (fun _ h => by cases h) scriptReturns_row_tie rfl ⟨rfl, rfl⟩ (by kernel_rfl) rfl returns.plain (by kernel_rfl)
#print axioms returns_card
end Go.Proofs.YtobaoekibnloiaaGreatDoor
