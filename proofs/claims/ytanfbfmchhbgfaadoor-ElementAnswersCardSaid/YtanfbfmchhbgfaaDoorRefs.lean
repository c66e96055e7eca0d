/- Find, Validate, Without and Same of the reference of element return what their plain counterparts say. No conditions but a bound that every list in memory meets. -/
import Derived.Test.YtanfbfmchhbgfaaDoorWith
namespace Go.Proofs.YtanfbfmchhbgfaaDoor
open Go Go.RowKit

set_option maxRecDepth 100000 in
theorem rfind_any (v : Value) (rs : List (Int × Int)) (c : Int) (w : World) (hv : RdsAt w v rs) :
    Calls Tryd.prog 26 #[v, .int .i64 c] w fun e w' => e = .returned (.tuple #[.int .i64 (fv rs c), .bool (fo rs c)]) ∧ w = w' := by
  have Hv := Lib.hid hv
  obtain ⟨a, len, cap, rfl, hlen, hmax, _⟩ := hv
  have Hlen := Lib.hid hlen
  have Hfound : Hid (∀ k, k < len → (∀ i, i < k → (rs.getD i (0, 0)).1 ≠ c) → (rs.getD k (0, 0)).1 = c → fo rs c = true ∧ fv rs c = (rs.getD k (0, 0)).2) := by
    intro k hk hno he
    have hk' : k < rs.length := by omega
    unfold fo fv
    refine ⟨?_, ?_⟩
    · rw [List.any_eq_true]; exact ⟨_, List.getElem_mem hk', by rw [getD_mem hk'] at he; simpa using he⟩
    · have : rs.find? (fun r => r.1 == c) = some rs[k] := by
        rw [List.find?_eq_some_iff_getElem]
        refine ⟨by rw [getD_mem hk'] at he; simpa using he, k, hk', rfl, fun j hj => ?_⟩
        have := hno j hj
        rw [getD_mem (show j < rs.length by omega)] at this
        simpa using this
      rw [this, getD_mem hk']; rfl
  have Hnone : Hid ((∀ i, i < len → (rs.getD i (0, 0)).1 ≠ c) → fo rs c = false ∧ fv rs c = 0) := by
    intro hno
    have hx : ∀ x ∈ rs, (x.1 == c) = false := by
      intro x hx
      obtain ⟨i, hi, rfl⟩ := List.getElem_of_mem hx
      have := hno i (by omega)
      rw [getD_mem hi] at this
      simpa using this
    unfold fo fv
    refine ⟨?_, ?_⟩
    · rw [List.any_eq_false]; intro x h; rw [hx x h]; simp
    · have : rs.find? (fun r => r.1 == c) = none := by rw [List.find?_eq_none]; intro x h; rw [hx x h]; simp
      rw [this]; rfl
  generalize fo rs c = o at *
  generalize fv rs c = f at *
  clear hlen
  go_enter Tryd.func26, Tryd.ntmps26
  go_wp2_with fail
  go_loop [6] (fun x => ∃ k : Nat, k ≤ len ∧ x = .int .i64 k ∧ Hid (∀ i, i < k → (rs.getD i (0, 0)).1 ≠ c)) (fun x => (len - intOf x).toNat)
  case atStart => exact ⟨0, by omega, rfl, fun i hi => by omega⟩
  case round =>
    obtain ⟨k, hk, rfl, hno⟩ := hrel
    by_cases hlt : k < len
    · obtain ⟨ab, ao, rfl, c0, c1⟩ := Hv.out.at hlt
      have Hf := Lib.hid (Hfound.out k hlt hno.out)
      obtain ⟨r0, r1, Hr⟩ : ∃ r0 r1, Hid (rs.getD k (0, 0) = (r0, r1)) := ⟨_, _, rfl⟩
      rw [Hr.out] at c0 c1 Hf
      simp only at c0 c1 Hf
      by_cases he : r0 = c
      · subst he
        obtain ⟨rfl, rfl⟩ := Hf.out rfl
        go_wp2_with fail
        go_ret2
        exact ⟨rfl, rfl⟩
      · have hb : (r0 == c) = false := by simpa using he
        have He := Lib.hid he
        clear he
        go_wp2_with fail
        go_round
        case rel =>
          refine ⟨k + 1, by omega, by go_num, fun i hi => ?_⟩
          rcases Nat.lt_or_ge i k with q | q
          · exact hno.out i q
          · obtain rfl : i = k := by omega
            rw [Hr.out]; exact He.out
        case measure => simp [intOf]; omega
    · obtain rfl : k = len := by omega
      obtain ⟨rfl, rfl⟩ := Hnone.out hno.out
      go_wp2_with fail
      go_ret2
      exact ⟨rfl, rfl⟩

set_option maxRecDepth 100000 in
set_option maxHeartbeats 1000000 in
theorem rwithout_any (v : Value) (rs : List (Int × Int)) (cv : Value) (zs : List Int) (w : World) (hv : RdsAt w v rs) (hn : rs.length ≤ 1000000) (hc : IntsR w cv zs) :
    Calls Tryd.prog 30 #[v, cv] w (NewWo rs zs w) := by
  have hv' := hv
  have hc' := hc
  obtain ⟨a, len, cap, rfl, hlen, hmax, _⟩ := hv
  obtain ⟨ca, clen, ccap, rfl, _, _, _, _⟩ := hc
  have Hlen := Lib.hid hlen
  have Hv := Lib.hid hv'
  have Hc := Lib.hid hc'
  have Hn := Lib.hid hn
  have hlen6 : len ≤ 1000000 := by omega
  clear hlen hv' hc' hn
  go_enter Tryd.func30, Tryd.ntmps30
  go_wp2_with fail
  go_loopw [5, 6] (fun o x wr => ∃ k : Nat, k ≤ len ∧ x = .int .i64 k ∧ Hid (Own wr w.heap.size o (wo zs (rs.take k))) ∧ Below w.heap.size w wr) (fun _ x _ => (len - intOf x).toNat)
  case atStart => exact ⟨0, by omega, rfl, Own.nil _ _, Below.refl _ _⟩
  case round =>
    obtain ⟨k, hk, rfl, hown, hB⟩ := hrel
    by_cases hlt : k < len
    · have hvr := Hv.out.below hB
      obtain ⟨ab, ao, rfl, q0, q1⟩ := hvr.at hlt
      have Htk := Lib.hid (take_getD (rs := rs) (k := k) (by have := Hlen.out; omega))
      have Hle : Hid ((wo zs (rs.take k)).length ≤ 1000000000) := by
        unfold Hid wo
        have h1 := List.length_filter_le (fun r : Int × Int => !zs.contains r.1) (rs.take k)
        have h2 : (rs.take k).length ≤ k := List.length_take_le _ _
        have := Hn.out
        omega
      obtain ⟨r0, r1, Hr⟩ : ∃ r0 r1, Hid (rs.getD k (0, 0) = (r0, r1)) := ⟨_, _, rfl⟩
      rw [Hr.out] at q0 q1 Htk
      simp only at q0 q1
      have hsz := hB.size
      have Hcont := Lib.hid (in_list (.slice ca clen ccap) zs r0 wr (Hc.out.below hB))
      have Hstep := Lib.hid (wo_snoc zs (rs.take k) (r0, r1))
      rw [← Htk.out] at Hstep
      clear hvr
      simp only at Hstep
      cases hcb : zs.contains r0
      · rw [hcb] at Hcont Hstep
        obtain ⟨v', w', hrun, hown', _, hB'⟩ := append_one hown.out Hle.out hsz r0 r1 45
        have Hrun := Lib.hid hrun
        have hB2 := Lib.hid (hB.trans hB')
        have Hown' := Lib.hid hown'
        clear hown' hB' hrun hown hcb hB
        go_wp2_with fail
        refine Hcont.out.mono ?_
        rintro r w1 ⟨rfl, rfl⟩
        go_wp2_with (at_builtin; refine wpList_append_run rfl _ _ _ rfl _ _ _ _ rfl rfl Hrun.out ?_)
        go_roundw
        case rel => exact ⟨k + 1, by omega, by go_num, by unfold Hid; rw [Hstep.out]; exact Hown'.out, hB2.out⟩
        case measure => simp [intOf]; omega
      · rw [hcb] at Hcont Hstep
        have HB1 := Lib.hid hB
        clear hcb hB
        go_wp2_with fail
        refine Hcont.out.mono ?_
        rintro r w1 ⟨rfl, rfl⟩
        go_wp2_with fail
        go_roundw
        case rel => exact ⟨k + 1, by omega, by go_num, by unfold Hid; rw [Hstep.out]; exact hown.out, HB1.out⟩
        case measure => simp [intOf]; omega
    · obtain rfl : k = len := by omega
      have Ht : Hid (rs.take k = rs) := List.take_of_length_le (by have := Hlen.out; omega)
      go_wp2_with fail
      go_ret
      exact ⟨_, rfl, by have := hown.out; rw [Ht.out] at this; exact this, hB⟩

set_option maxRecDepth 100000 in
/-- Same of two slices that read alike. -/
theorem rsame_eq (u v : Value) (rs : List (Int × Int)) (w : World) (hu : RdsAt w u rs) (hv : RdsAt w v rs) :
    Calls Tryd.prog 28 #[u, v] w fun e w' => e = .returned (.bool true) ∧ Below w.heap.size w w' := by
  have Hu := Lib.hid hu
  have Hv := Lib.hid hv
  obtain ⟨a, len, cap, rfl, hlen, hmax, _⟩ := hu
  obtain ⟨a', len', cap', rfl, hlen', hmax', _⟩ := hv
  obtain rfl : len = len' := by omega
  clear hlen hlen'
  go_enter Tryd.func28, Tryd.ntmps28
  go_wp2_with fail
  go_loopw [5] (fun x wr => ∃ k : Nat, k ≤ len ∧ x = .int .i64 k ∧ Below w.heap.size w wr) (fun x _ => (len - intOf x).toNat)
  case atStart => exact ⟨0, by omega, rfl, Below.refl _ _⟩
  case round =>
    obtain ⟨k, hk, rfl, hB⟩ := hrel
    by_cases hlt : k < len
    · obtain ⟨ab, ao, rfl, c0, c1⟩ := (Hu.out.below hB).at hlt
      obtain ⟨bb, bo, rfl, d0, d1⟩ := (Hv.out.below hB).at hlt
      generalize (rs.getD k (0, 0)).1 = r0 at *
      generalize (rs.getD k (0, 0)).2 = r1 at *
      have e2 : (0 : Int) ≤ (k : Int) := by omega
      have e3 : (k : Int) < len := by omega
      go_wp2_with fail
      go_quiet (fail)
      clear e2 e3
      go_wp2_with fail
      go_roundw
      case rel => exact ⟨k + 1, by omega, by go_num, bdrewN hB _⟩
      case measure => simp [intOf]; omega
    · obtain rfl : k = len := by omega
      go_wp2_with fail
      go_ret
      exact ⟨rfl, hB⟩

theorem hasE_true {bad : Int} {rs : List (Int × Int)} {k : Nat} (hk : k < rs.length) (h : chk (rs.getD k (0, 0)).1 (rs.getD k (0, 0)).2 = bad) : hasE bad rs = true := by
  unfold hasE; rw [List.any_eq_true]
  exact ⟨rs[k], List.getElem_mem hk, by rw [getD_mem hk] at h; simpa using h⟩
theorem hasE_no {bad : Int} {rs : List (Int × Int)} (h : ∀ k, k < rs.length → chk (rs.getD k (0, 0)).1 (rs.getD k (0, 0)).2 ≠ bad) : hasE bad rs = false := by
  unfold hasE; rw [List.any_eq_false]
  intro x hx
  obtain ⟨k, hk, rfl⟩ := List.getElem_of_mem hx
  have := h k hk
  rw [getD_mem hk] at this
  simpa using this
theorem descE_chk (e v : Int) : descE e = 4 ∧ chk e v = 4 ∨ descE e = 0 ∧ chk e v ≠ 4 := by
  unfold descE chk
  by_cases h : 1 ≤ e ∧ e ≤ 11
  · right; rw [if_pos h, if_pos h]; split <;> simp
  · left; rw [if_neg h, if_neg h]; simp
theorem in_chk {e v : Int} (h : chk e v ≠ 4) : (decide (least e ≤ v ∧ v ≤ most e) = true ∧ chk e v ≠ 1) ∨ (decide (least e ≤ v ∧ v ≤ most e) = false ∧ chk e v = 1) := by
  unfold chk at *
  by_cases h1 : 1 ≤ e ∧ e ≤ 11
  · rw [if_pos h1] at *
    by_cases h2 : v < least e ∨ most e < v
    · right; rw [if_pos h2]; simp; omega
    · left; rw [if_neg h2]; simp; omega
  · rw [if_neg h1] at h; simp at h

set_option maxRecDepth 100000 in
set_option maxHeartbeats 2000000 in
theorem rvalidate_any (v : Value) (rs : List (Int × Int)) (w : World) (hv : RdsAt w v rs) :
    Calls Tryd.prog 27 #[v] w fun e w' => e = .returned (.int .i64 (valE rs)) ∧ Below w.heap.size w w' := by
  have Hv := Lib.hid hv
  obtain ⟨a, len, cap, rfl, hlen, hmax, _⟩ := hv
  have Hlen := Lib.hid hlen
  have Hval : Hid (valE rs = if hasE 4 rs then 4 else if hasE 1 rs then 1 else if ascB rs then 0 else 8) := rfl
  clear hlen
  go_enter Tryd.func27, Tryd.ntmps27
  go_wp2_with fail
  go_loopw [3] (fun x wr => ∃ k : Nat, k ≤ len ∧ x = .int .i64 k ∧ Hid (∀ i, i < k → chk (rs.getD i (0, 0)).1 (rs.getD i (0, 0)).2 ≠ 4) ∧ Below w.heap.size w wr) (fun x _ => (len - intOf x).toNat)
  case atStart => exact ⟨0, by omega, rfl, fun i hi => by omega, Below.refl _ _⟩
  case round =>
    obtain ⟨k, hk, rfl, hno, hB⟩ := hrel
    by_cases hlt : k < len
    · obtain ⟨ab, ao, rfl, c0, c1⟩ := (Hv.out.below hB).at hlt
      have Hd := Lib.hid (rdesc_any (rs.getD k (0, 0)).1 wr)
      have hdc := descE_chk (rs.getD k (0, 0)).1 (rs.getD k (0, 0)).2
      have Hyes := Lib.hid (hasE_true (bad := 4) (rs := rs) (k := k) (by have := Hlen.out; omega))
      obtain ⟨r0, r1, Hr⟩ : ∃ r0 r1, Hid (rs.getD k (0, 0) = (r0, r1)) := ⟨_, _, rfl⟩
      rw [Hr.out] at c0 c1 Hd hdc Hyes
      simp only at c0 c1 Hd hdc Hyes
      have Hd' : Hid (Calls Tryd.prog 23 #[.int .i64 r0] wr fun e w' => e = .returned (.tuple #[infoV (letter r0) (least r0) (most r0) (digits r0), .int .i64 (descE r0)]) ∧ Below wr.heap.size wr w') := Hd
      clear Hd
      have hsz := hB.size
      rcases hdc with ⟨h1, h2⟩ | ⟨h1, h2⟩
      · rw [h1] at Hd'
        have Hx := Lib.hid (Hyes.out h2)
        clear h1 h2
        go_wp2_with fail
        refine Hd'.out.mono ?_
        unfold infoV
        rintro e w1 ⟨rfl, hb⟩
        have hb' := below_then hB hb
        have hsz1 := hb'.size
        clear hb hB
        go_wp2_with fail
        go_ret
        exact ⟨by rw [Hval.out, Hx.out]; rfl, hb'.alloc hsz1 _⟩
      · rw [h1] at Hd'
        have Hx := Lib.hid h2
        clear h1 h2
        go_wp2_with fail
        refine Hd'.out.mono ?_
        unfold infoV
        rintro e w1 ⟨rfl, hb⟩
        have hb' := below_then hB hb
        have hsz1 := hb'.size
        clear hb hB
        go_wp2_with fail
        go_roundw
        case rel =>
          refine ⟨k + 1, by omega, by go_num, fun i hi => ?_, hb'.alloc hsz1 _⟩
          rcases Nat.lt_or_ge i k with q | q
          · exact hno.out i q
          · obtain rfl : i = k := by omega
            rw [Hr.out]; exact Hx.out
        case measure => simp [intOf]; omega
    · obtain rfl : k = len := by omega
      have H4 := Lib.hid (hasE_no (bad := 4) (rs := rs) (fun i hi => hno.out i (by have := Hlen.out; omega)))
      go_wp2_with fail
      obtain ⟨wo, rfl⟩ : ∃ wo : World, wo = wr := ⟨_, rfl⟩
      go_loopw [6] (fun x wr => ∃ k' : Nat, k' ≤ k ∧ x = .int .i64 k' ∧ Hid (∀ i, i < k' → chk (rs.getD i (0, 0)).1 (rs.getD i (0, 0)).2 ≠ 1) ∧ Below w.heap.size w wr) (fun x _ => (k - intOf x).toNat)
      case atStart => exact ⟨0, by omega, rfl, fun i hi => by omega, hB⟩
      case round =>
        obtain ⟨j, hj, rfl, hno1, hB1⟩ := hrel
        by_cases hlt1 : j < k
        · obtain ⟨ab, ao, rfl, c0, c1⟩ := (Hv.out.below hB1).at hlt1
          have Hin := Lib.hid (in_any (rs.getD j (0, 0)).1 (rs.getD j (0, 0)).2 wr)
          have hic := in_chk (hno.out j hlt1)
          have Hyes := Lib.hid (hasE_true (bad := 1) (rs := rs) (k := j) (by have := Hlen.out; omega))
          obtain ⟨r0, r1, Hr⟩ : ∃ r0 r1, Hid (rs.getD j (0, 0) = (r0, r1)) := ⟨_, _, rfl⟩
          rw [Hr.out] at c0 c1 Hin hic Hyes
          simp only at c0 c1 Hin hic Hyes
          have hsz := hB1.size
          rcases hic with ⟨h1, h2⟩ | ⟨h1, h2⟩
          · rw [h1] at Hin
            have Hx := Lib.hid h2
            clear h1 h2
            go_wp2_with fail
            refine Hin.out.mono ?_
            rintro e w1 ⟨rfl, hb⟩
            have hb' := below_then hB1 hb
            clear hb hB1
            go_wp2_with fail
            go_roundw
            case rel =>
              refine ⟨j + 1, by omega, by go_num, fun i hi => ?_, hb'⟩
              rcases Nat.lt_or_ge i j with q | q
              · exact hno1.out i q
              · obtain rfl : i = j := by omega
                rw [Hr.out]; exact Hx.out
            case measure => simp [intOf]; omega
          · rw [h1] at Hin
            have Hx := Lib.hid (Hyes.out h2)
            clear h1 h2
            go_wp2_with fail
            refine Hin.out.mono ?_
            rintro e w1 ⟨rfl, hb⟩
            have hb' := below_then hB1 hb
            clear hb hB1
            go_wp2_with fail
            go_ret
            exact ⟨by rw [Hval.out, H4.out, Hx.out]; rfl, hb'⟩
        · obtain rfl : j = k := by omega
          have H1 := Lib.hid (hasE_no (bad := 1) (rs := rs) (fun i hi => hno1.out i (by have := Hlen.out; omega)))
          go_wp2_with fail
          obtain ⟨wo1, rfl⟩ : ∃ wo : World, wo = wr := ⟨_, rfl⟩
          go_loopw [7] (fun x wr => ∃ m : Nat, (m + 1 ≤ j ∨ m = 0) ∧ x = .int .i64 ((m : Int) + 1) ∧ Hid (∀ i, 1 ≤ i → i < m + 1 → (rs.getD (i - 1) (0, 0)).1 < (rs.getD i (0, 0)).1) ∧ Below w.heap.size w wr) (fun x _ => (j + 1 - intOf x).toNat)
          case atStart => exact ⟨0, by omega, rfl, fun i h1 h2 => by omega, hB1⟩
          case round =>
            obtain ⟨m, hk2, rfl, hasc, hBr⟩ := hrel
            by_cases hlt : m + 1 < j
            · obtain ⟨ab, ao, rfl, c0, _⟩ := (Hv.out.below hBr).at (i := m) (by omega)
              obtain ⟨ab', ao', e', c1, _⟩ := (Hv.out.below hBr).at (i := m + 1) hlt
              obtain ⟨rfl, rfl⟩ : ab = ab' ∧ ao = ao' := by simpa using e'
              have hstep : (rs.getD m (0, 0)).1 < (rs.getD (m + 1) (0, 0)).1 ∨ ¬ (rs.getD m (0, 0)).1 < (rs.getD (m + 1) (0, 0)).1 := Decidable.em _
              have Hx : Hid (∃ x y, (rs.getD m (0, 0)).1 = x ∧ (rs.getD (m + 1) (0, 0)).1 = y) := ⟨_, _, rfl, rfl⟩
              obtain ⟨x, y, hx, hy⟩ := Hx.out
              rw [hx] at c0
              rw [hy] at c1
              rw [hx, hy] at hstep
              have HX := Lib.hid hx
              have HY := Lib.hid hy
              clear hx hy Hx e'
              have e1 : IntKind.i64.wrap (m : Int) = m := IntWalk.i64_in _ (by omega)
              have e2 : (0 : Int) ≤ (m : Int) + 1 := by omega
              have e3 : (m : Int) + 1 < j := by omega
              have e4 : (m : Int) < j := by omega
              have e5 : ((m : Int) + 1).toNat = m + 1 := by omega
              rcases hstep with hstep | hstep
              · go_wp2_with fail
                go_quiet (fail)
                clear e1 e2 e3 e4 e5
                go_wp2_with fail
                go_roundw
                case rel =>
                  refine ⟨m + 1, by omega, by go_num, fun i h1 h2 => ?_, bdrewN hBr _⟩
                  rcases Nat.lt_or_ge i (m + 1) with q | q
                  · exact hasc.out i h1 q
                  · obtain rfl : i = m + 1 := by omega
                    rw [Nat.add_sub_cancel, HX.out, HY.out]; exact hstep
                case measure => simp [intOf]; omega
              · have Ha := Lib.hid (ascB_false (rs := rs) (i := m + 1) (by omega) (by have := Hlen.out; omega) (by rw [Nat.add_sub_cancel, HX.out, HY.out]; exact hstep))
                go_wp2_with fail
                go_quiet (fail)
                clear e1 e2 e3 e4 e5
                go_wp2_with fail
                go_ret
                exact ⟨by rw [Hval.out, H4.out, H1.out, Ha.out]; rfl, bdrewN hBr _⟩
            · have Ha := Lib.hid (ascB_true (rs := rs) (fun i h1 h2 => hasc.out i h1 (by have := Hlen.out; omega)))
              go_wp2_with fail
              go_ret
              exact ⟨by rw [Hval.out, H4.out, H1.out, Ha.out]; rfl, hBr⟩
end Go.Proofs.YtanfbfmchhbgfaaDoor
