/- ElementSorted answers true at every list. No conditions. -/
import Derived.Test.YtanfbfmchhbgfaaDoorSortLaw
import Derived.Test.YtanfbfmchhbgfaaDoorRds
import Derived.Deep.RegionHeld3
namespace Go.Proofs.YtanfbfmchhbgfaaDoor
open Go Go.RowKit

theorem ordR_snoc {rs : List (Int × Int)} {zs : List Int} {m : Nat} (h : m < zs.length) : ordR rs (zs.take (m + 1)) = ordR rs (zs.take m) ++ [rs.getD (zs.getD m 0).toNat (0, 0)] := by
  unfold ordR
  rw [List.take_succ_eq_append_getElem h, List.map_append]
  simp [List.getD_eq_getElem?_getD, h]


/-- What stands when the readings are being put into another order: y holds those put. -/
structure Mid (w1 : World) (b : Nat) (xv ov : Value) (rs : List (Int × Int)) (zs : List Int) (wr : World) : Prop where
  x : Own wr w1.heap.size xv rs
  o : IntsR wr ov zs
  st : St w1 b b wr
theorem Mid.below {w1 : World} {b : Nat} {xv ov : Value} {rs : List (Int × Int)} {zs : List Int} {wr w' : World} (h : Mid w1 b xv ov rs zs wr) (hb : Below wr.heap.size wr w') : Mid w1 b xv ov rs zs w' := ⟨h.x.below hb, h.o.below hb, h.st.below hb⟩

set_option maxRecDepth 100000 in
set_option maxHeartbeats 4000000 in
theorem sorted_any (lv : Value) (zl : List Int) (w : World) (hG : Glo w) (hl : IntsAt w w.heap.size lv zl) :
    Calls Tryd.prog 5 #[lv] w fun e w' => e = .returned (.bool true) ∧ Below w.heap.size w w' := by
  have hs0 := hG.size
  have hnew := new_ok lv zl w hl
  have Hnew := Lib.hid hnew
  have HG := Lib.hid hG
  clear hnew hG hl
  go_enter Tryd.func5, Tryd.ntmps5
  go_wp2_with fail
  refine Hnew.out.mono ?_
  rintro r w1 ⟨rfl, hsrc, hb1, hz1⟩
  have hz1 : w.heap.size + 1 ≤ w1.heap.size := by omega
  have Hsrc := Lib.hid hsrc
  clear hsrc Hnew
  go_wp2_with fail
  refine (list_ok w.heap.size w.heap.size w1 Hsrc.out).mono ?_
  rintro r w2 ⟨v, rs, rfl, hown, hgood, hrl, hst⟩
  have Hown := Lib.hid hown
  have Hrds := Lib.hid (hown.rds (by omega))
  have Hgood := Lib.hid hgood
  have Hst2 := Lib.hid hst
  have hw12 := hst.size
  clear hown hgood hst
  obtain ⟨xa, xl, xc, rfl⟩ : ∃ a l c, v = .slice a l c := by obtain ⟨a, l, c, e, _⟩ := Hrds.out; exact ⟨a, l, c, e⟩
  have hxl : rs.length = xl := by obtain ⟨a, l, c, e, hl, _⟩ := Hrds.out; injection e with _ e _; omega
  have Hxl := Lib.hid hxl
  have hxl11 : xl ≤ 11 := by omega
  clear hxl hrl
  go_wp2_with fail
  refine (order_ok w.heap.size w.heap.size xl w2 Hst2.out.1 (by omega)).mono ?_
  rintro r w3 ⟨ov, zs, rfl, hoz, hperm, hst3⟩
  rw [Hxl.out.symm] at hperm
  obtain ⟨hzl, hzr⟩ := perm_range hperm
  have hM : Mid w1 w.heap.size (.slice xa xl xc) ov rs zs w3 := ⟨Hown.out.but hst3.2 (by omega), ownsInts hoz (by rw [hzl, Hxl.out]; omega), Hst2.out.then _ hst3.1.choose_spec hst3.2⟩
  have hw23 := hst3.size
  obtain ⟨oa, oc, rfl⟩ : ∃ a c, ov = .slice a xl c := by
    obtain ⟨a, l, c, e, q, _⟩ := hM.o
    rw [e]; exact ⟨a, c, by rw [← q, hzl, Hxl.out]⟩
  have HM := Lib.hid hM
  have Hzl := Lib.hid hzl
  have Hzr := Lib.hid hzr
  have Hord := Lib.hid (ord_val Hgood.out hperm)
  have HG3 := Lib.hid (((HG.out.below hb1 hs0).but hM.st.2 (by omega) (by omega)))
  clear hst3 hoz hperm hzl hzr hM
  go_wp2_with fail
  go_loopw [5, 6, 20] (fun y s x wr => ∃ m : Nat, m ≤ xl ∧ x = .int .i64 m ∧ s = .bool (sortedB zs m) ∧ Hid (Own wr w3.heap.size y (ordR rs (zs.take m))) ∧ Below w3.heap.size w3 wr) (fun _ _ x _ => (xl - intOf x).toNat)
  case atStart => exact ⟨0, by omega, rfl, (by rw [sortedB_zero]), Own.nil _ _, Below.refl _ _⟩
  case round =>
    obtain ⟨m, hm, rfl, rfl, hy, hB⟩ := hrel
    have hMr := Lib.hid (HM.out.below hB)
    by_cases hlt : m < xl
    · obtain ⟨ab, ao, e1, q0⟩ := (by obtain ⟨a, l, c, e, q, _, _, hel⟩ := hMr.out.o; injection e with e1 e2 e3; subst e1 e2 e3; exact hel m hlt : ∃ ab ao : Nat, oa = some ⟨ab, ao, none⟩ ∧ wr.cell? ⟨ab, ao + m, none⟩ = some (.int .i64 (zs.getD m 0)))
      subst e1
      have hz := Hzr.out m (by have := Hxl.out; omega)
      have Hsn := Lib.hid (ordR_snoc (rs := rs) (zs := zs) (m := m) (by have := Hzl.out; have := Hxl.out; omega))
      have Hss := Lib.hid (sortedB_succ zs m)
      obtain ⟨j, hj⟩ : ∃ j : Nat, zs.getD m 0 = j := ⟨(zs.getD m 0).toNat, by omega⟩
      rw [hj] at q0 hz Hsn Hss
      have hjl : j < xl := by have := Hxl.out; omega
      obtain ⟨xb, xo, e1, p0, p1⟩ := (hMr.out.x.rds (by have := Hxl.out; omega)).at hjl
      subst e1
      obtain ⟨r0, r1, Hr⟩ : ∃ r0 r1, Hid (rs.getD j (0, 0) = (r0, r1)) := ⟨_, _, rfl⟩
      rw [Hr.out] at p0 p1
      rw [show ((j : Int)).toNat = j by omega, Hr.out] at Hsn
      simp only at p0 p1
      have hsz := hB.size
      have Hle : Hid ((ordR rs (zs.take m)).length ≤ 1000000000) := by unfold Hid ordR; rw [List.length_map, List.length_take]; omega
      obtain ⟨y', w', hrun, hy', _, hB'⟩ := append_one hy.out Hle.out hsz r0 r1 45
      have Hrun := Lib.hid hrun
      have Hy := Lib.hid hy'
      have Hb := Lib.hid hB'
      have hB2 := hB.trans hB'
      clear hrun hy' hB' hj hz hMr hy
      generalize hsb : sortedB zs m = sb at *
      clear hsb
      have e2 : (0 : Int) ≤ (m : Int) := by omega
      cases sb
      · go_wp2_with (at_builtin; refine wpList_append_run rfl _ _ _ rfl _ _ _ _ rfl rfl Hrun.out ?_)
        go_roundw
        case rel => exact ⟨m + 1, by omega, by go_num, by rw [Hss.out]; rfl, by unfold Hid; rw [Hsn.out]; exact Hy.out, hB2⟩
        case measure => simp [intOf]; omega
      · by_cases he : j = m
        · subst he
          go_wp2_with (at_builtin; refine wpList_append_run rfl _ _ _ rfl _ _ _ _ rfl rfl Hrun.out ?_)
          go_roundw
          case rel => exact ⟨j + 1, by omega, by go_num, by rw [Hss.out]; simp, by unfold Hid; rw [Hsn.out]; exact Hy.out, hB2⟩
          case measure => simp [intOf]; omega
        · have hb : ((m : Int) == (j : Int)) = false := by simp; omega
          have He := Lib.hid he
          clear he
          go_wp2_with (at_builtin; refine wpList_append_run rfl _ _ _ rfl _ _ _ _ rfl rfl Hrun.out ?_)
          go_roundw
          case rel => exact ⟨m + 1, by omega, by go_num, by rw [Hss.out]; simp; have := He.out; omega, by unfold Hid; rw [Hsn.out]; exact Hy.out, hB2⟩
          case measure => simp [intOf]; omega
    · obtain rfl : m = xl := by omega
      have hyr : Own wr w3.heap.size u5 (ordR rs zs) := by
        have := hy.out
        rwa [List.take_of_length_le (by have := Hzl.out; have := Hxl.out; omega)] at this
      have Hyr := Lib.hid (hyr.rds (by unfold ordR; rw [List.length_map, Hzl.out, Hxl.out]; omega))
      have HGr := Lib.hid (HG3.out.below hB (by omega))
      have Hval := Lib.hid (fun w4 (h : RdsAt w4 u5 (ordR rs zs)) (g : Glo w4) => validate_any u5 (ordR rs zs) w4 g h)
      have Ho := Lib.hid Hord.out
      rw [Hxl.out] at Ho
      generalize valE (ordR rs zs) = ve at *
      generalize sortedB zs m = sb at *
      clear hy hyr
      have step : ∃ w5, Hid (Mid w1 w.heap.size (.slice xa m xc) (.slice oa m oc) rs zs w5) ∧ Hid (Glo w5) := ⟨wr, hMr, HGr⟩
      clear step
      cases sb
      case' false =>
        obtain rfl := Ho.out.2 rfl
        go_wp2_with fail
        refine (Hval.out _ Hyr.out HGr.out).mono ?_
        rintro e w4 ⟨rfl, hb⟩
        have Hyr4 := Lib.hid (Hyr.out.below hb)
        have HGr4 := Lib.hid (HGr.out.below hb HGr.out.size)
        have hMr4 := Lib.hid (hMr.out.below hb)
        clear hb
        go_wp2_with fail
        refine (Hval.out _ Hyr4.out HGr4.out).mono ?_
        rintro e w5 ⟨rfl, hb⟩
        have HGr5 := Lib.hid (HGr4.out.below hb HGr4.out.size)
        have hMr5 := Lib.hid (hMr4.out.below hb)
        clear hb
      case' true =>
        obtain rfl := Ho.out.1 rfl
        go_wp2_with fail
        refine (Hval.out _ Hyr.out HGr.out).mono ?_
        rintro e w5 ⟨rfl, hb⟩
        have HGr5 := Lib.hid (HGr.out.below hb HGr.out.size)
        have hMr5 := Lib.hid (hMr.out.below hb)
        clear hb
      all_goals
        have hBw := hb1.trans ((hMr5.out.st.2.mono (by omega : w.heap.size ≤ w1.heap.size)).below (Nat.le_refl _))
        clear Hyr Hval Hord Ho hMr HGr HM hB hb1 HG3
        rcases Nat.eq_zero_or_pos m with rfl | hpos
        · go_wp2_with fail
          refine (awake_any _ HGr5.out).mono ?_
          rintro e w6 ⟨rfl, hb⟩
          go_wp2_with fail
          go_ret
          exact ⟨rfl, below_then hBw hb⟩
        · have hm0 : ((m : Int) == 0) = false := by simp; omega
          go_wp2_with fail
          refine (n_ok w.heap.size w.heap.size m w5 hMr5.out.st.1 (by omega) (by omega)).mono ?_
          rintro e w6 ⟨x, hx0, hx1, rfl, hs⟩
          obtain ⟨j, rfl⟩ : ∃ j : Nat, x = j := ⟨x.toNat, by omega⟩
          have hj : j < m := by omega
          have HG6 := Lib.hid (HGr5.out.but hs.2 HGr5.out.size (by omega))
          have hBw6 := hBw.trans ((hs.2.mono hBw.size).below (Nat.le_refl _))
          have hx6 := hMr5.out.x.but hs.2 (by omega)
          obtain ⟨g, cap, e1, hc1, hc2, hc3, hc4⟩ := hx6.form (by rw [Hxl.out]; exact hpos)
          obtain ⟨rfl, rfl⟩ : xa = some (⟨g, 0, none⟩ : Addr) ∧ xc = cap := by injection e1 with q1 q2 q3; exact ⟨q1, q3⟩
          have Hx6 := Lib.hid (hx6.rds (by rw [Hxl.out]; omega))
          rw [Hxl.out] at hc1
          clear hs hMr5 HGr5 e1 hx6 hBw
          obtain ⟨gb, go, e1, c0, c1⟩ := Hx6.out.at hj
          obtain ⟨rfl, rfl⟩ : g = gb ∧ 0 = go := by simpa using e1
          have Htw := Lib.hid (twice_val Hgood.out (k := j) (by rw [Hxl.out]; exact hj))
          obtain ⟨r0, r1, Hr⟩ : ∃ r0 r1, Hid (rs.getD j (0, 0) = (r0, r1)) := ⟨_, _, rfl⟩
          rw [Hr.out] at c0 c1 Htw
          simp only [Nat.zero_add] at c0 c1
          clear e1
          have HS : Hid (∀ w', Below w6.heap.size w6 w' → w'.cell? ⟨g, j * 2, none⟩ = some (.int .i64 r0) ∧ w'.cell? ⟨g, j * 2 + 1, none⟩ = some (.int .i64 r1) ∧ Below w6.heap.size w6 w') := fun w' h => ⟨cell_then h c0, cell_then h c1, h⟩
          have Htake : Hid (∀ w', Below w6.heap.size w6 w' → RdsAt w' (.slice (some ⟨g, 0, none⟩) (j + 1) xc) (rs.take (j + 1))) := fun w' h => (Hx6.out.below h).take (by omega)
          have Hlt : Hid ((rs.take (j + 1)).length ≤ 11) := by unfold Hid; rw [List.length_take]; omega
          have Hld : Hid ((rs.drop (j + 1)).length ≤ 11) := by unfold Hid; rw [List.length_drop, Hxl.out]; omega
          generalize rs.take (j + 1) = ta at *
          obtain ⟨da, hda⟩ : ∃ da, rs.drop (j + 1) = da := ⟨_, rfl⟩
          rw [hda] at Hld Htw
          have Hda := Lib.hid hda
          clear hda
          have e0 : IntKind.i64.wrap ((j : Int) + 1) = (j : Int) + 1 := IntWalk.i64_in _ (by omega)
          have e2 : (0 : Int) ≤ (j : Int) := by omega
          have e3 : (j : Int) < m := by omega
          have e4 : (0 : Int) ≤ (j : Int) + 1 := by omega
          have e5 : (j : Int) + 1 ≤ m := by omega
          have e6 : (j : Int) + 1 ≤ xc := by omega
          have e7 : ((j : Int) + 1).toNat = j + 1 := by omega
          have hcase : ∃ A : Addr, Hid ((if xc = j + 1 then some (⟨g, 0, none⟩ : Addr) else some ⟨g, (j + 1) * 2, none⟩) = some A) ∧ Hid (∀ w', Below w6.heap.size w6 w' → RdsAt w' (.slice (some A) (m - (j + 1)) (xc - (j + 1))) da) := by
            by_cases hc : xc = j + 1
            · refine ⟨_, if_pos hc, fun w' h => ?_⟩
              obtain rfl : m = j + 1 := by omega
              have := (Hx6.out.below h).drop_all (xc - (j + 1))
              rw [Hda.out] at this
              rw [Nat.sub_self]; exact this
            · refine ⟨_, if_neg hc, fun w' h => ?_⟩
              have := (Hx6.out.below h).drop (k := j + 1) (by omega) (xc - (j + 1))
              rw [Hda.out, Nat.zero_add] at this; exact this
          clear Hda Hx6
          obtain ⟨A, HA, Hdrop⟩ := hcase
          go_wp2_with fail
          go_region_held3 (fun w' => w'.cell? ⟨g, j * 2, none⟩ = some (.int .i64 r0) ∧ w'.cell? ⟨g, j * 2 + 1, none⟩ = some (.int .i64 r1) ∧ Below w6.heap.size w6 w')
            (first | exact HS.out _ (Below.refl _ _).drew | (go_split_ands; first | with_reducible exact HS.out _ (Below.alloc (by assumption) (Below.size (by assumption)) _) | with_reducible exact HS.out _ (Below.drew (Below.alloc (Below.refl _ _) (Nat.le_refl _) _)) | with_reducible exact HS.out _ (Below.drew (Below.alloc (Below.alloc (Below.refl _ _) (Nat.le_refl _) _) (by simp) _)) | with_reducible exact HS.out _ (Below.trans (by assumption) hbC) | with_reducible exact HS.out _ (Below.trans (by assumption) hbB) | with_reducible exact HS.out _ (Below.trans (by assumption) hbA)))
            (first
              | (refine step_rds (by rfl) (.tmp 61) (.tmp 65) (by rfl) w6.heap.size (.slice (some ⟨_, 0, none⟩) 0 0) [] (by rfl) ?_ ⟨g, 0, none⟩ _ _ ta _ (by rfl) rfl ?_ ?_ ?_ ?_; (first | with_reducible exact (own_empty _ (Nat.le_refl _) rfl).drew | with_reducible exact ((own_empty _ (Nat.le_refl _) rfl).alloc _).drew | with_reducible exact (own_empty _ (by simp) (by simp)).drew); exact (Htake.out _ (by go_split_ands; assumption)); (have := Hlt.out; simp; omega); (go_split_ands; exact Below.size (by assumption)); intro v1 wA hoA hgA hbA)
              | (refine step_rds (by rfl) (.tmp 66) (.tmp 71) (by rfl) w6.heap.size v1 ([] ++ ta) (by rfl) ?_ ⟨_, 0, none⟩ 1 1 [(r0, r1)] _ (by rfl) rfl ?_ ?_ ?_ ?_; (first | with_reducible exact hoA.alloc _ | with_reducible exact hoA); (first | with_reducible exact rds_one wA rfl r0 r1 | with_reducible exact ((rds_one (w6.alloc _) (by simp) r0 r1).drew).far hgA (by simp [Value.ownBlock]) | with_reducible exact (((rds_one w6 rfl r0 r1).alloc _).drew).far hgA (by simp [Value.ownBlock])); (have := Hlt.out; simp; omega); (go_split_ands; exact Below.size (by assumption)); intro v2 wB hoB hgB hbB)
              | (refine step_rds (by rfl) (.tmp 72) (.tmp 76) (by rfl) w6.heap.size v2 ([] ++ ta ++ [(r0, r1)]) (by rfl) ?_ A _ _ da _ (by rfl) HA.out ?_ ?_ ?_ ?_; exact hoB; exact (Hdrop.out _ (by go_split_ands; assumption)); (have := Hlt.out; have := Hld.out; simp; omega); (go_split_ands; exact Below.size (by assumption)); intro v3 wC hoC hgC hbC)
              | fail)
          all_goals
            rw [HA.out]
            have HG7 := Lib.hid (HG6.out.below (by go_split_ands; assumption : Below w6.heap.size w6 wC) HG6.out.size)
            have hBw7 := hBw6.trans (Below.mono (by go_split_ands; assumption : Below w6.heap.size w6 wC) hBw6.size)
            have Hv := Lib.hid (validate_any v3 _ wC HG7.out (hoC.rds (by have := Hlt.out; have := Hld.out; simp; omega)))
            rw [List.nil_append, Htw.out] at Hv
            clear e0 e2 e3 e4 e5 e6 e7 hoA hgA hbA hoB hgB hbB hoC hgC hbC hBw6
            go_wp2_with fail
            refine Hv.out.mono ?_
            rintro e w8 ⟨rfl, hb⟩
            have HG8 := Lib.hid (HG7.out.below hb HG7.out.size)
            have hBw8 := below_then hBw7 hb
            clear hb hBw7
            go_wp2_with fail
            refine (awake_any _ HG8.out).mono ?_
            rintro e w9 ⟨rfl, hb⟩
            go_wp2_with fail
            go_ret
            exact ⟨rfl, below_then hBw8 hb⟩
end Go.Proofs.YtanfbfmchhbgfaaDoor
