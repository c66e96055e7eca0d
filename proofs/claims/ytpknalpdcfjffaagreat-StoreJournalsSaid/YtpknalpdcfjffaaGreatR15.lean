/- StoreJournals answers true at every input. No conditions. -/
import Derived.Test.YtpknalpdcfjffaaGreatR14
import Derived.Test.YtpknalpdcfjffaaGreatRows
import Derived.WalkKit
import Derived.ProofKit
import Derived.OpenShut
import Derived.SizedLaws
set_option linter.unusedVariables false
set_option linter.unusedSimpArgs false
/- StoreJournals answers true. Printed by gen_jou.py. -/
namespace Go.Proofs.YtpknalpdcfjffaaGreat
open Go Go.RowKit

set_option maxHeartbeats 16000000 in
set_option maxRecDepth 100000 in
theorem jou_any (v r : Value) (m : List UInt8) (n : Int) (hn : I64 n) (w : World) (hc : U8At w w.heap.size v) (hm : BytesL w w.heap.size r m) : Calls Tryz.prog 3 #[v, r, .int .i64 n] w (TrueIs w) := by
  have HC := Lib.hid hc
  have HM := Lib.hid hm
  have HNi := Lib.hid hn
  obtain ⟨ra, rc, rfl⟩ := hm.slice
  clear hc hm hn
  go_enter Tryz.func3, Tryz.ntmps3
  go_wp2_with fail
  refine (awake_any w).mono ?_
  rintro e w1 ⟨rfl, hb1⟩
  have HB1 := Lib.hid hb1
  have HC1 := Lib.hid (HC.out.below hb1)
  have HM1 := Lib.hid (HM.out.below hb1)
  clear hb1 HC HM
  by_cases hlen : 300 < m.length
  · have i0 : (300 : Int) < (m.length : Int) := by omega
    go_wp2_with fail
    go_ret
    exact ⟨rfl, HB1.out⟩
  have i0 : decide ((300 : Int) < (m.length : Int)) = false := decide_eq_false (by omega)
  have HLen : Hid (m.length ≤ 300) := by unfold Hid; omega
  clear hlen
  go_wp2_with fail
  refine (cnew_ok v 300 w.heap.size w1 HB1.out.size (by decide) HC1.out).mono ?_
  rintro e w2 ⟨rfl, hcd, hb2, _⟩
  have HB2 := Lib.hid (below_then HB1.out hb2)
  have HM2 := Lib.hid (HM1.out.below (hb2.mono HB1.out.size))
  have HLo : Hid (w.heap.size ≤ w1.heap.size) := HB1.out.size
  have HS0 : Hid (JS w2 w.heap.size w1.heap.size w2.heap.size (.slice none 0 0) [] w2) := ⟨St.start hcd, .nil, fun x hx => by simp at hx, Nat.le_refl _, hcd.lt, Nat.le_refl _⟩
  clear hcd hb2 HB1 HC1 HM1 i0
  go_wp2_with fail
  refine (next_ok w.heap.size w1.heap.size 4 w2 HS0.out.st.1 (by omega) (by omega)).mono ?_
  rintro e w3 ⟨kk, k0, k4, rfl, hs⟩
  obtain ⟨kk, rfl⟩ := Int.eq_ofNat_of_zero_le k0
  have HS := Lib.hid (HS0.out.call hs)
  clear hs HS0
  go_wp2_with fail
  go_loopw [8, 9] (fun lv kv wr => ∃ (k : Nat) (xs : List Ent), kv = .int .i64 k ∧ xs.length + k ≤ 4 ∧ Hid (JS w2 w.heap.size w1.heap.size w2.heap.size lv xs wr)) (fun _ kv _ => (intOf kv).toNat)
  case atStart => exact ⟨kk, [], rfl, by simp; omega, HS⟩
  case round =>
    clear HS
    obtain ⟨k, xs, rfl, hk, HS⟩ := hrel
    obtain ⟨la, lc, rfl⟩ := HS.out.row.slice
    have HL := Lib.hid hk
    clear hk
    by_cases hk0 : 0 < k
    · have i0 : (0 : Int) < (k : Int) := by omega
      have HK0 : Hid (0 < k) := hk0
      have i4 : (k : Int) ≤ 4 := by have := HL.out; omega
      go_wp2_with fail
      refine (entry_ok w.heap.size w1.heap.size wr HS.out.st.1).mono ?_
      rintro e w5 ⟨x, cs, rfl, hrep, hcan, hsm, hst⟩
      have hok := canon_ok hrep hcan
      have hg : good x := ⟨hok.1, hok.2.1, hok.2.2, ent_short hcan hsm⟩
      have HcsL : cs.length = 38 := entE_ok.len hrep
      have HOne := Lib.hid (entE_ok.one hrep)
      obtain ⟨v6, w6, hrun, hS6⟩ := HS.out.push hg hst hrep (by have := HL.out; omega) 26
      have HRun := Lib.hid hrun
      have HS6 := Lib.hid hS6
      clear hok hg hrep hcan hsm hst hrun hS6
      go_wp2_with (first
        | ((first | with_reducible refine gate_li ?_ | with_reducible refine gate_liw ?_); refine list_lit logT rfl _ rfl cs rfl HcsL HOne.out ?_)
        | (at_builtin; refine wpList_append_run rfl _ _ _ rfl _ _ _ _ rfl rfl HRun.out ?_; clear HRun)
        | fail)
      go_roundw
      case rel => exact ⟨k - 1, _, by have := HK0.out; go_num, by have := HL.out; have := HK0.out; simp; omega, HS6⟩
      case measure => have := HK0.out; simp [intOf]; omega
    · obtain rfl : k = 0 := by omega
      have HX : Hid (xs.length ≤ 4) := by have := HL.out; unfold Hid; omega
      have HJ : Hid (JT w w2 w1.heap.size w2.heap.size la lc xs ra rc m wr) := ⟨HS.out, HB2.out.trans ((HS.out.st.2.mono HB2.out.size).below HLo.out), HM2.out.below ((HS.out.st.2.mono HB2.out.size).below HLo.out)⟩
      have HGd := Lib.hid HS.out.ok
      clear HS HL HM2
      obtain ⟨X, hX⟩ : ∃ X, X = xs.length := ⟨_, rfl⟩
      have HXe := Lib.hid hX
      have x4 : (X : Int) ≤ 4 := by have := HX.out; omega
      rw [← hX]
      clear hX
      have hmm : m.length + 1048576 * xs.length ≤ 900000000 := by have := HX.out; have := HLen.out; omega
      have hss : ∀ x ∈ xs, ∀ b, entB x = some b → b.length ≤ 9000000 := fun x hx b hb => by have := (HGd.out x hx).small b hb; omega
      have HMm := Lib.hid (And.intro hmm hss)
      obtain ⟨R, hR⟩ : ∃ R, R = appRes m xs := ⟨_, rfl⟩
      have HRe := Lib.hid hR
      have HBr : Hid (w1.heap.size < wr.heap.size ∧ w.heap.size ≤ wr.heap.size) := by have := HJ.out.j.sz; have := HJ.out.j.bb; have := HJ.out.b.size; exact ⟨by omega, this⟩
      clear hmm hss hR
      go_wp2_with fail
      have hcall := app_any (.slice ra m.length rc) _ m xs _ wr HJ.out.raw (HJ.out.rd HX.out) HMm.out.2 HMm.out.1
      rw [← HXe.out] at hcall
      refine hcall.mono ?_
      rintro e wa ⟨v1, rfl, ho, hb⟩
      rw [← HRe.out] at ho ⊢
      obtain ⟨R1, R2⟩ := R
      dsimp only at ho ⊢
      obtain ⟨a1, c1, rfl⟩ := ho.slice
      have HJ1 := Lib.hid (HJ.out.below hb)
      have HO1 := Lib.hid ho
      have HBa : Hid (wr.heap.size ≤ wa.heap.size) := hb.size
      clear ho hb HJ hcall
      go_wp2_with fail
      have hcall := rapp_any (.slice ra m.length rc) _ m xs _ wa HJ1.out.raw (HJ1.out.rd HX.out) HMm.out.2 HMm.out.1
      rw [← HXe.out] at hcall
      refine hcall.mono ?_
      rintro e wb ⟨v2, rfl, ho, hb⟩
      rw [← HRe.out] at ho ⊢
      dsimp only at ho ⊢
      obtain ⟨a2, c2, rfl⟩ := ho.slice
      have HJ2 := Lib.hid (HJ1.out.below hb)
      have HO2 := Lib.hid (HO1.out.grownB hb)
      have HP2 := Lib.hid ho
      have HBb : Hid (wa.heap.size ≤ wb.heap.size) := hb.size
      clear ho hb HJ1 HO1 hcall HRe
      obtain ⟨v3, wc, hrun, hro, hb⟩ := RowE.copy entE_ok logT HJ2.out.j.row (by have := HX.out; omega) 26
      rw [← HXe.out] at hrun
      have HRun := Lib.hid hrun
      have HRo := Lib.hid hro
      have HJ3 := Lib.hid (HJ2.out.below hb)
      have HBc := Lib.hid hb
      clear hrun hro hb
      go_wp2_with (first
        | (at_builtin; refine wpList_append_run rfl _ _ _ rfl _ _ _ _ rfl rfl HRun.out ?_; clear HRun)
        | fail)
      refine (next_ok w.heap.size w1.heap.size 7 wc HJ3.out.j.st.1 (by omega) (by omega)).mono ?_
      rintro e wd ⟨y, y0, y7, rfl, hs⟩
      have HJ4 := Lib.hid (HJ3.out.call hs HLo.out)
      have HRo4 := Lib.hid (HRo.out.kept entE_ok (KeptBut.st hs) HJ2.out.j.bb HJ2.out.j.sz)
      obtain ⟨q, hq⟩ : ∃ q, q = y - 1 := ⟨_, rfl⟩
      have hqI : I64 q := by unfold I64; omega
      have HQi := Lib.hid hqI
      obtain ⟨v4, we, hrun, hro, hb⟩ := HRo4.out.append entE_ok logT (kc_rep _ _ q hqI) (by have := HX.out; omega) (Nat.le_trans HBc.out.size hs.2.size) 26
      have hk := KeptBut.three HBc.out (KeptBut.st hs) hb (Nat.le_refl _)
      have hlow : w.heap.size ≤ wb.heap.size := HJ2.out.b.size
      have HJ5 : Hid (JT w w2 w1.heap.size w2.heap.size la lc xs ra rc m we) := HJ2.out.kept hk (HJ4.out.j.st.grown hb (Nat.lt_of_lt_of_le HJ2.out.j.bb HJ2.out.j.sz) (Nat.le_trans HJ2.out.j.wb HJ2.out.j.sz)) (HJ4.out.b.trans (hb.mono hlow)) (HJ4.out.r.below (hb.mono hlow))
      have HO5 := Lib.hid (HO2.out.keptB hk HBr.out.1)
      have HP5 := Lib.hid (HP2.out.keptB hk (Nat.lt_of_lt_of_le HBr.out.1 HBa.out))
      have HRd5 := Lib.hid (hro.rd entE_ok (by decide) (by rw [List.length_append]; have := HX.out; simp; omega))
      have HRun := Lib.hid hrun
      have hyq : y - 1 = q := hq.symm
      have hbK := run_buildK q
      have HKl : Hid ((kc q).length = 38) := kc_length q
      clear hrun hro hb hk hlow hs hq hqI HRo4 HRo HJ4 HJ3 HBc HJ2 HO2 HP2
      go_upto_region 14 with (first
        | ((first | with_reducible refine gate_li ?_ | with_reducible refine gate_liw ?_); refine list_lit logT rfl _ rfl (kc q) rfl rfl (kc_one q) ?_)
        | (at_builtin; refine wpList_append_run rfl _ _ _ rfl _ _ _ _ rfl rfl HRun.out ?_; clear HRun)
        | fail)
      obtain ⟨la4, lc4, rfl⟩ := HRd5.out.slice
      obtain ⟨ys, hys⟩ : ∃ ys, ys = xs ++ [{ Ent.zero with kind := q }] := ⟨_, rfl⟩
      rw [← hys] at HRd5 ⊢
      have HYs : Hid (m.length + 1048576 * ys.length ≤ 900000000 ∧ ∀ x ∈ ys, ∀ b, entB x = some b → b.length ≤ 9000000) := by
        refine ⟨by rw [hys, List.length_append]; have := HX.out; have := HLen.out; simp; omega, fun x hx b hb => ?_⟩
        rw [hys] at hx
        rcases List.mem_append.1 hx with hx | hx
        · exact HMm.out.2 x hx b hb
        · obtain rfl : x = { Ent.zero with kind := q } := by simpa using hx
          have := zero_short q b hb; omega
      obtain ⟨Y, hY⟩ : ∃ Y, Y = ys.length := ⟨_, rfl⟩
      have HYe := Lib.hid hY
      obtain ⟨S, hS⟩ : ∃ S, S = appRes m ys := ⟨_, rfl⟩
      have HSe := Lib.hid hS
      rw [← hY]
      clear hys hY hS y0 y7 hyq hbK HKl
      go_wp2_with fail
      have hcall := app_any (.slice ra m.length rc) _ m ys _ we HJ5.out.raw HRd5.out HYs.out.2 HYs.out.1
      rw [← HYe.out] at hcall
      refine hcall.mono ?_
      rintro e wf ⟨v5, rfl, ho, hb⟩
      rw [← HSe.out] at ho ⊢
      obtain ⟨S1, S2⟩ := S
      dsimp only at ho ⊢
      obtain ⟨a5, c5, rfl⟩ := ho.slice
      have HJ6 := Lib.hid (HJ5.out.below hb)
      have HO6 := Lib.hid (HO5.out.grownB hb)
      have HP6 := Lib.hid (HP5.out.grownB hb)
      have HU6 := Lib.hid ho
      have HRd6 := Lib.hid (HRd5.out.keep entE_ok (Keeps.of_below hb))
      clear ho hb HJ5 HO5 HP5 HRd5 hcall
      go_wp2_with fail
      have hcall := rapp_any (.slice ra m.length rc) _ m ys _ wf HJ6.out.raw HRd6.out HYs.out.2 HYs.out.1
      rw [← HYe.out] at hcall
      refine hcall.mono ?_
      rintro e wg ⟨v6, rfl, ho, hb⟩
      rw [← HSe.out] at ho ⊢
      dsimp only at ho ⊢
      obtain ⟨a6, c6, rfl⟩ := ho.slice
      have HJ7 := Lib.hid (HJ6.out.below hb)
      have hc1 := bytesR_conv (HO6.out.grownB hb).bl.r
      have hc2 := bytesR_conv (HP6.out.grownB hb).bl.r
      have hc3 := bytesR_conv (HU6.out.grownB hb).bl.r
      have hc4 := bytesR_conv ho.bl.r
      clear ho hb HJ6 HO6 HP6 HU6 HRd6 hcall HSe
      go_wp2_with fail
      have hcall := rapp_any (.slice none 0 0) _ [] xs _ wg (BytesL.nil _ _) (HJ7.out.rd HX.out) HMm.out.2 (by have := HX.out; simp; omega)
      rw [← HXe.out] at hcall
      refine hcall.mono ?_
      rintro e wh ⟨v7, rfl, ho, hb⟩
      have happ := app_good xs [] HGd.out
      have hsh := encs_short xs HGd.out
      rw [List.nil_append] at happ
      rw [happ] at ho ⊢
      generalize encs xs = E at ho hsh
      dsimp only at ho ⊢
      obtain ⟨a7, c7, rfl⟩ := ho.slice
      have hsh2 : E.length ≤ 80036 := by have := HX.out; omega
      have HJ8 := Lib.hid (HJ7.out.below hb)
      have hj8 := ho.bl
      obtain ⟨v8, wi, hrunA, hoA, hbA⟩ := append_bl (OwnB.nil wh wh.heap.size) hj8 (by simp) (by omega) (Nat.le_refl _) 22
      rw [List.nil_append] at hoA
      obtain ⟨v9, wj, hrunB, hoB, hbB⟩ := append_bl hoA (HJ8.out.raw.below hbA) (by omega) (by have := HLen.out; omega) hbA.size 22
      have hEMl : (E ++ m).length ≤ 900000 := by rw [List.length_append]; have := HLen.out; omega
      generalize E ++ m = EM at hoB hEMl
      obtain ⟨a9, c9, rfl⟩ := hoB.slice
      have hbAB := hbA.trans hbB
      have HRunA := Lib.hid hrunA
      have HRunB := Lib.hid hrunB
      have HBj : Hid (Below w.heap.size w wj) := below_then HJ8.out.b hbAB
      have HRw := Lib.hid ((HJ8.out.raw.below hbAB).up hbAB.size)
      have HJb := Lib.hid ((hj8.below hbAB).up hbAB.size)
      have HEm := Lib.hid hoB.bl
      have HSh : Hid (E.length ≤ 80036 ∧ EM.length ≤ 900000) := ⟨hsh2, hEMl⟩
      have j0 : (E.length : Int) ≤ 80036 := by omega
      clear ho hb hj8 hrunA hoA hbA hrunB hoB hbB hbAB hEMl hsh hsh2 happ HJ7 HJ8 hcall hc1 hc2 hc3 hc4 HGd HYs HYe HMm HXe HX HQi
      go_wp2_with (first
        | (at_builtin; refine wpList_append_run rfl _ _ _ rfl _ _ _ _ rfl rfl HRunA.out ?_; clear HRunA)
        | (at_builtin; refine wpList_append_run rfl _ _ _ rfl _ _ _ _ rfl rfl HRunB.out ?_; clear HRunB)
        | fail)
      refine (mod_any n ((E.length : Int) + 2) HNi.out (by omega) wj).mono ?_
      rintro e wk ⟨k1, rfl, hk1, rfl⟩
      have HK1 := Lib.hid hk1
      clear hk1
      go_wp2_with fail
      refine (cut_any (.slice a7 E.length c7) E k1 HK1.out wj HJb.out (by have := HSh.out; omega)).mono ?_
      rintro e wl ⟨v10, rfl, ho, hb⟩
      have hL10 : (E.take (E.length - (min (max k1 0) E.length).toNat)).length ≤ 900000 := by rw [List.length_take]; have := HSh.out; omega
      generalize E.take (E.length - (min (max k1 0) E.length).toNat) = L10 at ho hL10
      obtain ⟨a10, c10, rfl⟩ := ho.slice
      have HFour := Lib.hid (four_at ((HRw.out.below hb).up hb.size) ((HJb.out.below hb).up hb.size) ((HEm.out.below hb).up hb.size) ho.bl (by have := HLen.out; omega) (by have := HSh.out; omega) HSh.out.2 hL10 22 (by decide))
      have HBl : Hid (Below w.heap.size w wl) := below_then HBj.out hb
      have HBL : Hid (Below w.heap.size w (wl.alloc (.cells #[.slice ra m.length rc, .slice a7 E.length c7, .slice a9 EM.length c9, .slice a10 L10.length c10] 22))) := below_then HBl.out ((Below.refl _ _).alloc (Nat.le_refl _) _)
      clear ho hb hL10 HRw HJb HEm HBj HBl
      go_wp2_with fail
      generalize wl.alloc (.cells #[.slice ra m.length rc, .slice a7 E.length c7, .slice a9 EM.length c9, .slice a10 L10.length c10] 22) = wL at HFour HBL ⊢
      generalize wl.heap.size = bl at HFour ⊢
      obtain ⟨wo1, rfl⟩ : ∃ wo1 : World, wo1 = wr := ⟨_, rfl⟩
      go_loopw [122] (fun kv wr => ∃ i : Nat, kv = .int .i64 i ∧ i ≤ 4 ∧ Hid (Below wL.heap.size wL wr)) (fun kv _ => (10 - intOf kv).toNat)
      case atStart => exact ⟨0, rfl, by omega, Below.refl _ _⟩
      case round =>
        obtain ⟨i, rfl, hi, HBr2⟩ := hrel
        by_cases hin : i < 4
        · have i0 : (i : Int) < 4 := by omega
          have HI4 : Hid (i < 4) := hin
          obtain ⟨sa, sc, l, hcell, hbl, hl9⟩ := HFour.out i hin
          have k0 : wr.cell? ⟨bl, i, none⟩ = some (.slice sa l.length sc) := cell_then HBr2.out hcell
          have HSl := Lib.hid ((hbl.below HBr2.out).up HBr2.out.size)
          have HL9 := Lib.hid hl9
          clear hcell hbl hl9
          go_wp2_with fail
          refine (read_any _ l wr HSl.out HL9.out).mono ?_
          rintro e wm ⟨p1, rfl, hrd, hb⟩
          have HSm := Lib.hid (readAll_small l)
          obtain ⟨R, hR⟩ : ∃ R, R = readAll l := ⟨_, rfl⟩
          rw [← hR] at hrd HSm ⊢
          have HRl := Lib.hid hR
          obtain ⟨ps, kn⟩ := R
          dsimp only at hrd HSm ⊢
          obtain ⟨pa, pc, rfl⟩ := hrd.slice
          have HP1 := Lib.hid hrd
          have HBm := Lib.hid (below_then HBr2.out hb)
          have HSl2 := Lib.hid ((HSl.out.below hb).up hb.size)
          clear hrd hb hR HSl HBr2 k0
          go_wp2_with fail
          refine (rread_any _ l wm HSl2.out HL9.out).mono ?_
          rintro e wn ⟨p2, rfl, hrd, hb⟩
          rw [← HRl.out] at hrd ⊢
          dsimp only at hrd ⊢
          obtain ⟨qa, qc, rfl⟩ := hrd.slice
          have HP2 := Lib.hid (HP1.out.keep entE_ok (Keeps.of_below hb))
          have HQ2 := Lib.hid hrd
          have HBn := Lib.hid (below_then HBm.out hb)
          have HSl3 := Lib.hid ((HSl2.out.below hb).up hb.size)
          obtain ⟨P, hP⟩ : ∃ P, P = ps.length := ⟨_, rfl⟩
          have HPe := Lib.hid hP
          have P9 : (P : Int) ≤ 1000000 := by have := hrd.le; omega
          rw [← hP] at HP2 HQ2 ⊢
          clear hrd hb hP HRl HP1 HBm HSl2
          go_wp2_with fail
          obtain ⟨wo2, rfl⟩ : ∃ wo2 : World, wo2 = wr := ⟨_, rfl⟩
          go_loopw [148] (fun kv wr => ∃ j : Nat, kv = .int .i64 j ∧ j ≤ P ∧ Hid (Below wn.heap.size wn wr)) (fun kv _ => P + 1 - (intOf kv).toNat)
          case atStart => exact ⟨0, rfl, by omega, Below.refl _ _⟩
          case round =>
            obtain ⟨j, rfl, hj, HBr⟩ := hrel
            by_cases hjn : j < P
            · have j0 : (j : Int) < (P : Int) := by omega
              have hjl : j < ps.length := by rw [← HPe.out]; exact hjn
              obtain ⟨pb, po, es1, ea1, hal1⟩ := HP2.out.atBelow entE_ok j hjl
              obtain ⟨lb, lo, es2, ea2, hal2⟩ := HQ2.out.atBelow entE_ok j hjl
              subst ea1 ea2
              obtain ⟨hr1, hg1⟩ := hal1 wr.drew ((HBr.out).trans (Below.refl _ _).drew)
              obtain ⟨hr2, hg2⟩ := hal2 wr.drew ((HBr.out).trans (Below.refl _ _).drew)
              have hsm := HSm.out _ (List.getElem_mem hjl)
              generalize ps[j] = z at hr1 hr2 hsm
              have HE1 : es1.length = 38 := entE_ok.len hr1
              have HE2 : es2.length = 38 := entE_ok.len hr2
              have HR1 := Lib.hid (entE_ok.weak (av' := fun _ => True) hr1 fun _ _ _ => trivial)
              have HR2 := Lib.hid (entE_ok.weak (av' := fun _ => True) hr2 fun _ _ _ => trivial)
              have HSr : Hid (wr.drew.rangeAt pb (po + j * 38) es1 ∧ wr.drew.rangeAt lb (lo + j * 38) es2) := ⟨hg1, hg2⟩
              have HBk : Hid (∀ b, entB z = some b → b.length ≤ 11000000) := fun b hb => by have := hsm b hb; omega
              have HJn := Lib.hid hjn
              clear hr1 hr2 hg1 hg2 hal1 hal2 hsm hjl hj hjn
              go_upto_region 29 with fail
              refine wp_region_seqL (by kernel_rfl) (fun w' => w'.rangeAt pb (po + j * 38) es1 ∧ w'.rangeAt lb (lo + j * 38) es2) 8 [(0, 0), (1, 0), (2, 0), (3, 1), (4, 0), (5, 0), (6, 0), (7, 1), (8, 2), (9, 0)] (by kernel_rfl) (HSr.out) ?_
              refine sl_q (d := some 151) rfl rfl rfl (.slice (some ⟨pb, po, none⟩) P pc) (fun w => rfl) ?_
              simp only [Act.put, List.setIfInBounds_toArray, List.set_cons_zero, List.set_cons_succ]
              refine sl_q (d := some 152) rfl rfl rfl (.int .i64 j) (fun w => rfl) ?_
              simp only [Act.put, List.setIfInBounds_toArray, List.set_cons_zero, List.set_cons_succ]
              refine sl_q (d := some 153) rfl rfl rfl (.pointer (some ⟨pb, po + j * 38, none⟩)) (fun w => by simp [execOp, Act.eval, j0, go_sem]) ?_
              simp only [Act.put, List.setIfInBounds_toArray, List.set_cons_zero, List.set_cons_succ]
              refine sl_load (d := some 154) rfl rfl rfl _ _ rfl ⟨pb, po + j * 38, none⟩ rfl (.agg es1.toArray) (fun w hw => log_load hw.1 HE1) ?_
              simp only [Act.put, List.setIfInBounds_toArray, List.set_cons_zero, List.set_cons_succ]
              refine sl_q (d := some 155) rfl rfl rfl (.slice (some ⟨lb, lo, none⟩) P qc) (fun w => rfl) ?_
              simp only [Act.put, List.setIfInBounds_toArray, List.set_cons_zero, List.set_cons_succ]
              refine sl_q (d := some 156) rfl rfl rfl (.int .i64 j) (fun w => rfl) ?_
              simp only [Act.put, List.setIfInBounds_toArray, List.set_cons_zero, List.set_cons_succ]
              refine sl_q (d := some 157) rfl rfl rfl (.pointer (some ⟨lb, lo + j * 38, none⟩)) (fun w => by simp [execOp, Act.eval, j0, go_sem]) ?_
              simp only [Act.put, List.setIfInBounds_toArray, List.set_cons_zero, List.set_cons_succ]
              refine sl_load (d := some 158) rfl rfl rfl _ _ rfl ⟨lb, lo + j * 38, none⟩ rfl (.agg es2.toArray) (fun w hw => log_load hw.2 HE2) ?_
              simp only [Act.put, List.setIfInBounds_toArray, List.set_cons_zero, List.set_cons_succ]
              refine sl_call (d := some 159) rfl rfl rfl ⟨_, Tryz.func14, by kernel_rfl, by kernel_rfl⟩ _ _ _ rfl rfl [.agg es1.toArray, .agg es2.toArray] rfl (rsame_any z z es1 es2 (fun _ => True) wr.drew HR1.out HR2.out HBk.out HBk.out) ?_
              rintro e wx ⟨rfl, hb6⟩
              rw [rsameB_self]
              have HB6 := Lib.hid hb6
              clear hb6
              refine ⟨_, rfl, (fun h => by cases h), ?_⟩
              simp only [Act.put, List.setIfInBounds_toArray, List.set_cons_zero, List.set_cons_succ]
              refine sl_q (d := some 160) rfl rfl rfl (.bool false) (fun w => by simp [execOp, Act.eval, go_sem]) ?_
              simp only [Act.put, List.setIfInBounds_toArray, List.set_cons_zero, List.set_cons_succ]
              refine sl_end ?_
              have HBx : Hid (Below wn.heap.size wn wx) := below_then (HBr.out.trans (Below.refl _ _).drew) HB6.out
              clear HSr HR1 HR2 HBk HB6 HBr
              go_wp2_with fail
              go_roundw
              case rel => exact ⟨j + 1, by go_num, by have := HJn.out; omega, HBx⟩
              case measure => have := HJn.out; simp [intOf]; omega
            · have HBp := Lib.hid (below_then HBn.out HBr.out)
              have HSl4 := Lib.hid ((HSl3.out.below HBr.out).up HBr.out.size)
              obtain ⟨wo3, rfl⟩ : ∃ wo3 : World, wo3 = wr := ⟨_, rfl⟩
              clear hj P9 HBr HBn HSl3 HP2 HQ2 HSm
              have hjP : ¬ ((j : Int) < (P : Int)) := by omega
              clear hjn
              go_wp2_with fail
              refine (mod_any n 40 HNi.out (by omega) wo3).mono ?_
              rintro e wk2 ⟨k2, rfl, hk2, rfl⟩
              have HThree := Lib.hid (three_at wo3 n k2 (-1) HNi.out hk2 (by unfold I64; omega))
              have HBt : Hid (Below wo3.heap.size wo3 (wo3.alloc (.cells #[.int .i64 n, .int .i64 k2, .int .i64 (-1)] 3))) := (Below.refl _ _).alloc (Nat.le_refl _) _
              clear hk2 hjP
              go_wp2_with fail
              have HBt2 := Lib.hid (below_then HBp.out HBt.out)
              have HSl5 := Lib.hid ((HSl4.out.below HBt.out).up HBt.out.size)
              generalize wo3.alloc (.cells #[.int .i64 n, .int .i64 k2, .int .i64 (-1)] 3) = wT at HThree HBt2 HSl5 ⊢
              generalize wo3.heap.size = bt at HThree ⊢
              clear HBt HBp HSl4
              go_loopw [167] (fun kv wr => ∃ q : Nat, kv = .int .i64 q ∧ q ≤ 3 ∧ Hid (Below wT.heap.size wT wr)) (fun kv _ => (10 - intOf kv).toNat)
              case atStart => exact ⟨0, rfl, by omega, Below.refl _ _⟩
              case round =>
                obtain ⟨q, rfl, hq, HBr⟩ := hrel
                by_cases hq3 : q < 3
                · have q0 : (q : Int) < 3 := by omega
                  have HQ3 : Hid (q < 3) := hq3
                  obtain ⟨k, hkI, hcell⟩ := HThree.out q hq3
                  have k0 : wr.cell? ⟨bt, q, none⟩ = some (.int .i64 k) := cell_then HBr.out hcell
                  have HKI := Lib.hid hkI
                  have HSl6 : Hid (BytesL wr.drew wr.drew.heap.size (.slice sa l.length sc) l) := ((HSl5.out.below (HBr.out.trans (Below.refl _ _).drew)).up (HBr.out.trans (Below.refl _ _).drew).size)
                  clear hcell hkI hq hq3
                  go_upto_region 35 with fail
                  refine wp_region_tree (by kernel_rfl) (fun _ => True) 8 (.q 0 0 (.q 1 0 (.q 4 0 (.q 5 0 (.e 2 (.fork (.e 3 (.e 6 (.e 7 (.e 8 .nil)))) (.e 6 (.fork (.e 3 (.e 7 (.e 8 .nil))) (.e 7 (.e 3 (.e 8 .nil))))))))))) (by kernel_rfl) trivial ?_
                  refine tr_q (d := some 171) rfl rfl rfl (.slice sa l.length sc) (fun w => rfl) ?_
                  simp only [Act.put, List.setIfInBounds_toArray, List.set_cons_zero, List.set_cons_succ]
                  refine tr_q (d := some 172) rfl rfl rfl (.int .i64 k) (fun w => rfl) ?_
                  simp only [Act.put, List.setIfInBounds_toArray, List.set_cons_zero, List.set_cons_succ]
                  refine tr_q (d := some 175) rfl rfl rfl (.slice sa l.length sc) (fun w => rfl) ?_
                  simp only [Act.put, List.setIfInBounds_toArray, List.set_cons_zero, List.set_cons_succ]
                  refine tr_q (d := some 176) rfl rfl rfl (.int .i64 k) (fun w => rfl) ?_
                  simp only [Act.put, List.setIfInBounds_toArray, List.set_cons_zero, List.set_cons_succ]
                  refine tr_call (d := some 173) rfl rfl rfl ⟨_, Tryz.func10, by kernel_rfl, by kernel_rfl⟩ _ _ _ rfl rfl [.slice sa l.length sc, .int .i64 k] rfl (cut_any (.slice sa l.length sc) l k HKI.out wr.drew HSl6.out (by have := HL9.out; omega)) ?_
                  rintro e wu ⟨v173, rfl, hou, hbu⟩
                  obtain ⟨X, hX⟩ : ∃ X, X = l.take (l.length - (min (max k 0) l.length).toNat) := ⟨_, rfl⟩
                  rw [← hX] at hou
                  have HXe := Lib.hid hX
                  have HU := Lib.hid hou
                  have HSl7 := Lib.hid ((HSl6.out.below hbu).up hbu.size)
                  have HBu : Hid (Below wT.heap.size wT wu) := below_then (HBr.out.trans (Below.refl _ _).drew) hbu
                  clear hou hbu hX HSl6 HBr
                  refine ⟨_, rfl, fun _ => trivial, ?_⟩
                  simp only [Act.put, List.setIfInBounds_toArray, List.set_cons_zero, List.set_cons_succ]
                  refine tr_fork ?_ ?_
                  rotate_left
                  refine tr_call (d := some 177) rfl rfl rfl ⟨_, Tryz.func15, by kernel_rfl, by kernel_rfl⟩ _ _ _ rfl rfl [.slice sa l.length sc, .int .i64 k] rfl (rcut_any (.slice sa l.length sc) l k HKI.out wu HSl7.out (by have := HL9.out; omega)) ?_
                  rintro e wv ⟨v177, rfl, hov, hbv⟩
                  rw [← HXe.out] at hov
                  have HV := Lib.hid hov
                  have HU2 := Lib.hid (HU.out.grownB hbv)
                  have HBv := Lib.hid (below_then HBu.out hbv)
                  clear hov hbv
                  refine ⟨_, rfl, fun _ => trivial, ?_⟩
                  simp only [Act.put, List.setIfInBounds_toArray, List.set_cons_zero, List.set_cons_succ]
                  refine tr_fork ?_ ?_
                  rotate_left
                  refine tr_run (d := some 178) rfl rfl rfl (.string ⟨X.toArray⟩) wv (by have h := bytesR_conv HV.out.bl.r; simp [execOp, Act.eval, h, go_sem]) (fun _ => trivial) ?_
                  simp only [Act.put, List.setIfInBounds_toArray, List.set_cons_zero, List.set_cons_succ]
                  refine tr_run (d := some 174) rfl rfl rfl (.string ⟨X.toArray⟩) wv (by have h := bytesR_conv HU2.out.bl.r; simp [execOp, Act.eval, h, go_sem]) (fun _ => trivial) ?_
                  simp only [Act.put, List.setIfInBounds_toArray, List.set_cons_zero, List.set_cons_succ]
                  refine tr_run (d := some 179) rfl rfl rfl (.bool false) wv (by simp [execOp, Act.eval, go_sem]) (fun h => by cases h) ?_
                  simp only [Act.put, List.setIfInBounds_toArray, List.set_cons_zero, List.set_cons_succ]
                  refine tr_end ?_
                  rotate_left
                  refine tr_run (d := some 174) rfl rfl rfl (.string ⟨X.toArray⟩) wu (by have h := bytesR_conv HU.out.bl.r; simp [execOp, Act.eval, h, go_sem]) (fun _ => trivial) ?_
                  simp only [Act.put, List.setIfInBounds_toArray, List.set_cons_zero, List.set_cons_succ]
                  refine tr_call (d := some 177) rfl rfl rfl ⟨_, Tryz.func15, by kernel_rfl, by kernel_rfl⟩ _ _ _ rfl rfl [.slice sa l.length sc, .int .i64 k] rfl (rcut_any (.slice sa l.length sc) l k HKI.out wu HSl7.out (by have := HL9.out; omega)) ?_
                  rintro e wv ⟨v177, rfl, hov, hbv⟩
                  rw [← HXe.out] at hov
                  have HV := Lib.hid hov
                  have HU2 := Lib.hid (HU.out.grownB hbv)
                  have HBv := Lib.hid (below_then HBu.out hbv)
                  clear hov hbv
                  refine ⟨_, rfl, fun _ => trivial, ?_⟩
                  simp only [Act.put, List.setIfInBounds_toArray, List.set_cons_zero, List.set_cons_succ]
                  refine tr_run (d := some 178) rfl rfl rfl (.string ⟨X.toArray⟩) wv (by have h := bytesR_conv HV.out.bl.r; simp [execOp, Act.eval, h, go_sem]) (fun _ => trivial) ?_
                  simp only [Act.put, List.setIfInBounds_toArray, List.set_cons_zero, List.set_cons_succ]
                  refine tr_run (d := some 179) rfl rfl rfl (.bool false) wv (by simp [execOp, Act.eval, go_sem]) (fun h => by cases h) ?_
                  simp only [Act.put, List.setIfInBounds_toArray, List.set_cons_zero, List.set_cons_succ]
                  refine tr_end ?_
                  rotate_left
                  refine tr_run (d := some 174) rfl rfl rfl (.string ⟨X.toArray⟩) wv (by have h := bytesR_conv HU2.out.bl.r; simp [execOp, Act.eval, h, go_sem]) (fun _ => trivial) ?_
                  simp only [Act.put, List.setIfInBounds_toArray, List.set_cons_zero, List.set_cons_succ]
                  refine tr_run (d := some 178) rfl rfl rfl (.string ⟨X.toArray⟩) wv (by have h := bytesR_conv HV.out.bl.r; simp [execOp, Act.eval, h, go_sem]) (fun _ => trivial) ?_
                  simp only [Act.put, List.setIfInBounds_toArray, List.set_cons_zero, List.set_cons_succ]
                  refine tr_run (d := some 179) rfl rfl rfl (.bool false) wv (by simp [execOp, Act.eval, go_sem]) (fun h => by cases h) ?_
                  simp only [Act.put, List.setIfInBounds_toArray, List.set_cons_zero, List.set_cons_succ]
                  refine tr_end ?_
                  all_goals
                    go_wp2_with fail
                    go_roundw
                    case rel => exact ⟨q + 1, by go_num, by have := HQ3.out; omega, HBv⟩
                    case measure => have := HQ3.out; simp [intOf]; omega
                · obtain rfl : q = 3 := by omega
                  have HBu : Hid (Below wL.heap.size wL wr) := below_then HBt2.out HBr.out
                  clear hq hq3 HBr HBt2 HThree HSl5
                  go_wp2_with fail
                  go_roundw
                  case rel => exact ⟨i + 1, by go_num, by have := HI4.out; omega, HBu⟩
                  case measure => have := HI4.out; simp [intOf]; omega
        · obtain rfl : i = 4 := by omega
          have HFin : Hid (Below w.heap.size w wr) := HBL.out.trans (HBr2.out.mono HBL.out.size)
          clear hi hin HBr2 HFour
          go_wp2_with fail
          go_ret
          exact ⟨rfl, HFin.out⟩
end Go.Proofs.YtpknalpdcfjffaaGreat
/- What the rows of these statements give, how an argument opens, and the last step of a row. No conditions. -/
namespace Go.Proofs.YtpknalpdcfjffaaGreat
open Go Go.ChangeShapes Go.WideShapes Go.ChangeAt Go.RowKit

theorem own : ownKnob Tryz.prog.godebug = none := by kernel_rfl
theorem laid_out : laidOutB Tryz.prog = true := by kernel_rfl

section
variable {H : Type} {enc : TypeId × Value → H} {P : Program}
theorem trodAll_low (hl : laidOutB P = true) {W W' : World} (hb : Below W.heap.size W W') : ∀ (ts : List TypeId) (vs : List Value) (ds : List (DataW H)) (ps : List MemPlace),
    (ts.all fun t => P.readableRec t && decide (t < P.types.size)) = true → DataW.TrodAll enc P W 0 (fun _ => true) true ts vs ds ps → (∀ p ∈ ps, p.block < W.heap.size) →
    DataW.TrodAll enc P W' 0 (fun b => decide (b < W.heap.size)) true ts vs ds ps
  | [], [], [], _, _, h, _ => h
  | [], [], _ :: _, _, _, h, _ => h.elim
  | [], _ :: _, _, _, _, h, _ => h.elim
  | _ :: _, [], _, _, _, h, _ => h.elim
  | _ :: _, _ :: _, [], _, _, h, _ => h.elim
  | t :: ts, v :: vs, d :: ds, ps, hT, h, hlt => by
    obtain ⟨p, q, hp, hq, e⟩ := h
    simp only [List.all_cons, Bool.and_eq_true, decide_eq_true_eq] at hT
    refine ⟨p, q, Below.trod hl hT.1.1 hT.1.2 hp hb (fun x hx => hlt x (by rw [e]; simp [hx])), trodAll_low hl hb ts vs ds q hT.2 hq (fun x hx => hlt x (by rw [e]; simp [hx])), e⟩

theorem law_post (hl : laidOutB P = true) {f : Func} {s : ChangeSpec} {apart fresh handsOn : Bool} {tb : TypeId} {W W' : World} {args : Array Value} {ds gs : List (DataW H)} {before : List MemPlace}
    (hT : (f.params.toList.all fun t => P.readableRec t && decide (t < P.types.size)) = true) (hr : f.resultTypes = #[tb]) (htb : P.underlying tb = some .bool)
    (hW : DataW.Whole enc P f.params.toList s.vars apart W args.toList ds gs before) (hv : s.vars = []) (hf : s.fn H (ds ++ gs) = { results := [.lit (.bool true)], args := ds }) (hb : Below W.heap.size W W') :
    s.post enc P f apart fresh handsOn false W args (.bool true) W' := by
  have hW' := hW
  obtain ⟨p, q, hA, hV, rfl, _, _⟩ := hW
  have hlt : ∀ x ∈ p ++ q, x.block < W.heap.size := fun x hx => hW'.lt x hx
  rw [hv] at hV
  have hq : gs = [] ∧ q = [] := trodVars_none hV
  obtain ⟨rfl, rfl⟩ := hq
  have hA' := trodAll_low hl hb _ _ _ _ hT hA (fun x hx => hlt x (by simp [hx]))
  refine ⟨ds, [], p ++ [], [], p, [], hW', ?_, ?_, ?_, World.keptBut_mono (fun x hx => ⟨hx, by simp at hx; simp [hx]⟩) (hb.frame (· ∈ p ++ [])), fun h => by cases h⟩
  · rw [hf, hr]
    exact trodAll_cons_mk (shut_bool htb _) trodAll_mk0
  · rw [hf]; exact hA'
  · rw [hf, hv]; exact (rfl : ([] : List MemPlace) = [])
end

set_option maxRecDepth 100000 in
/-- A list of bytes that came in. -/
theorem open_codes {H : Type} {enc : TypeId × Value → H} {W : World} {base : Nat} {v : Value} {d : DataW H} {p : List MemPlace} (hv : Value.okWide Tryz.prog W .any base 22 v) (h : DataW.Trod enc Tryz.prog W 0 (fun _ => true) true 22 v d p) :
    U8At W W.heap.size v := by
  obtain ⟨a0, len, cap, rfl⟩ := okWide_slice Tryz.underlying22 hv
  obtain ⟨fuel, hf⟩ := h
  rcases open_ints Tryz.underlying22 Tryz.underlying5 (by kernel_rfl) hf with ⟨hcs, _⟩ | ⟨a, len', cap', zs, hcs, _, hl, hm, hz, _, hcell, hwz⟩
  · have hcs : a0 = none ∧ len = 0 ∧ cap = 0 := by simpa [Value.cells] using hcs
    obtain ⟨rfl, rfl, rfl⟩ := hcs
    exact ⟨none, 0, 0, rfl, by omega, by omega, fun i hi => by omega⟩
  · have hcs : a0 = some a ∧ len = len' ∧ cap = cap' := by simpa [Value.cells] using hcs
    obtain ⟨rfl, rfl, rfl⟩ := hcs
    simp only [if_true] at hz
    have hm' : cap ≤ 9223372036854775807 := by unfold maxLen at hm; omega
    refine ⟨some a, len, cap, rfl, hl, hm', fun i hi => ?_⟩
    obtain ⟨b, off, rfl, hc⟩ := ints_at hcell (by omega)
    have hci := hc i (by omega)
    refine ⟨b, off, rfl, World.block_lt_of_cell? (a := ⟨b, off + i, none⟩) _ hci, _, ?_, ?_, hci⟩
    all_goals
      have hw := hwz (zs.getD i 0) (by rw [List.getD_eq_getElem?_getD, List.getElem?_eq_getElem (by omega)]; simp)
      simp only [Lit.wf, Bool.and_eq_true, decide_eq_true_eq] at hw
      have h1 : IntKind.u8.min = 0 := rfl
      have h2 : IntKind.u8.max = 255 := rfl
      omega
set_option maxRecDepth 100000 in
/-- A list of bytes that came in, and how long it may be. -/
theorem open_bytes {H : Type} {enc : TypeId × Value → H} {W : World} {base : Nat} {v : Value} {d : DataW H} {p : List MemPlace} (hv : Value.okWide Tryz.prog W .any base 22 v) (h : DataW.Trod enc Tryz.prog W 0 (fun _ => true) true 22 v d p) :
    ∃ m : List UInt8, BytesL W W.heap.size v m ∧ ∀ (ts : List TypeId) (ds : List (DataW H)) (j : Nat), (DataW.weightsEach Tryz.prog ts ds).all (· ≤ reachBytes) = true → ts[j]? = some 22 → ds[j]? = some d → m.length ≤ 140737488351232 := by
  obtain ⟨a0, len, cap, rfl⟩ := okWide_slice Tryz.underlying22 hv
  obtain ⟨fuel, hf⟩ := h
  rcases open_ints Tryz.underlying22 Tryz.underlying5 (by kernel_rfl) hf with ⟨hcs, _⟩ | ⟨a, len', cap', zs, hcs, _, hl, hm, hz, hx, hcell, hwz⟩
  · have hcs : a0 = none ∧ len = 0 ∧ cap = 0 := by simpa [Value.cells] using hcs
    obtain ⟨rfl, rfl, rfl⟩ := hcs
    exact ⟨[], ⟨none, 0, rfl, by simp, by omega, fun i hi => by simp at hi⟩, fun _ _ _ _ _ _ => by simp⟩
  · have hcs : a0 = some a ∧ len = len' ∧ cap = cap' := by simpa [Value.cells] using hcs
    obtain ⟨rfl, rfl, rfl⟩ := hcs
    simp only [if_true] at hz
    have hm' : cap ≤ 9223372036854775807 := by unfold maxLen at hm; omega
    obtain ⟨m, hmm⟩ : ∃ m : List UInt8, m = (zs.take len).map fun z => UInt8.ofNat z.toNat := ⟨_, rfl⟩
    have hml : m.length = len := by rw [hmm, List.length_map, List.length_take]; omega
    refine ⟨m, ⟨some a, cap, by rw [hml], by omega, hm', fun i hi => ?_⟩, fun ts ds j hs ht hd => ?_⟩
    · rw [hml] at hi
      obtain ⟨b, off, rfl, hc⟩ := ints_at hcell (by omega)
      have hci := hc i (by omega)
      have hw := hwz (zs.getD i 0) (by rw [List.getD_eq_getElem?_getD, List.getElem?_eq_getElem (by omega)]; simp)
      simp only [Lit.wf, Bool.and_eq_true, decide_eq_true_eq] at hw
      have h1 : IntKind.u8.min = 0 := rfl
      have h2 : IntKind.u8.max = 255 := rfl
      refine ⟨b, off, rfl, World.block_lt_of_cell? (a := ⟨b, off + i, none⟩) _ hci, ?_⟩
      rw [hci]
      have e1 : m[i]? = some (UInt8.ofNat (zs.getD i 0).toNat) := by
        rw [hmm, List.getElem?_map, List.getElem?_take, if_pos hi, List.getElem?_eq_getElem (by omega), List.getD_eq_getElem?_getD, List.getElem?_eq_getElem (by omega)]
        rfl
      have e2 : m[i] = UInt8.ofNat (zs.getD i 0).toNat := by
        rw [List.getElem?_eq_getElem (by omega)] at e1
        exact Option.some.inj e1
      have e3 : ((UInt8.ofNat (zs.getD i 0).toNat).toNat : Int) = zs.getD i 0 := by
        rw [UInt8.toNat_ofNat']
        omega
      rw [e2, e3]
    · have hd' : ds[j]? = some (.slice (Go.ChangeShapes.lits .u8 (zs.take len)) (Go.ChangeShapes.lits .u8 (zs.drop len))) := by
        rw [hd]
        have := congrArg Prod.fst hx
        simpa using this
      have := sized_slice hs ht hd' Tryz.underlying22
      rw [show Tryz.prog.bytesOf 5 = 1 by kernel_rfl] at this
      simp only [Go.ChangeShapes.lits, List.length_map, List.length_take, List.length_drop, reachBytes] at this
      omega
end Go.Proofs.YtpknalpdcfjffaaGreat
/- StoreJournals answers true at every input. No conditions. -/

namespace Go.Proofs.YtpknalpdcfjffaaGreat.journals
open Go Go.ChangeShapes Go.WideShapes Go.ChangeAt Go.RowKit

set_option maxRecDepth 100000 in
theorem lifted (os : Os) (started : os.Started) (H : Type) (enc : TypeId × Value → H) :
    ReturnsInHanded {} Tryz.checked os 3 .any (Rows.storeJournalsSpec.pre6 enc Tryz.prog Tryz.f3 Rows.storeJournalsRow.domain false) (Rows.storeJournalsSpec.post enc Tryz.prog Tryz.f3 false true false false) := by
  refine returnsInHanded_of_change_sized (C := Tryz.checked) own started (by kernel_rfl) Tryz.func3
    (ChangeSpec.witness6 (enc := enc) (C := Tryz.checked) false ⟨#[], #[.slice none 0 0, .slice none 0 0, .int .i64 0], []⟩ 8 (by kernel_rfl) (by kernel_rfl) (by kernel_rfl) (by kernel_rfl)) ?_
  intro W base args ds gs before hval hW _ hsz _
  have hW' := hW
  obtain ⟨p, q, hA0, hV, rfl, _, _⟩ := hW
  have hA : DataW.TrodAll enc Tryz.prog W 0 (fun _ => true) true Tryz.f3.params.toList args.toList ds p := hA0
  rw [Tryz.params3] at hA hval
  obtain ⟨v0, vs0, d0, ds0, p0, q0, hargs, rfl, rfl, h0, r0⟩ := trodAll_cons hA
  obtain ⟨v1, vs1, d1, ds1, p1, q1, hargs1, rfl, rfl, h1, r1⟩ := trodAll_cons r0
  obtain ⟨v2, vs2, d2, ds2, p2, q2, hargs2, rfl, rfl, h2, r2⟩ := trodAll_cons r1
  obtain ⟨rfl, rfl, rfl⟩ := trodAll_nil r2
  obtain rfl : args = #[v0, v1, v2] := by cases args; simp_all
  obtain ⟨rfl, rfl⟩ := trodVars_none hV
  have hc := open_codes (hval 0 22 v0 rfl rfl) h0
  obtain ⟨m, hm, hl⟩ := open_bytes (hval 1 22 v1 rfl rfl) h1
  obtain ⟨x2, rfl, rfl, rfl, wx2⟩ := open_int Tryz.underlying3 (hval 2 3 v2 rfl rfl) h2
  have e5 : IntKind.i64.min = -9223372036854775808 := rfl
  have e6 : IntKind.i64.max = 9223372036854775807 := rfl
  simp only [Lit.wf, Bool.and_eq_true, decide_eq_true_eq] at wx2
  refine (jou_any v0 v1 m x2 (by unfold I64; omega) W hc hm).mono fun e W' ⟨he, hb⟩ => ?_
  subst he
  exact ⟨_, rfl, law_post laid_out (by kernel_rfl) (by kernel_rfl) Tryz.underlying4 hW' rfl rfl hb⟩

theorem said : Rows.StoreJournalsSaid :=
  OpenClaim.holds_of_wide 3 Tryz.f3 rfl rfl rfl rfl rfl rfl rfl ⟨rfl, rfl, rfl, rfl, rfl⟩ rfl rfl rfl rfl rfl (by kernel_rfl) Tryz.func3 (by kernel_rfl)
    (of_decide_eq_true (by kernel_rfl)) (by unfold Func.isWrapper; first | (rw [if_pos (by decide +kernel)]; kernel_rfl) | (rw [if_neg (by decide +kernel)]; exact ⟨rfl, rfl⟩))
    (fun os started H enc _ => lifted os started H enc)
end Go.Proofs.YtpknalpdcfjffaaGreat.journals

namespace Go.Proofs.YtpknalpdcfjffaaGreat
theorem journals_said : Rows.StoreJournalsSaid := journals.said
#print axioms journals_said
end Go.Proofs.YtpknalpdcfjffaaGreat
