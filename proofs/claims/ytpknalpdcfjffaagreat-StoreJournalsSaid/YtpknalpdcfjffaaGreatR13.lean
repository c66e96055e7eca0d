/- Part 13 of the proof: laws on memory and what functions of the program return. No conditions but those that each theorem names. -/
import Derived.Test.YtpknalpdcfjffaaGreatR12
set_option linter.unusedVariables false
set_option linter.unusedSimpArgs false
/- The reference's getHistory. Printed by gen_rdr.py. -/
namespace Go.Proofs.YtpknalpdcfjffaaGreat
open Go Go.RowKit

theorem rowT_his : RowT 51 2 := ⟨by kernel_rfl, _, Tryz.underlying51, rfl⟩
theorem rowT_cntg : RowT 97 3 := ⟨by kernel_rfl, _, Tryz.underlying97, rfl⟩
def GotH (a : Option Addr) (c : Nat) (l : List UInt8) (p : Nat) (ok : Bool) (w : World) (e : Ending) (w' : World) : Prop := ∃ p' ok' pm okm v u xs ys, e = .returned (.tuple #[.agg (rdV a l.length c p' ok').toArray, .agg #[v, u]]) ∧ RdS (sliE cntE) (w.heap.size ≤ ·) w' v xs ∧ RdS strE (w.heap.size ≤ ·) w' u ys ∧
  Went (pList (pList pCnt)) l p ok pm okm xs ∧ Went (pList pText) l pm okm p' ok' ys ∧ Below w.heap.size w w'
set_option maxHeartbeats 16000000 in
set_option maxRecDepth 100000 in
theorem gotHis (a : Option Addr) (c : Nat) (l : List UInt8) (p : Nat) (ok : Bool) (w : World) (h : BytesL w w.heap.size (.slice a l.length c) l) (hp : p ≤ l.length) (hl : l.length ≤ 1048576) :
    Calls Tryz.prog 80 #[.agg (rdV a l.length c p ok).toArray] w (GotH a c l p ok w) := by
  obtain ⟨h0, r1, r2, hsz⟩ := GV.start (ok := ok) h hp [.slice none 0 0, .slice none 0 0] (by decide) 51 (by decide) rfl
  have H0 := Lib.hid h0
  have R1 := Lib.hid r1
  have R2 := Lib.hid r2
  have HZ := Lib.hid hsz
  have HL := Lib.hid hl
  clear hl
  clear h0 r1 r2 hsz h hp
  go_enter Tryz.func80, Tryz.ntmps80
  go_upto_region 1 with fail
  generalize ((w.alloc (.cells (rdV a l.length c p ok).toArray 99)).alloc (.cells #[.slice none 0 0, .int .i64 0, .bool false] 99)).alloc (.cells #[.slice none 0 0, .slice none 0 0] 51) = W0 at H0 R1 R2 HZ ⊢
  go_upto_region 2 with fail
  have H : Hid (GV a c l w W0 W0.heap.size p ok [.slice none 0 0, .slice none 0 0] _ (W0.alloc (.cells #[.slice none 0 0, .slice none 0 0] 51))) := H0
  clear H0
  generalize W0.alloc (.cells #[.slice none 0 0, .slice none 0 0] 51) = W at H ⊢
  generalize W0.heap.size = V at H HZ ⊢
  go_wp2_with (first | ((first | with_reducible refine gate_ld ?_ | with_reducible refine gate_ldw ?_); refine list_loadAgg H.out.rdr rfl _ rfl rfl ?_) | fail)
  refine (gotC a c l p ok W H.out.k.call_src H.out.k.le HL.out 4 (by omega) (by omega)).mono ?_
  rintro e W1 ⟨p1, ok1, n, rfl, hn, hc, hb⟩
  have HC1 := Lib.hid hc
  have HN1 : Hid (n ≤ 262144) := hn
  have G1 := Lib.hid (H.out.new hb)
  clear hb hc hn
  go_upto_region 3 with (first
    | ((first | with_reducible refine gate_st ?_ | with_reducible refine gate_stw ?_); refine list_storeAgg rfl _ _ rfl w.heap.size 0 rfl (rdV a l.length c p1 ok1) rfl (by rw [sz_rd]; rfl) (all_one rfl) (G1.out.k.x.thereMid 0 3 (by simp [rdV])) ?_
       intro V1 hwA
       have H1 := Lib.hid (G1.out.put HC1.out.lt hwA)
       clear hwA G1)
    | fail)
  clear H
  have HS : Hid (LV (sliE cntE) 95 (pList pCnt) a c l w W0 V V1 p1 ok1 0 p1 ok1 [.slice none 0 0, .slice none 0 0] (.slice none 0 0) [] V1) := LV.start H1.out
  have hn : (n : Int) ≤ 262144 := by have := HN1.out; omega
  clear H1
  go_wp2_with fail
  go_loopw [6, 7, 8, 9, 10] (fun kv _ _ _ _ wr => ∃ (i p2 : Nat) (ok2 : Bool) (v : Value) (xs : List (List Cnt)), kv = .int .i64 i ∧ i ≤ n ∧ Hid (LV (sliE cntE) 95 (pList pCnt) a c l w W0 V V1 p1 ok1 i p2 ok2 [v, .slice none 0 0] v xs wr)) (fun kv _ _ _ _ _ => (2000000 - intOf kv).toNat)
  case atStart => exact ⟨0, p1, ok1, _, [], rfl, by omega, HS⟩
  case round =>
    clear HS
    obtain ⟨i, p2, ok2, v, xs, rfl, hi, H⟩ := hrel
    obtain ⟨sa, sc, rfl⟩ := H.out.r.slice
    have k2 : wr.cell? ⟨w.heap.size, 2, none⟩ = some (.bool ok2) := H.out.g.k.x.1.at 2 rfl
    by_cases hlt : i < n ∧ ok2 = true
    · obtain ⟨hin, rfl⟩ := hlt
      have hin' : (i : Int) < (n : Int) := by omega
      have hin2 : (i : Int) ≤ 262144 := by omega
      have HIn : Hid (i < n ∧ n ≤ 262144) := ⟨hin, by omega⟩
      have K := Lib.hid H.out.g.k
      clear hi hn hin
      go_wp2_with (first | ((first | with_reducible refine gate_ld ?_ | with_reducible refine gate_ldw ?_); refine list_loadAgg K.out.rdr rfl _ rfl rfl ?_) | fail)
      refine (gotC a c l p2 true wr K.out.call_src K.out.le HL.out 20 (by omega) (by omega)).mono ?_
      rintro e W3 ⟨p3, ok3, m, rfl, hn, hc, hb⟩
      have HC3 := Lib.hid hc
      have HN3 : Hid (m ≤ 52428) := hn
      have G3 := Lib.hid (K.out.here.new hb)
      clear hb hc hn
      go_upto_region 8 with (first
        | ((first | with_reducible refine gate_st ?_ | with_reducible refine gate_stw ?_); refine list_storeAgg rfl _ _ rfl w.heap.size 0 rfl (rdV a l.length c p3 ok3) rfl (by rw [sz_rd]; rfl) (all_one rfl) (G3.out.x.thereMid 0 3 (by simp [rdV])) ?_
           intro V3 hwA
           have H3 := Lib.hid (G3.out.put HC3.out.lt hwA)
           clear hwA G3)
        | fail)
      clear K
      have HI : Hid (RL cntE 97 pCnt a c l w V3 p3 ok3 0 p3 ok3 (.slice none 0 0) [] V3) := RL.start H3.out.here
      have hm : (m : Int) ≤ 52428 := by have := HN3.out; omega
      clear k2
      obtain ⟨wout, rfl⟩ : ∃ wout : World, wout = wr := ⟨_, rfl⟩
      have HIn2 := Lib.hid hin2
      have HIn3 := Lib.hid hin'
      clear hin2 hin'
      go_wp2_with fail
      go_loopw [8, 9, 10] (fun lv kv _ wr => ∃ (j p4 : Nat) (ok4 : Bool) (ys : List Cnt), kv = .int .i64 j ∧ j ≤ m ∧ Hid (RL cntE 97 pCnt a c l w V3 p3 ok3 j p4 ok4 lv ys wr)) (fun _ kv _ _ => (2000000 - intOf kv).toNat)
      case atStart => exact ⟨0, p3, ok3, [], rfl, by omega, HI⟩
      case round =>
        clear HI
        obtain ⟨j, p4, ok4, ys, rfl, hj, HR⟩ := hrel
        obtain ⟨sa4, sc4, rfl⟩ := HR.out.r.slice
        have k4 : wr.cell? ⟨w.heap.size, 2, none⟩ = some (.bool ok4) := HR.out.k.x.1.at 2 rfl
        by_cases hlt : j < m ∧ ok4 = true
        · obtain ⟨hjm, rfl⟩ := hlt
          have hjm' : (j : Int) < (m : Int) := by omega
          have hj2 : (j : Int) ≤ 52428 := by omega
          have HI : Hid (j < m ∧ m ≤ 52428) := ⟨hjm, by omega⟩
          clear hj hjm
          go_upto_region 13 with fail
          have HV : Hid (GV a c l w wr wr.heap.size p4 true [.string ⟨#[]⟩, .int .i64 0, .int .i64 0] _ (wr.alloc (.cells #[.string ⟨#[]⟩, .int .i64 0, .int .i64 0] 97))) := GV.fresh HR.out.k [.string ⟨#[]⟩, .int .i64 0, .int .i64 0] (by decide) 97 (by decide)
          generalize wr.alloc (.cells #[.string ⟨#[]⟩, .int .i64 0, .int .i64 0] 97) = Wv at HV ⊢
          generalize wr.heap.size = U at HV ⊢
          clear k4
          go_wp2_with (first | ((first | with_reducible refine gate_ld ?_ | with_reducible refine gate_ldw ?_); refine list_loadAgg HV.out.rdr rfl _ rfl rfl ?_) | fail)
          refine (gotT a c l p4 true Wv HV.out.k.call_src HV.out.k.le HL.out).mono ?_
          rintro e Wf1 ⟨pf1, okf1, xf1, rfl, hx, hwent, hb⟩
          have HWf1 := Lib.hid hwent
          have HXf1 := Lib.hid hx
          have Gf1 := Lib.hid (HV.out.new hb)
          clear hwent hb hx HV
          go_upto_region 14 with (first
            | ((first | with_reducible refine gate_st ?_ | with_reducible refine gate_stw ?_); refine list_storeAgg rfl _ _ rfl w.heap.size 0 rfl (rdV a l.length c pf1 okf1) rfl (by rw [sz_rd]; rfl) (all_one rfl) (Gf1.out.k.x.thereMid 0 3 (by simp [rdV])) ?_
               intro wA hwA
               have Af1 := Lib.hid (Gf1.out.put HWf1.out.le hwA)
               clear hwA Gf1)
            | ((first | with_reducible refine gate_st ?_ | with_reducible refine gate_stw ?_); refine list_storeV rfl _ _ rfl U 0 rfl (.string xf1) rfl [.string xf1] rfl (by kernel_rfl) (all_one rfl) (Af1.out.v.thereMid 0 1 (by simp)) ?_
               intro Vf1 hwB
               have Hf1 : Hid (GV a c l w wr U pf1 okf1 [.string xf1, .int .i64 0, .int .i64 0] _ Vf1) := Af1.out.set (by simp) hwB
               clear hwB Af1)
            | fail)
          go_wp2_with (first | ((first | with_reducible refine gate_ld ?_ | with_reducible refine gate_ldw ?_); refine list_loadAgg Hf1.out.rdr rfl _ rfl rfl ?_) | fail)
          refine (gotI a c l pf1 okf1 Vf1 Hf1.out.k.call_src Hf1.out.k.le).mono ?_
          rintro e Wf2 ⟨pf2, okf2, xf2, rfl, hx, hwent, hb⟩
          have HWf2 := Lib.hid hwent
          have HXf2 := Lib.hid hx
          have Gf2 := Lib.hid (Hf1.out.new hb)
          clear hwent hb hx Hf1
          go_upto_region 15 with (first
            | ((first | with_reducible refine gate_st ?_ | with_reducible refine gate_stw ?_); refine list_storeAgg rfl _ _ rfl w.heap.size 0 rfl (rdV a l.length c pf2 okf2) rfl (by rw [sz_rd]; rfl) (all_one rfl) (Gf2.out.k.x.thereMid 0 3 (by simp [rdV])) ?_
               intro wA hwA
               have Af2 := Lib.hid (Gf2.out.put HWf2.out.le hwA)
               clear hwA Gf2)
            | ((first | with_reducible refine gate_st ?_ | with_reducible refine gate_stw ?_); refine list_storeV rfl _ _ rfl U 1 rfl (.int .i64 xf2) rfl [.int .i64 xf2] rfl (by kernel_rfl) (all_one rfl) (Af2.out.v.thereMid 1 1 (by simp)) ?_
               intro Vf2 hwB
               have Hf2 : Hid (GV a c l w wr U pf2 okf2 [.string xf1, .int .i64 xf2, .int .i64 0] _ Vf2) := Af2.out.set (by simp) hwB
               clear hwB Af2)
            | fail)
          go_wp2_with (first | ((first | with_reducible refine gate_ld ?_ | with_reducible refine gate_ldw ?_); refine list_loadAgg Hf2.out.rdr rfl _ rfl rfl ?_) | fail)
          refine (gotI a c l pf2 okf2 Vf2 Hf2.out.k.call_src Hf2.out.k.le).mono ?_
          rintro e Wf3 ⟨pf3, okf3, xf3, rfl, hx, hwent, hb⟩
          have HWf3 := Lib.hid hwent
          have HXf3 := Lib.hid hx
          have Gf3 := Lib.hid (Hf2.out.new hb)
          clear hwent hb hx Hf2
          go_upto_region 16 with (first
            | ((first | with_reducible refine gate_st ?_ | with_reducible refine gate_stw ?_); refine list_storeAgg rfl _ _ rfl w.heap.size 0 rfl (rdV a l.length c pf3 okf3) rfl (by rw [sz_rd]; rfl) (all_one rfl) (Gf3.out.k.x.thereMid 0 3 (by simp [rdV])) ?_
               intro wA hwA
               have Af3 := Lib.hid (Gf3.out.put HWf3.out.le hwA)
               clear hwA Gf3)
            | ((first | with_reducible refine gate_st ?_ | with_reducible refine gate_stw ?_); refine list_storeV rfl _ _ rfl U 2 rfl (.int .i64 xf3) rfl [.int .i64 xf3] rfl (by kernel_rfl) (all_one rfl) (Af3.out.v.thereMid 2 1 (by simp)) ?_
               intro Vf3 hwB
               have Hf3 : Hid (GV a c l w wr U pf3 okf3 [.string xf1, .int .i64 xf2, .int .i64 xf3] _ Vf3) := Af3.out.set (by simp) hwB
               clear hwB Af3)
            | fail)
          have HW : Hid (Went pCnt l p4 true pf3 okf3 ⟨xf1, xf2, xf3⟩) := (HWf1.out).bind ((HWf2.out).bind ((HWf3.out).bind (Went.ret HWf3.out.le _)))
          obtain ⟨v4, W4, hrun, h4⟩ := HR.out.next cntE_ok cntT Hf3.out.k (es := [.string xf1, .int .i64 xf2, .int .i64 xf3]) ⟨rfl, HXf1.out, HXf2.out, HXf3.out⟩ HW.out (by have := HI.out; omega) 95
          have HRun := Lib.hid hrun
          have HS4 := Lib.hid h4
          clear hrun h4
          go_wp2_with (first
            | ((first | with_reducible refine gate_ld ?_ | with_reducible refine gate_ldw ?_); refine list_loadAgg (Hf3.out.v.1.loadVar rowT_cntg) rfl _ rfl rfl ?_)
            | ((first | with_reducible refine gate_li ?_ | with_reducible refine gate_liw ?_); refine list_lit cntT rfl _ rfl [.string xf1, .int .i64 xf2, .int .i64 xf3] rfl rfl (all_one rfl) ?_)
            | (at_builtin; refine wpList_append_run rfl _ _ _ rfl _ _ _ _ rfl rfl HRun.out ?_; clear HRun)
            | fail)
          go_roundw
          case rel => exact ⟨j + 1, pf3, okf3, _, by go_num, by have := HI.out; omega, HS4⟩
          case measure => simp [intOf]; omega
        · have hj2 : (j : Int) ≤ 52428 := by omega
          have hx : ¬ ((j : Int) < (m : Int)) ∨ ((j : Int) < (m : Int) ∧ ok4 = false) := by
            cases ok4 with
            | false => by_cases h : (j : Int) < (m : Int)
                       · exact Or.inr ⟨h, rfl⟩
                       · exact Or.inl h
            | true => exact Or.inl fun h => hlt ⟨by omega, rfl⟩
          have HWm : Hid (Went (pN pCnt m) l p3 ok3 p4 ok4 ys) := (by
            rcases hx with hx | ⟨hx, hok⟩
            · obtain rfl : j = m := by omega
              exact HR.out.r.went
            · subst hok
              exact (HR.out.r.went).short (by omega))
          have HW := Lib.hid (HC3.out.list takes_cnt HWm.out)
          have HK := Lib.hid (H3.out.then HR.out.k)
          have hrd := HR.out.r.rds cntE_ok (by decide) (by omega)
          obtain ⟨v5, W5, hrun, hpv, ⟨sb, sd, rfl⟩, hnx⟩ := H.out.next (sliE_ok cntE_ok) cntsT HK.out (es := [.slice sa4 j sc4]) ⟨_, rfl, hrd.up cntE_ok H3.out.size⟩ HW.out (by have := HIn.out; omega) 48
          have HRun := Lib.hid hrun
          have HPv := Lib.hid hpv
          have HNx := Lib.hid hnx
          have k5 : wr.cell? ⟨V, 0, none⟩ = some (.slice sa i sc) := (H.out.at HK.out).1.at 0 rfl
          clear hrun hpv hnx hrd hlt
          rcases hx with hx | ⟨hx, hok⟩
          case' inr => (rw [hok] at k4; clear hok)
          all_goals
            go_upto_region 17 with fail
            have hi5 := HIn2.out
            go_upto_region 5 with (first
              | ((first | with_reducible refine gate_li ?_ | with_reducible refine gate_liw ?_); refine list_lit cntsT rfl _ rfl [.slice sa4 j sc4] rfl rfl (all_one rfl) ?_)
              | (at_builtin; refine wpList_append_run rfl _ _ _ rfl _ _ _ _ rfl rfl HRun.out ?_; clear HRun)
              | ((first | with_reducible refine gate_st ?_ | with_reducible refine gate_stw ?_); refine list_storeV rfl _ _ rfl V 0 rfl (.slice sb (i + 1) sd) rfl [.slice sb (i + 1) sd] rfl (by kernel_rfl) (all_one rfl) (HPv.out.thereMid 0 1 (by simp)) ?_
                 intro W6 hw
                 have HS6 : Hid (LV (sliE cntE) 95 (pList pCnt) a c l w W0 V V1 p1 ok1 (i + 1) p4 ok4 [.slice sb (i + 1) sd, .slice none 0 0] (.slice sb (i + 1) sd) (xs ++ [ys]) W6) := HNx.out 0 (by simp) W6 hw
                 clear hw)
              | fail)
            go_wp2_with fail
            go_roundw
            case rel => exact ⟨i + 1, p4, ok4, _, _, by go_num, by have := HIn.out; omega, HS6⟩
            case measure => have := HIn3.out; simp [intOf]; omega
    · have hi2 : (i : Int) ≤ 262144 := by omega
      have hx : ¬ ((i : Int) < (n : Int)) ∨ ((i : Int) < (n : Int) ∧ ok2 = false) := by
        cases ok2 with
        | false => by_cases h : (i : Int) < (n : Int)
                   · exact Or.inr ⟨h, rfl⟩
                   · exact Or.inl h
        | true => exact Or.inl fun h => hlt ⟨by omega, rfl⟩
      have HWn : Hid (Went (pN (pList pCnt) n) l p1 ok1 p2 ok2 xs) := (by
        rcases hx with hx | ⟨hx, hok⟩
        · obtain rfl : i = n := by omega
          exact H.out.r.went
        · subst hok
          exact (H.out.r.went).short (by omega))
      have HW1 := Lib.hid (HC1.out.list (takes_list takes_cnt) HWn.out)
      have HF := Lib.hid (H.out.fin (sliE_ok cntE_ok) (by decide) (by omega))
      clear hlt hi hn H
      rcases hx with hx | ⟨hx, hok⟩
      case' inr => (rw [hok] at k2; clear hok)
      all_goals
        go_upto_region 18 with fail
        clear k2 hx
        obtain ⟨wout, rfl⟩ : ∃ wout : World, wout = wr := ⟨_, rfl⟩
        go_wp2_with (first | ((first | with_reducible refine gate_ld ?_ | with_reducible refine gate_ldw ?_); refine list_loadAgg HF.out.rdr rfl _ rfl rfl ?_) | fail)
        refine (gotC a c l p2 ok2 wout HF.out.k.call_src HF.out.k.le HL.out 4 (by omega) (by omega)).mono ?_
        rintro e W7 ⟨p7, ok7, n2, rfl, hn, hc, hb⟩
        have HC7 := Lib.hid hc
        have HN7 : Hid (n2 ≤ 262144) := hn
        have G7 := Lib.hid (HF.out.new hb)
        clear hb hc hn
        go_upto_region 19 with (first
          | ((first | with_reducible refine gate_st ?_ | with_reducible refine gate_stw ?_); refine list_storeAgg rfl _ _ rfl w.heap.size 0 rfl (rdV a l.length c p7 ok7) rfl (by rw [sz_rd]; rfl) (all_one rfl) (G7.out.k.x.thereMid 0 3 (by simp [rdV])) ?_
             intro V7 hwA
             have H7 := Lib.hid (G7.out.put HC7.out.lt hwA)
             clear hwA G7)
          | fail)
        have HV7 := Lib.hid H7.out.d
        have HS : Hid (LV strE 9 pText a c l w W0 V V7 p7 ok7 0 p7 ok7 [.slice sa i sc, .slice none 0 0] (.slice none 0 0) [] V7) := LV.start H7.out
        have hn2 : (n2 : Int) ≤ 262144 := by have := HN7.out; omega
        clear H7 HF
        go_wp2_with fail
        go_loopw [11, 12] (fun kv _ wr => ∃ (j p8 : Nat) (ok8 : Bool) (u : Value) (ys : List ByteArray), kv = .int .i64 j ∧ j ≤ n2 ∧ Hid (LV strE 9 pText a c l w W0 V V7 p7 ok7 j p8 ok8 [.slice sa i sc, u] u ys wr)) (fun kv _ _ => (2000000 - intOf kv).toNat)
        case atStart => exact ⟨0, p7, ok7, _, [], rfl, by omega, HS⟩
        case round =>
          clear HS
          obtain ⟨j, p8, ok8, u, ys, rfl, hj, H⟩ := hrel
          obtain ⟨sa8, sc8, rfl⟩ := H.out.r.slice
          have k8 : wr.cell? ⟨w.heap.size, 2, none⟩ = some (.bool ok8) := H.out.g.k.x.1.at 2 rfl
          by_cases hlt : j < n2 ∧ ok8 = true
          · obtain ⟨hjn, rfl⟩ := hlt
            have hjn' : (j : Int) < (n2 : Int) := by omega
            have hj2 : (j : Int) ≤ 262144 := by omega
            have HJ : Hid (j < n2 ∧ n2 ≤ 262144) := ⟨hjn, by omega⟩
            go_wp2_with (first | ((first | with_reducible refine gate_ld ?_ | with_reducible refine gate_ldw ?_); refine list_loadAgg H.out.g.k.rdr rfl _ rfl rfl ?_) | fail)
            refine (gotT a c l p8 true wr H.out.g.k.call_src H.out.g.k.le HL.out).mono ?_
            rintro e W9 ⟨p9, ok9, x, rfl, hx9, hwent, hb⟩
            have HW9 := Lib.hid hwent
            have HX9 := Lib.hid hx9
            have G9 := Lib.hid (H.out.g.k.here.new hb)
            clear hwent hx9 hb k8
            go_upto_region 24 with (first
              | ((first | with_reducible refine gate_st ?_ | with_reducible refine gate_stw ?_); refine list_storeAgg rfl _ _ rfl w.heap.size 0 rfl (rdV a l.length c p9 ok9) rfl (by rw [sz_rd]; rfl) (all_one rfl) (G9.out.x.thereMid 0 3 (by simp [rdV])) ?_
                 intro V9 hwA
                 have K9 := Lib.hid (G9.out.put HW9.out.le hwA)
                 clear hwA G9)
              | fail)
            obtain ⟨v5, W5, hrun, hpv, ⟨sb, sd, rfl⟩, hnx⟩ := H.out.next strE_ok strT K9.out (es := [.string x]) ⟨rfl, HX9.out⟩ HW9.out (by have := HJ.out; omega) 49
            have HRun := Lib.hid hrun
            have HPv := Lib.hid hpv
            have HNx := Lib.hid hnx
            have k5 : V9.cell? ⟨V, 1, none⟩ = some (.slice sa8 j sc8) := (H.out.at K9.out).1.at 1 rfl
            clear hrun hpv hnx
            go_upto_region 21 with (first
              | ((first | with_reducible refine gate_li ?_ | with_reducible refine gate_liw ?_); refine list_lit strT rfl _ rfl [.string x] rfl rfl (all_one rfl) ?_)
              | (at_builtin; refine wpList_append_run rfl _ _ _ rfl _ _ _ _ rfl rfl HRun.out ?_; clear HRun)
              | ((first | with_reducible refine gate_st ?_ | with_reducible refine gate_stw ?_); refine list_storeV rfl _ _ rfl V 1 rfl (.slice sb (j + 1) sd) rfl [.slice sb (j + 1) sd] rfl (by kernel_rfl) (all_one rfl) (HPv.out.thereMid 1 1 (by simp)) ?_
                 intro W6 hw
                 have HS6 : Hid (LV strE 9 pText a c l w W0 V V7 p7 ok7 (j + 1) p9 ok9 [.slice sa i sc, .slice sb (j + 1) sd] (.slice sb (j + 1) sd) (ys ++ [x]) W6) := HNx.out 1 (by simp) W6 hw
                 clear hw)
              | fail)
            go_wp2_with fail
            go_roundw
            case rel => exact ⟨j + 1, p9, ok9, _, _, by go_num, by have := HJ.out; omega, HS6⟩
            case measure => simp [intOf]; omega
          · have hj2 : (j : Int) ≤ 262144 := by omega
            have hx : ¬ ((j : Int) < (n2 : Int)) ∨ ((j : Int) < (n2 : Int) ∧ ok8 = false) := by
              cases ok8 with
              | false => by_cases h : (j : Int) < (n2 : Int)
                         · exact Or.inr ⟨h, rfl⟩
                         · exact Or.inl h
              | true => exact Or.inl fun h => hlt ⟨by omega, rfl⟩
            have HWm : Hid (Went (pN pText n2) l p7 ok7 p8 ok8 ys) := (by
              rcases hx with hx | ⟨hx, hok⟩
              · obtain rfl : j = n2 := by omega
                exact H.out.r.went
              · subst hok
                exact (H.out.r.went).short (by omega))
            have HW2 := Lib.hid (HC7.out.list takes_text HWm.out)
            have HG := Lib.hid ((H.out.fin strE_ok (by decide) (by omega)).more (Stab.rds (sliE_ok cntE_ok) (V + 1) _ _) (H.out.old (sliE_ok cntE_ok) HV7.out))
            clear hlt H
            rcases hx with hx | ⟨hx, hok⟩
            case' inr => (rw [hok] at k8; clear hok)
            all_goals
              go_upto_region 25 with fail
              clear k8 hx
              obtain ⟨hd, ht1, hs1, hs2, ht2⟩ := HG.out.last R1.out R2.out rfl rfl
              have HD := Lib.hid hd
              have HT1 := Lib.hid ht1
              have HT2 := Lib.hid ht2
              have HS := Lib.hid (And.intro hs1 hs2)
              clear hd ht1 hs1 hs2 ht2
              refine wp_region_seqL (by kernel_rfl) (fun w' => PAt w' w.heap.size (rdV a l.length c p8 ok8) ∧ PAt w' V [.slice sa i sc, .slice sa8 j sc8]) 3 [(0, 1), (1, 1), (2, 2), (3, 2)] (by kernel_rfl) ⟨HD.out.k.x, HD.out.v⟩ ?_
              refine sl_load (d := some 94) rfl rfl rfl _ _ rfl ⟨w.heap.size, 0, none⟩ rfl (.agg (rdV a l.length c p8 ok8).toArray) (fun w1 hw => rd_load w1 _ _ rfl hw.1.1.range) ?_
              simp only [Act.put, List.setIfInBounds_toArray, List.set_cons_zero, List.set_cons_succ]
              refine sl_load (d := some 95) rfl rfl rfl _ _ rfl ⟨V, 0, none⟩ rfl (.agg ([.slice sa i sc, .slice sa8 j sc8] : List Value).toArray) (fun w1 hw => hw.2.1.loadVar rowT_his) ?_
              simp only [Act.put, List.setIfInBounds_toArray, List.set_cons_zero, List.set_cons_succ]
              refine sl_skip (d := none) rfl rfl rfl _ (store_runV _ _ rfl (w.heap.size + 1) 0 rfl (.agg (rdV a l.length c p8 ok8).toArray) rfl (rdV a l.length c p8 ok8) rfl (by rw [sz_rd]; rfl) (all_one rfl) HT1.out) (fun _ => HS.out) ?_
              simp only [Act.put, List.setIfInBounds_toArray, List.set_cons_zero, List.set_cons_succ]
              refine sl_skip (d := none) rfl rfl rfl _ (store_runV _ _ rfl (w.heap.size + 2) 0 rfl (.agg ([.slice sa i sc, .slice sa8 j sc8] : List Value).toArray) rfl [.slice sa i sc, .slice sa8 j sc8] rfl (by kernel_rfl) (all_one rfl) HT2.out) (fun h => by cases h) ?_
              simp only [Act.put, List.setIfInBounds_toArray, List.set_cons_zero, List.set_cons_succ]
              refine sl_end ?_
              go_wp2_with fail
              obtain ⟨e1, e2, hd, hb⟩ := HD.out.fin R1.out R2.out rfl rfl rfl rfl
              refine ret_rows rfl _ _ _ _ e1.1 e2.1 rowT_rd rowT_his rfl rfl rfl ?_
              have hz : w.heap.size ≤ V + 1 := by have := HZ.out; omega
              exact ⟨p8, ok8, p2, ok2, _, _, xs, ys, rfl, hd.2.up (sliE_ok cntE_ok) hz, hd.1.up strE_ok hz, HW1.out, HW2.out, hb⟩
end Go.Proofs.YtpknalpdcfjffaaGreat
/- The reference's getCycle. Printed by gen_rdr.py. -/
namespace Go.Proofs.YtpknalpdcfjffaaGreat
open Go Go.RowKit

set_option maxHeartbeats 16000000 in
set_option maxRecDepth 100000 in
theorem gotCyc (a : Option Addr) (c : Nat) (l : List UInt8) (p : Nat) (ok : Bool) (w : World) (h : BytesL w w.heap.size (.slice a l.length c) l) (hp : p ≤ l.length) (hl : l.length ≤ 1048576) :
    Calls Tryz.prog 56 #[.agg (rdV a l.length c p ok).toArray] w (GotR cycE pCyc a c l p ok w) := by
  obtain ⟨h0, r1, r2, hsz⟩ := GV.start (ok := ok) h hp [.int .i64 0, .int .i64 0, .int .i64 0, .slice none 0 0, .slice none 0 0, .slice none 0 0, .slice none 0 0, .int .i64 0, .int .u64 0, .int .i64 0, .int .i64 0, .int .i64 0, .int .i64 0, .slice none 0 0, .slice none 0 0, .slice none 0 0, .slice none 0 0] (by decide) 53 (by decide) rfl
  have H0 := Lib.hid h0
  have R1 := Lib.hid r1
  have R2 := Lib.hid r2
  have HZ := Lib.hid hsz
  have HL := Lib.hid hl
  clear hl
  clear h0 r1 r2 hsz h hp
  go_enter Tryz.func56, Tryz.ntmps56
  go_upto_region 1 with fail
  generalize ((w.alloc (.cells (rdV a l.length c p ok).toArray 99)).alloc (.cells #[.slice none 0 0, .int .i64 0, .bool false] 99)).alloc (.cells #[.int .i64 0, .int .i64 0, .int .i64 0, .slice none 0 0, .slice none 0 0, .slice none 0 0, .slice none 0 0, .int .i64 0, .int .u64 0, .int .i64 0, .int .i64 0, .int .i64 0, .int .i64 0, .slice none 0 0, .slice none 0 0, .slice none 0 0, .slice none 0 0] 53) = W0 at H0 R1 R2 HZ ⊢
  go_upto_region 2 with fail
  have H : Hid (GV a c l w W0 W0.heap.size p ok [.int .i64 0, .int .i64 0, .int .i64 0, .slice none 0 0, .slice none 0 0, .slice none 0 0, .slice none 0 0, .int .i64 0, .int .u64 0, .int .i64 0, .int .i64 0, .int .i64 0, .int .i64 0, .slice none 0 0, .slice none 0 0, .slice none 0 0, .slice none 0 0] _ (W0.alloc (.cells #[.int .i64 0, .int .i64 0, .int .i64 0, .slice none 0 0, .slice none 0 0, .slice none 0 0, .slice none 0 0, .int .i64 0, .int .u64 0, .int .i64 0, .int .i64 0, .int .i64 0, .int .i64 0, .slice none 0 0, .slice none 0 0, .slice none 0 0, .slice none 0 0] 53))) := H0
  clear H0
  generalize W0.alloc (.cells #[.int .i64 0, .int .i64 0, .int .i64 0, .slice none 0 0, .slice none 0 0, .slice none 0 0, .slice none 0 0, .int .i64 0, .int .u64 0, .int .i64 0, .int .i64 0, .int .i64 0, .int .i64 0, .slice none 0 0, .slice none 0 0, .slice none 0 0, .slice none 0 0] 53) = W at H ⊢
  generalize W0.heap.size = V at H HZ ⊢
  go_wp2_with (first | ((first | with_reducible refine gate_ld ?_ | with_reducible refine gate_ldw ?_); refine list_loadAgg H.out.rdr rfl _ rfl rfl ?_) | fail)
  refine (gotI a c l p ok W H.out.k.call_src H.out.k.le).mono ?_
  rintro e W1 ⟨p1, ok1, x1, rfl, hx, hwent, hb⟩
  have HW1 := Lib.hid hwent
  have HX1 := Lib.hid hx
  have G1 := Lib.hid (H.out.new hb)
  clear hwent hb hx H
  go_upto_region 3 with (first
    | ((first | with_reducible refine gate_st ?_ | with_reducible refine gate_stw ?_); refine list_storeAgg rfl _ _ rfl w.heap.size 0 rfl (rdV a l.length c p1 ok1) rfl (by rw [sz_rd]; rfl) (all_one rfl) (G1.out.k.x.thereMid 0 3 (by simp [rdV])) ?_
       intro wA hwA
       have A1 := Lib.hid (G1.out.put HW1.out.le hwA)
       clear hwA G1)
    | ((first | with_reducible refine gate_st ?_ | with_reducible refine gate_stw ?_); refine list_storeV rfl _ _ rfl V 0 rfl (.int .i64 x1) rfl [.int .i64 x1] rfl (by kernel_rfl) (all_one rfl) (A1.out.v.thereMid 0 1 (by simp)) ?_
       intro V1 hwB
       have H1 : Hid (GV a c l w W0 V p1 ok1 [.int .i64 x1, .int .i64 0, .int .i64 0, .slice none 0 0, .slice none 0 0, .slice none 0 0, .slice none 0 0, .int .i64 0, .int .u64 0, .int .i64 0, .int .i64 0, .int .i64 0, .int .i64 0, .slice none 0 0, .slice none 0 0, .slice none 0 0, .slice none 0 0] _ V1) := A1.out.set (by simp) hwB
       clear hwB A1)
    | fail)
  go_wp2_with (first | ((first | with_reducible refine gate_ld ?_ | with_reducible refine gate_ldw ?_); refine list_loadAgg H1.out.rdr rfl _ rfl rfl ?_) | fail)
  refine (gotI a c l p1 ok1 V1 H1.out.k.call_src H1.out.k.le).mono ?_
  rintro e W2 ⟨p2, ok2, x2, rfl, hx, hwent, hb⟩
  have HW2 := Lib.hid hwent
  have HX2 := Lib.hid hx
  have G2 := Lib.hid (H1.out.new hb)
  clear hwent hb hx H1
  go_upto_region 4 with (first
    | ((first | with_reducible refine gate_st ?_ | with_reducible refine gate_stw ?_); refine list_storeAgg rfl _ _ rfl w.heap.size 0 rfl (rdV a l.length c p2 ok2) rfl (by rw [sz_rd]; rfl) (all_one rfl) (G2.out.k.x.thereMid 0 3 (by simp [rdV])) ?_
       intro wA hwA
       have A2 := Lib.hid (G2.out.put HW2.out.le hwA)
       clear hwA G2)
    | ((first | with_reducible refine gate_st ?_ | with_reducible refine gate_stw ?_); refine list_storeV rfl _ _ rfl V 1 rfl (.int .i64 x2) rfl [.int .i64 x2] rfl (by kernel_rfl) (all_one rfl) (A2.out.v.thereMid 1 1 (by simp)) ?_
       intro V2 hwB
       have H2 : Hid (GV a c l w W0 V p2 ok2 [.int .i64 x1, .int .i64 x2, .int .i64 0, .slice none 0 0, .slice none 0 0, .slice none 0 0, .slice none 0 0, .int .i64 0, .int .u64 0, .int .i64 0, .int .i64 0, .int .i64 0, .int .i64 0, .slice none 0 0, .slice none 0 0, .slice none 0 0, .slice none 0 0] _ V2) := A2.out.set (by simp) hwB
       clear hwB A2)
    | fail)
  go_wp2_with (first | ((first | with_reducible refine gate_ld ?_ | with_reducible refine gate_ldw ?_); refine list_loadAgg H2.out.rdr rfl _ rfl rfl ?_) | fail)
  refine (gotI a c l p2 ok2 V2 H2.out.k.call_src H2.out.k.le).mono ?_
  rintro e W3 ⟨p3, ok3, x3, rfl, hx, hwent, hb⟩
  have HW3 := Lib.hid hwent
  have HX3 := Lib.hid hx
  have G3 := Lib.hid (H2.out.new hb)
  clear hwent hb hx H2
  go_upto_region 5 with (first
    | ((first | with_reducible refine gate_st ?_ | with_reducible refine gate_stw ?_); refine list_storeAgg rfl _ _ rfl w.heap.size 0 rfl (rdV a l.length c p3 ok3) rfl (by rw [sz_rd]; rfl) (all_one rfl) (G3.out.k.x.thereMid 0 3 (by simp [rdV])) ?_
       intro wA hwA
       have A3 := Lib.hid (G3.out.put HW3.out.le hwA)
       clear hwA G3)
    | ((first | with_reducible refine gate_st ?_ | with_reducible refine gate_stw ?_); refine list_storeV rfl _ _ rfl V 2 rfl (.int .i64 x3) rfl [.int .i64 x3] rfl (by kernel_rfl) (all_one rfl) (A3.out.v.thereMid 2 1 (by simp)) ?_
       intro V3 hwB
       have H3 : Hid (GV a c l w W0 V p3 ok3 [.int .i64 x1, .int .i64 x2, .int .i64 x3, .slice none 0 0, .slice none 0 0, .slice none 0 0, .slice none 0 0, .int .i64 0, .int .u64 0, .int .i64 0, .int .i64 0, .int .i64 0, .int .i64 0, .slice none 0 0, .slice none 0 0, .slice none 0 0, .slice none 0 0] _ V3) := A3.out.set (by simp) hwB
       clear hwB A3)
    | fail)
  go_wp2_with (first | ((first | with_reducible refine gate_ld ?_ | with_reducible refine gate_ldw ?_); refine list_loadAgg H3.out.rdr rfl _ rfl rfl ?_) | fail)
  refine (gotC a c l p3 ok3 V3 H3.out.k.call_src H3.out.k.le HL.out 56 (by omega) (by omega)).mono ?_
  rintro e W4 ⟨p4, ok4, n, rfl, hn, hc, hb⟩
  have HC4 := Lib.hid hc
  have HN4 : Hid (n ≤ 18724) := hn
  have G4 := Lib.hid (H3.out.new hb)
  clear hb hc hn
  go_upto_region 6 with (first
    | ((first | with_reducible refine gate_st ?_ | with_reducible refine gate_stw ?_); refine list_storeAgg rfl _ _ rfl w.heap.size 0 rfl (rdV a l.length c p4 ok4) rfl (by rw [sz_rd]; rfl) (all_one rfl) (G4.out.k.x.thereMid 0 3 (by simp [rdV])) ?_
       intro V4 hwA
       have H4 := Lib.hid (G4.out.put HC4.out.lt hwA)
       clear hwA G4)
    | fail)
  have HS : Hid (LV repE 32 pRep a c l w W0 V V4 p4 ok4 0 p4 ok4 [.int .i64 x1, .int .i64 x2, .int .i64 x3, .slice none 0 0, .slice none 0 0, .slice none 0 0, .slice none 0 0, .int .i64 0, .int .u64 0, .int .i64 0, .int .i64 0, .int .i64 0, .int .i64 0, .slice none 0 0, .slice none 0 0, .slice none 0 0, .slice none 0 0] (.slice none 0 0) [] V4) := LV.start H4.out
  have hn : (n : Int) ≤ 18724 := by have := HN4.out; omega
  clear H4
  go_wp2_with fail
  go_loopw [6, 7] (fun kv _ wr => ∃ (i q : Nat) (qk : Bool) (v : Value) (xs : List Rep), kv = .int .i64 i ∧ i ≤ n ∧ Hid (LV repE 32 pRep a c l w W0 V V4 p4 ok4 i q qk [.int .i64 x1, .int .i64 x2, .int .i64 x3, v, .slice none 0 0, .slice none 0 0, .slice none 0 0, .int .i64 0, .int .u64 0, .int .i64 0, .int .i64 0, .int .i64 0, .int .i64 0, .slice none 0 0, .slice none 0 0, .slice none 0 0, .slice none 0 0] v xs wr)) (fun kv _ _ => (2000000 - intOf kv).toNat)
  case atStart => exact ⟨0, p4, ok4, _, [], rfl, by omega, HS⟩
  case round =>
    clear HS
    obtain ⟨i, q, qk, v, xs, rfl, hi, H⟩ := hrel
    obtain ⟨sa, sc, rfl⟩ := H.out.r.slice
    have k2 : wr.cell? ⟨w.heap.size, 2, none⟩ = some (.bool qk) := H.out.g.k.x.1.at 2 rfl
    by_cases hlt : i < n ∧ qk = true
    · obtain ⟨hin, rfl⟩ := hlt
      have hin' : (i : Int) < (n : Int) := by omega
      have hin2 : (i : Int) ≤ 18724 := by omega
      have HIn : Hid (i < n ∧ n ≤ 18724) := ⟨hin, by omega⟩
      clear hi hin
      go_upto_region 10 with fail
      have HV : Hid (GV a c l w wr wr.heap.size q true [.int .i64 0, .string ⟨#[]⟩, .int .i64 0, .int .i64 0, .int .i64 0, .int .i64 0, .int .i64 0, .slice none 0 0] _ (wr.alloc (.cells #[.int .i64 0, .string ⟨#[]⟩, .int .i64 0, .int .i64 0, .int .i64 0, .int .i64 0, .int .i64 0, .slice none 0 0] 32))) := GV.fresh H.out.g.k [.int .i64 0, .string ⟨#[]⟩, .int .i64 0, .int .i64 0, .int .i64 0, .int .i64 0, .int .i64 0, .slice none 0 0] (by decide) 32 (by decide)
      generalize wr.alloc (.cells #[.int .i64 0, .string ⟨#[]⟩, .int .i64 0, .int .i64 0, .int .i64 0, .int .i64 0, .int .i64 0, .slice none 0 0] 32) = Wv at HV ⊢
      generalize hU : wr.heap.size = U at HV ⊢
      clear k2
      go_wp2_with (first | ((first | with_reducible refine gate_ld ?_ | with_reducible refine gate_ldw ?_); refine list_loadAgg HV.out.rdr rfl _ rfl rfl ?_) | fail)
      refine (gotRep a c l q true Wv HV.out.k.call_src HV.out.k.le HL.out).mono ?_
      rintro e Wf1 ⟨pf1, okf1, es, xf1, rfl, hx, hwent, hb⟩
      have HWf1 := Lib.hid hwent
      have hx0 := repE_ok.weak (av' := (U + 1 ≤ ·)) hx fun k hk _ => Nat.le_trans HV.out.le hk
      obtain ⟨rv, rfl, _, _, _, _, hx5⟩ := hx
      obtain ⟨ra, rc, rfl⟩ := hx5.slice
      have HUr := Lib.hid hU
      have Gf1 := Lib.hid ((HV.out.new hb).more (Stab.rep repE_ok (U + 1) _ _) hx0)
      clear hwent hb hx0 hx5 hU HV
      go_upto_region 11 with (first
        | ((first | with_reducible refine gate_st ?_ | with_reducible refine gate_stw ?_); refine list_storeAgg rfl _ _ rfl w.heap.size 0 rfl (rdV a l.length c pf1 okf1) rfl (by rw [sz_rd]; rfl) (all_one rfl) (Gf1.out.k.x.thereMid 0 3 (by simp [rdV])) ?_
           intro wA hwA
           have Af1 := Lib.hid (Gf1.out.put HWf1.out.le hwA)
           clear hwA Gf1)
        | ((first | with_reducible refine gate_st ?_ | with_reducible refine gate_stw ?_); refine list_storeV rfl _ _ rfl U 0 rfl (.agg (repCells xf1 (.slice ra xf1.rds.length rc)).toArray) rfl (repCells xf1 (.slice ra xf1.rds.length rc)) rfl (by kernel_rfl) (all_one rfl) (Af1.out.v.thereMid 0 8 (by simp)) ?_
           intro Vf1 hwB
           have Hf1 : Hid (GV a c l w wr U pf1 okf1 (repCells xf1 (.slice ra xf1.rds.length rc)) _ Vf1) := Af1.out.set (by simp [repCells]) hwB
           clear hwB Af1)
        | fail)
      obtain ⟨v5, W5, hrun, hpv, ⟨sb, sd, rfl⟩, hnx⟩ := H.out.next repE_ok repT Hf1.out.k (es := repCells xf1 (.slice ra xf1.rds.length rc)) (repE_ok.weak Hf1.out.d.2 fun k hk _ => by have h1 : U + 1 ≤ k := hk; have := HUr.out; omega) HWf1.out (by have := HIn.out; omega) 37
      have HRun := Lib.hid hrun
      have HPv := Lib.hid hpv
      have HNx := Lib.hid hnx
      have k5 : Vf1.cell? ⟨V, 3, none⟩ = some (.slice sa i sc) := (H.out.at Hf1.out.k).1.at 3 rfl
      clear hrun hpv hnx
      go_upto_region 8 with (first
        | ((first | with_reducible refine gate_ld ?_ | with_reducible refine gate_ldw ?_); refine list_loadAgg (Hf1.out.v.1.loadVar rowT_rep) rfl _ rfl rfl ?_)
        | ((first | with_reducible refine gate_li ?_ | with_reducible refine gate_liw ?_); refine list_lit repT rfl _ rfl (repCells xf1 (.slice ra xf1.rds.length rc)) rfl rfl (repE_ok.one Hf1.out.d.2) ?_)
        | (at_builtin; refine wpList_append_run rfl _ _ _ rfl _ _ _ _ rfl rfl HRun.out ?_; clear HRun)
        | ((first | with_reducible refine gate_st ?_ | with_reducible refine gate_stw ?_); refine list_storeV rfl _ _ rfl V 3 rfl (.slice sb (i + 1) sd) rfl [.slice sb (i + 1) sd] rfl (by kernel_rfl) (all_one rfl) (HPv.out.thereMid 3 1 (by simp)) ?_
           intro W6 hw
           have HS6 : Hid (LV repE 32 pRep a c l w W0 V V4 p4 ok4 (i + 1) pf1 okf1 [.int .i64 x1, .int .i64 x2, .int .i64 x3, .slice sb (i + 1) sd, .slice none 0 0, .slice none 0 0, .slice none 0 0, .int .i64 0, .int .u64 0, .int .i64 0, .int .i64 0, .int .i64 0, .int .i64 0, .slice none 0 0, .slice none 0 0, .slice none 0 0, .slice none 0 0] (.slice sb (i + 1) sd) (xs ++ [xf1]) W6) := HNx.out 3 (by simp) W6 hw
           clear hw)
        | fail)
      go_wp2_with fail
      go_roundw
      case rel => exact ⟨i + 1, pf1, okf1, _, _, by go_num, by have := HIn.out; omega, HS6⟩
      case measure => simp [intOf]; omega
    · have hi2 : (i : Int) ≤ 18724 := by omega
      have hx : ¬ ((i : Int) < (n : Int)) ∨ ((i : Int) < (n : Int) ∧ qk = false) := by
        cases qk with
        | false => by_cases h : (i : Int) < (n : Int)
                   · exact Or.inr ⟨h, rfl⟩
                   · exact Or.inl h
        | true => exact Or.inl fun h => hlt ⟨by omega, rfl⟩
      have HWm : Hid (Went (pN pRep n) l p4 ok4 q qk xs) := (by
        rcases hx with hx | ⟨hx, hok⟩
        · obtain rfl : i = n := by omega
          exact H.out.r.went
        · subst hok
          exact (H.out.r.went).short (by omega))
      have HW4 := Lib.hid (HC4.out.list takes_rep HWm.out)
      have HG := Lib.hid (H.out.fin repE_ok (by decide) (by omega))
      have HLe : Hid (xs.length = i) := H.out.r.len
      clear hlt H
      rcases hx with hx | ⟨hx, hok⟩
      case' inr => (rw [hok] at k2; clear hok)
      all_goals
        go_upto_region 12 with fail
        clear k2 hx hi hn
        go_wp2_with (first | ((first | with_reducible refine gate_ld ?_ | with_reducible refine gate_ldw ?_); refine list_loadAgg HG.out.rdr rfl _ rfl rfl ?_) | fail)
        refine (gotAna a c l q qk wr HG.out.k.call_src HG.out.k.le HL.out).mono ?_
        rintro e W5 ⟨p5, ok5, es, x5, rfl, hx, hwent, hb⟩
        have HW5 := Lib.hid hwent
        obtain ⟨u1, u2, u3, rfl, h1, h2, h3, h4, h5, h6, h7, h8⟩ := hx
        obtain ⟨a1, c1, rfl⟩ := h1.slice
        obtain ⟨a2, c2, rfl⟩ := h2.slice
        obtain ⟨a3, c3, rfl⟩ := h3.slice
        have HX5 : Hid (I64 x5.hi ∧ x5.lo < 18446744073709551616 ∧ I64 x5.anchor ∧ I64 x5.radius ∧ I64 x5.rounds) := ⟨h4, h5, h6, h7, h8⟩
        have G5 := Lib.hid ((((HG.out.new hb).more (Stab.rds intE_ok (V + 1) _ _) (h1.up intE_ok HG.out.le)).more (Stab.rds intE_ok (V + 1) _ _) (h2.up intE_ok HG.out.le)).more (Stab.rds intE_ok (V + 1) _ _) (h3.up intE_ok HG.out.le))
        clear h1 h2 h3 h4 h5 h6 h7 h8
        clear hwent hb  HG
        go_upto_region 13 with (first
          | ((first | with_reducible refine gate_st ?_ | with_reducible refine gate_stw ?_); refine list_storeAgg rfl _ _ rfl w.heap.size 0 rfl (rdV a l.length c p5 ok5) rfl (by rw [sz_rd]; rfl) (all_one rfl) (G5.out.k.x.thereMid 0 3 (by simp [rdV])) ?_
             intro wA hwA
             have A5 := Lib.hid (G5.out.put HW5.out.le hwA)
             clear hwA G5)
          | ((first | with_reducible refine gate_st ?_ | with_reducible refine gate_stw ?_); refine list_storeV rfl _ _ rfl V 4 rfl (.agg #[.slice a1 x5.bg.length c1, .slice a2 x5.inc.length c2, .slice a3 x5.field.length c3, .int .i64 x5.hi, .int .u64 (x5.lo : Nat), .int .i64 x5.anchor, .int .i64 x5.radius, .int .i64 x5.rounds]) rfl [.slice a1 x5.bg.length c1, .slice a2 x5.inc.length c2, .slice a3 x5.field.length c3, .int .i64 x5.hi, .int .u64 (x5.lo : Nat), .int .i64 x5.anchor, .int .i64 x5.radius, .int .i64 x5.rounds] rfl (by kernel_rfl) (all_one rfl) (A5.out.v.thereMid 4 8 (by simp)) ?_
             intro V5 hwB
             have H5 : Hid (GV a c l w W0 V p5 ok5 [.int .i64 x1, .int .i64 x2, .int .i64 x3, .slice sa i sc, .slice a1 x5.bg.length c1, .slice a2 x5.inc.length c2, .slice a3 x5.field.length c3, .int .i64 x5.hi, .int .u64 (x5.lo : Nat), .int .i64 x5.anchor, .int .i64 x5.radius, .int .i64 x5.rounds, .int .i64 0, .slice none 0 0, .slice none 0 0, .slice none 0 0, .slice none 0 0] _ V5) := A5.out.set (by simp) hwB
             clear hwB A5)
          | fail)
        go_wp2_with (first | ((first | with_reducible refine gate_ld ?_ | with_reducible refine gate_ldw ?_); refine list_loadAgg H5.out.rdr rfl _ rfl rfl ?_) | fail)
        refine (gotI a c l p5 ok5 V5 H5.out.k.call_src H5.out.k.le).mono ?_
        rintro e W6 ⟨p6, ok6, x6, rfl, hx, hwent, hb⟩
        have HW6 := Lib.hid hwent
        have HX6 := Lib.hid hx
        have G6 := Lib.hid (H5.out.new hb)
        clear hwent hb hx H5
        go_upto_region 14 with (first
          | ((first | with_reducible refine gate_st ?_ | with_reducible refine gate_stw ?_); refine list_storeAgg rfl _ _ rfl w.heap.size 0 rfl (rdV a l.length c p6 ok6) rfl (by rw [sz_rd]; rfl) (all_one rfl) (G6.out.k.x.thereMid 0 3 (by simp [rdV])) ?_
             intro wA hwA
             have A6 := Lib.hid (G6.out.put HW6.out.le hwA)
             clear hwA G6)
          | ((first | with_reducible refine gate_st ?_ | with_reducible refine gate_stw ?_); refine list_storeV rfl _ _ rfl V 12 rfl (.int .i64 x6) rfl [.int .i64 x6] rfl (by kernel_rfl) (all_one rfl) (A6.out.v.thereMid 12 1 (by simp)) ?_
             intro V6 hwB
             have H6 : Hid (GV a c l w W0 V p6 ok6 [.int .i64 x1, .int .i64 x2, .int .i64 x3, .slice sa i sc, .slice a1 x5.bg.length c1, .slice a2 x5.inc.length c2, .slice a3 x5.field.length c3, .int .i64 x5.hi, .int .u64 (x5.lo : Nat), .int .i64 x5.anchor, .int .i64 x5.radius, .int .i64 x5.rounds, .int .i64 x6, .slice none 0 0, .slice none 0 0, .slice none 0 0, .slice none 0 0] _ V6) := A6.out.set (by simp) hwB
             clear hwB A6)
          | fail)
        go_wp2_with (first | ((first | with_reducible refine gate_ld ?_ | with_reducible refine gate_ldw ?_); refine list_loadAgg H6.out.rdr rfl _ rfl rfl ?_) | fail)
        refine (gotInts a c l p6 ok6 V6 H6.out.k.call_src H6.out.k.le HL.out).mono ?_
        rintro e W7 ⟨p7, ok7, v, x7, rfl, hx, hwent, hb⟩
        have HW7 := Lib.hid hwent
        obtain ⟨sa7, sc7, rfl⟩ := hx.slice
        have G7 := Lib.hid ((H6.out.new hb).more (Stab.rds intE_ok (V + 1) _ _) (hx.up intE_ok H6.out.le))
        clear hwent hb hx H6
        go_upto_region 15 with (first
          | ((first | with_reducible refine gate_st ?_ | with_reducible refine gate_stw ?_); refine list_storeAgg rfl _ _ rfl w.heap.size 0 rfl (rdV a l.length c p7 ok7) rfl (by rw [sz_rd]; rfl) (all_one rfl) (G7.out.k.x.thereMid 0 3 (by simp [rdV])) ?_
             intro wA hwA
             have A7 := Lib.hid (G7.out.put HW7.out.le hwA)
             clear hwA G7)
          | ((first | with_reducible refine gate_st ?_ | with_reducible refine gate_stw ?_); refine list_storeV rfl _ _ rfl V 13 rfl (.slice sa7 x7.length sc7) rfl [.slice sa7 x7.length sc7] rfl (by kernel_rfl) (all_one rfl) (A7.out.v.thereMid 13 1 (by simp)) ?_
             intro V7 hwB
             have H7 : Hid (GV a c l w W0 V p7 ok7 [.int .i64 x1, .int .i64 x2, .int .i64 x3, .slice sa i sc, .slice a1 x5.bg.length c1, .slice a2 x5.inc.length c2, .slice a3 x5.field.length c3, .int .i64 x5.hi, .int .u64 (x5.lo : Nat), .int .i64 x5.anchor, .int .i64 x5.radius, .int .i64 x5.rounds, .int .i64 x6, .slice sa7 x7.length sc7, .slice none 0 0, .slice none 0 0, .slice none 0 0] _ V7) := A7.out.set (by simp) hwB
             clear hwB A7)
          | fail)
        go_wp2_with (first | ((first | with_reducible refine gate_ld ?_ | with_reducible refine gate_ldw ?_); refine list_loadAgg H7.out.rdr rfl _ rfl rfl ?_) | fail)
        refine (gotInts a c l p7 ok7 V7 H7.out.k.call_src H7.out.k.le HL.out).mono ?_
        rintro e W8 ⟨p8, ok8, v, x8, rfl, hx, hwent, hb⟩
        have HW8 := Lib.hid hwent
        obtain ⟨sa8, sc8, rfl⟩ := hx.slice
        have G8 := Lib.hid ((H7.out.new hb).more (Stab.rds intE_ok (V + 1) _ _) (hx.up intE_ok H7.out.le))
        clear hwent hb hx H7
        go_upto_region 16 with (first
          | ((first | with_reducible refine gate_st ?_ | with_reducible refine gate_stw ?_); refine list_storeAgg rfl _ _ rfl w.heap.size 0 rfl (rdV a l.length c p8 ok8) rfl (by rw [sz_rd]; rfl) (all_one rfl) (G8.out.k.x.thereMid 0 3 (by simp [rdV])) ?_
             intro wA hwA
             have A8 := Lib.hid (G8.out.put HW8.out.le hwA)
             clear hwA G8)
          | ((first | with_reducible refine gate_st ?_ | with_reducible refine gate_stw ?_); refine list_storeV rfl _ _ rfl V 14 rfl (.slice sa8 x8.length sc8) rfl [.slice sa8 x8.length sc8] rfl (by kernel_rfl) (all_one rfl) (A8.out.v.thereMid 14 1 (by simp)) ?_
             intro V8 hwB
             have H8 : Hid (GV a c l w W0 V p8 ok8 [.int .i64 x1, .int .i64 x2, .int .i64 x3, .slice sa i sc, .slice a1 x5.bg.length c1, .slice a2 x5.inc.length c2, .slice a3 x5.field.length c3, .int .i64 x5.hi, .int .u64 (x5.lo : Nat), .int .i64 x5.anchor, .int .i64 x5.radius, .int .i64 x5.rounds, .int .i64 x6, .slice sa7 x7.length sc7, .slice sa8 x8.length sc8, .slice none 0 0, .slice none 0 0] _ V8) := A8.out.set (by simp) hwB
             clear hwB A8)
          | fail)
        go_wp2_with (first | ((first | with_reducible refine gate_ld ?_ | with_reducible refine gate_ldw ?_); refine list_loadAgg H8.out.rdr rfl _ rfl rfl ?_) | fail)
        refine (gotHis a c l p8 ok8 V8 H8.out.k.call_src H8.out.k.le HL.out).mono ?_
        rintro e W9 ⟨p9, ok9, pm, okm, u, v, y9, y10, rfl, hu, hv, hwent1, hwent, hb⟩
        have HW9 := Lib.hid hwent
        have HWH := Lib.hid hwent1
        obtain ⟨sa9, sc9, rfl⟩ := hu.slice
        obtain ⟨sb9, sd9, rfl⟩ := hv.slice
        have G9 := Lib.hid (((H8.out.new hb).more (Stab.rds (sliE_ok cntE_ok) (V + 1) _ _) (hu.up (sliE_ok cntE_ok) H8.out.le)).more (Stab.rds strE_ok (V + 1) _ _) (hv.up strE_ok H8.out.le))
        clear hu hv hwent1
        clear hwent hb  H8
        go_upto_region 17 with (first
          | ((first | with_reducible refine gate_st ?_ | with_reducible refine gate_stw ?_); refine list_storeAgg rfl _ _ rfl w.heap.size 0 rfl (rdV a l.length c p9 ok9) rfl (by rw [sz_rd]; rfl) (all_one rfl) (G9.out.k.x.thereMid 0 3 (by simp [rdV])) ?_
             intro wA hwA
             have A9 := Lib.hid (G9.out.put HW9.out.le hwA)
             clear hwA G9)
          | ((first | with_reducible refine gate_st ?_ | with_reducible refine gate_stw ?_); refine list_storeV rfl _ _ rfl V 15 rfl (.agg #[.slice sa9 y9.length sc9, .slice sb9 y10.length sd9]) rfl [.slice sa9 y9.length sc9, .slice sb9 y10.length sd9] rfl (by kernel_rfl) (all_one rfl) (A9.out.v.thereMid 15 2 (by simp)) ?_
             intro V9 hwB
             have H9 : Hid (GV a c l w W0 V p9 ok9 [.int .i64 x1, .int .i64 x2, .int .i64 x3, .slice sa i sc, .slice a1 x5.bg.length c1, .slice a2 x5.inc.length c2, .slice a3 x5.field.length c3, .int .i64 x5.hi, .int .u64 (x5.lo : Nat), .int .i64 x5.anchor, .int .i64 x5.radius, .int .i64 x5.rounds, .int .i64 x6, .slice sa7 x7.length sc7, .slice sa8 x8.length sc8, .slice sa9 y9.length sc9, .slice sb9 y10.length sd9] _ V9) := A9.out.set (by simp) hwB
             clear hwB A9)
          | fail)
        obtain ⟨hd, ht1, hs1, hs2, ht2⟩ := H9.out.last R1.out R2.out rfl rfl
        have HD := Lib.hid hd
        have HT1 := Lib.hid ht1
        have HT2 := Lib.hid ht2
        have HS := Lib.hid (And.intro hs1 hs2)
        clear hd ht1 hs1 hs2 ht2
        refine wp_region_seqL (by kernel_rfl) (fun w' => PAt w' w.heap.size (rdV a l.length c p9 ok9) ∧ PAt w' V [.int .i64 x1, .int .i64 x2, .int .i64 x3, .slice sa i sc, .slice a1 x5.bg.length c1, .slice a2 x5.inc.length c2, .slice a3 x5.field.length c3, .int .i64 x5.hi, .int .u64 (x5.lo : Nat), .int .i64 x5.anchor, .int .i64 x5.radius, .int .i64 x5.rounds, .int .i64 x6, .slice sa7 x7.length sc7, .slice sa8 x8.length sc8, .slice sa9 y9.length sc9, .slice sb9 y10.length sd9]) 3 [(0, 1), (1, 1), (2, 2), (3, 2)] (by kernel_rfl) ⟨HD.out.k.x, HD.out.v⟩ ?_
        refine sl_load (d := some 84) rfl rfl rfl _ _ rfl ⟨w.heap.size, 0, none⟩ rfl (.agg (rdV a l.length c p9 ok9).toArray) (fun w1 hw => rd_load w1 _ _ rfl hw.1.1.range) ?_
        simp only [Act.put, List.setIfInBounds_toArray, List.set_cons_zero, List.set_cons_succ]
        refine sl_load (d := some 85) rfl rfl rfl _ _ rfl ⟨V, 0, none⟩ rfl (.agg ([.int .i64 x1, .int .i64 x2, .int .i64 x3, .slice sa i sc, .slice a1 x5.bg.length c1, .slice a2 x5.inc.length c2, .slice a3 x5.field.length c3, .int .i64 x5.hi, .int .u64 (x5.lo : Nat), .int .i64 x5.anchor, .int .i64 x5.radius, .int .i64 x5.rounds, .int .i64 x6, .slice sa7 x7.length sc7, .slice sa8 x8.length sc8, .slice sa9 y9.length sc9, .slice sb9 y10.length sd9] : List Value).toArray) (fun w1 hw => hw.2.1.loadVar rowT_cyc) ?_
        simp only [Act.put, List.setIfInBounds_toArray, List.set_cons_zero, List.set_cons_succ]
        refine sl_skip (d := none) rfl rfl rfl _ (store_runV _ _ rfl (w.heap.size + 1) 0 rfl (.agg (rdV a l.length c p9 ok9).toArray) rfl (rdV a l.length c p9 ok9) rfl (by rw [sz_rd]; rfl) (all_one rfl) HT1.out) (fun _ => HS.out) ?_
        simp only [Act.put, List.setIfInBounds_toArray, List.set_cons_zero, List.set_cons_succ]
        refine sl_skip (d := none) rfl rfl rfl _ (store_runV _ _ rfl (w.heap.size + 2) 0 rfl (.agg ([.int .i64 x1, .int .i64 x2, .int .i64 x3, .slice sa i sc, .slice a1 x5.bg.length c1, .slice a2 x5.inc.length c2, .slice a3 x5.field.length c3, .int .i64 x5.hi, .int .u64 (x5.lo : Nat), .int .i64 x5.anchor, .int .i64 x5.radius, .int .i64 x5.rounds, .int .i64 x6, .slice sa7 x7.length sc7, .slice sa8 x8.length sc8, .slice sa9 y9.length sc9, .slice sb9 y10.length sd9] : List Value).toArray) rfl [.int .i64 x1, .int .i64 x2, .int .i64 x3, .slice sa i sc, .slice a1 x5.bg.length c1, .slice a2 x5.inc.length c2, .slice a3 x5.field.length c3, .int .i64 x5.hi, .int .u64 (x5.lo : Nat), .int .i64 x5.anchor, .int .i64 x5.radius, .int .i64 x5.rounds, .int .i64 x6, .slice sa7 x7.length sc7, .slice sa8 x8.length sc8, .slice sa9 y9.length sc9, .slice sb9 y10.length sd9] rfl (by kernel_rfl) (all_one rfl) HT2.out) (fun h => by cases h) ?_
        simp only [Act.put, List.setIfInBounds_toArray, List.set_cons_zero, List.set_cons_succ]
        refine sl_end ?_
        go_wp2_with fail
        obtain ⟨e1, e2, hd, hb⟩ := HD.out.fin R1.out R2.out rfl rfl rfl rfl
        refine ret_rows rfl _ _ _ _ e1.1 e2.1 rowT_rd rowT_cyc rfl rfl rfl ?_
        have hz : w.heap.size ≤ V + 1 := by have := HZ.out; omega
        obtain ⟨⟨⟨⟨⟨⟨⟨d1, d2⟩, d3⟩, d4⟩, d5⟩, d6⟩, d7⟩, d8⟩ := hd
        have hle := HLe.out
        subst hle
        exact ⟨p9, ok9, _, ⟨x1, x2, x3, xs, x5, x6, x7, x8, y9, y10⟩, rfl, ⟨_, _, _, _, _, _, _, _, rfl, HX1.out, HX2.out, HX3.out, d1.up repE_ok hz, ⟨d2.up intE_ok hz, d3.up intE_ok hz, d4.up intE_ok hz, HX5.out⟩, HX6.out, d5.up intE_ok hz, d6.up intE_ok hz, d7.up (sliE_ok cntE_ok) hz, d8.up strE_ok hz⟩, (HW1.out).bind ((HW2.out).bind ((HW3.out).bind ((HW4.out).bind ((HW5.out).bind ((HW6.out).bind ((HW7.out).bind ((HW8.out).bind ((HWH.out).bind ((HW9.out).bind (Went.ret HW9.out.le _)))))))))), hb⟩
end Go.Proofs.YtpknalpdcfjffaaGreat
/- The reference's getPeriod. Printed by gen_rdr.py. -/
namespace Go.Proofs.YtpknalpdcfjffaaGreat
open Go Go.RowKit

theorem rowT_per : RowT 36 7 := ⟨by kernel_rfl, _, Tryz.underlying36, rfl⟩
theorem went_bool {l : List UInt8} {p p1 n : Nat} {ok ok1 : Bool} (h : Went (pNum 1) l p ok p1 ok1 n) : Went pBool l p ok p1 (ok1 && decide (n ≤ 1)) (n == 1) := by
  refine ⟨h.le, fun h2 => ?_, fun h0 h2 => ?_⟩
  · simp only [Bool.and_eq_true, decide_eq_true_eq] at h2
    obtain ⟨h3, h4⟩ := h.got h2.1
    refine ⟨h3, ?_⟩
    unfold pBool
    rw [Ps.bind_of h4, if_neg (by omega)]
  · unfold pBool
    cases ok1 with
    | false => exact Ps.bind_no (h.no h0 rfl)
    | true =>
      simp only [Bool.true_and, decide_eq_false_iff_not] at h2
      rw [Ps.bind_of (h.got rfl).2, if_pos (by omega)]
def pPer : Ps Per := pInt.bind fun f => pBool.bind fun c => pPla.bind fun p => (pList pRd).bind fun b => .ret ⟨f, c, p, b⟩
set_option maxHeartbeats 16000000 in
set_option maxRecDepth 100000 in
theorem gotPer (a : Option Addr) (c : Nat) (l : List UInt8) (p : Nat) (ok : Bool) (w : World) (h : BytesL w w.heap.size (.slice a l.length c) l) (hp : p ≤ l.length) (hl : l.length ≤ 1048576) :
    Calls Tryz.prog 55 #[.agg (rdV a l.length c p ok).toArray] w (GotR perE pPer a c l p ok w) := by
  obtain ⟨h0, r1, r2, hsz⟩ := GV.start (ok := ok) h hp [.int .i64 0, .bool false, .int .i64 0, .int .i64 0, .int .i64 0, .int .i64 0, .slice none 0 0] (by decide) 36 (by decide) rfl
  have H0 := Lib.hid h0
  have R1 := Lib.hid r1
  have R2 := Lib.hid r2
  have HZ := Lib.hid hsz
  have HL := Lib.hid hl
  clear hl
  clear h0 r1 r2 hsz h hp
  go_enter Tryz.func55, Tryz.ntmps55
  go_upto_region 1 with fail
  generalize ((w.alloc (.cells (rdV a l.length c p ok).toArray 99)).alloc (.cells #[.slice none 0 0, .int .i64 0, .bool false] 99)).alloc (.cells #[.int .i64 0, .bool false, .int .i64 0, .int .i64 0, .int .i64 0, .int .i64 0, .slice none 0 0] 36) = W0 at H0 R1 R2 HZ ⊢
  go_upto_region 2 with fail
  have H : Hid (GV a c l w W0 W0.heap.size p ok [.int .i64 0, .bool false, .int .i64 0, .int .i64 0, .int .i64 0, .int .i64 0, .slice none 0 0] _ (W0.alloc (.cells #[.int .i64 0, .bool false, .int .i64 0, .int .i64 0, .int .i64 0, .int .i64 0, .slice none 0 0] 36))) := H0
  clear H0
  generalize W0.alloc (.cells #[.int .i64 0, .bool false, .int .i64 0, .int .i64 0, .int .i64 0, .int .i64 0, .slice none 0 0] 36) = W at H ⊢
  generalize W0.heap.size = V at H HZ ⊢
  go_wp2_with (first | ((first | with_reducible refine gate_ld ?_ | with_reducible refine gate_ldw ?_); refine list_loadAgg H.out.rdr rfl _ rfl rfl ?_) | fail)
  refine (gotI a c l p ok W H.out.k.call_src H.out.k.le).mono ?_
  rintro e W1 ⟨p1, ok1, x1, rfl, hx, hwent, hb⟩
  have HW1 := Lib.hid hwent
  have HX1 := Lib.hid hx
  have G1 := Lib.hid (H.out.new hb)
  clear hwent hb hx H
  go_upto_region 3 with (first
    | ((first | with_reducible refine gate_st ?_ | with_reducible refine gate_stw ?_); refine list_storeAgg rfl _ _ rfl w.heap.size 0 rfl (rdV a l.length c p1 ok1) rfl (by rw [sz_rd]; rfl) (all_one rfl) (G1.out.k.x.thereMid 0 3 (by simp [rdV])) ?_
       intro wA hwA
       have A1 := Lib.hid (G1.out.put HW1.out.le hwA)
       clear hwA G1)
    | ((first | with_reducible refine gate_st ?_ | with_reducible refine gate_stw ?_); refine list_storeV rfl _ _ rfl V 0 rfl (.int .i64 x1) rfl [.int .i64 x1] rfl (by kernel_rfl) (all_one rfl) (A1.out.v.thereMid 0 1 (by simp)) ?_
       intro V1 hwB
       have H1 : Hid (GV a c l w W0 V p1 ok1 [.int .i64 x1, .bool false, .int .i64 0, .int .i64 0, .int .i64 0, .int .i64 0, .slice none 0 0] _ V1) := A1.out.set (by simp) hwB
       clear hwB A1)
    | fail)
  go_wp2_with (first | ((first | with_reducible refine gate_ld ?_ | with_reducible refine gate_ldw ?_); refine list_loadAgg H1.out.rdr rfl _ rfl rfl ?_) | fail)
  refine (gotN a c l p1 ok1 V1 H1.out.k.call_src H1.out.k.le 1 (by omega)).mono ?_
  rintro e W2 ⟨p2, ok2, x2, rfl, hx, hwent, hb⟩
  have HW2 := Lib.hid hwent
  have HX2 := Lib.hid hx
  have G2 := Lib.hid (H1.out.new hb)
  clear hwent hb hx H1
  go_upto_region 4 with (first
    | ((first | with_reducible refine gate_st ?_ | with_reducible refine gate_stw ?_); refine list_storeAgg rfl _ _ rfl w.heap.size 0 rfl (rdV a l.length c p2 ok2) rfl (by rw [sz_rd]; rfl) (all_one rfl) (G2.out.k.x.thereMid 0 3 (by simp [rdV])) ?_
       intro V2 hwA
       have H2 := Lib.hid (G2.out.put HW2.out.le hwA)
       clear hwA G2)
    | fail)
  have HB := Lib.hid (went_bool HW2.out)
  have HE : Hid (((x2 : Int) == 1) = (x2 == 1)) := by
    unfold Hid
    rw [Bool.eq_iff_iff, beq_iff_eq, beq_iff_eq]
    omega
  have hx2 : (x2 : Int) < 256 := by have : x2 < 256 := HX2.out; omega
  have hcase : (ok2 = true ∧ (x2 : Int) ≤ 1 ∧ (ok2 && decide (x2 ≤ 1)) = true) ∨ (ok2 = true ∧ (1 : Int) < (x2 : Int) ∧ (ok2 && decide (x2 ≤ 1)) = false) ∨ (ok2 = false ∧ (x2 : Int) < 256 ∧ (ok2 && decide (x2 ≤ 1)) = false) := by
    cases ok2 with
    | false => exact Or.inr (Or.inr ⟨rfl, hx2, rfl⟩)
    | true =>
      by_cases h : x2 ≤ 1
      · exact Or.inl ⟨rfl, by omega, by simp [h]⟩
      · exact Or.inr (Or.inl ⟨rfl, by omega, by simp [h]⟩)
  clear hx2
  generalize (ok2 && decide (x2 ≤ 1)) = o3 at HB hcase
  have k2 : V2.cell? ⟨w.heap.size, 2, none⟩ = some (.bool ok2) := H2.out.k.x.1.at 2 rfl
  rcases hcase with ⟨hok, hle, ho⟩ | ⟨hok, hle, ho⟩ | ⟨hok, hle, ho⟩
  all_goals
    rw [hok] at k2
    have HO := Lib.hid ho
    have HOk := Lib.hid hok
    clear ho hok
    go_upto_region 5 with (first
      | ((first | with_reducible refine gate_st ?_ | with_reducible refine gate_stw ?_); refine list_storeBool rfl _ _ rfl w.heap.size 2 rfl _ rfl (H2.out.k.x.thereMid 2 1 (by simp [rdV])) ?_
         intro V3 hw
         have h3 := H2.out.bool hw
         have H3 : Hid (GV a c l w W0 V p2 o3 [.int .i64 x1, .bool false, .int .i64 0, .int .i64 0, .int .i64 0, .int .i64 0, .slice none 0 0] (fun _ => True) V3) := by
           rw [HO.out]
           first
             | exact h3
             | (rw [decide_eq_false (by omega)] at h3; exact h3)
         clear hw H2 k2 h3)
      | fail)
    clear hle
    go_upto_region 6 with (first
      | ((first | with_reducible refine gate_st ?_ | with_reducible refine gate_stw ?_); refine list_storeBool rfl _ _ rfl V 1 rfl _ rfl (H3.out.v.thereMid 1 1 (by simp)) ?_
         intro V4 hw
         have h4 := H3.out.set (by simp) hw
         have H4 : Hid (GV a c l w W0 V p2 o3 [.int .i64 x1, .bool (x2 == 1), .int .i64 0, .int .i64 0, .int .i64 0, .int .i64 0, .slice none 0 0] (fun _ => True) V4) := by
           rw [HE.out] at h4
           exact h4
         clear hw H3 h4)
      | fail)
    go_wp2_with (first | ((first | with_reducible refine gate_ld ?_ | with_reducible refine gate_ldw ?_); refine list_loadAgg H4.out.rdr rfl _ rfl rfl ?_) | fail)
    refine (gotPla a c l p2 o3 V4 H4.out.k.call_src H4.out.k.le).mono ?_
    rintro e W5 ⟨p5, ok5, es, x5, rfl, hx, hwent, hb⟩
    have HW5 := Lib.hid hwent
    obtain ⟨rfl, hx⟩ := hx
    have HX5 := Lib.hid hx
    have G5 := Lib.hid (H4.out.new hb)
    clear hwent hb hx H4
    go_upto_region 7 with (first
      | ((first | with_reducible refine gate_st ?_ | with_reducible refine gate_stw ?_); refine list_storeAgg rfl _ _ rfl w.heap.size 0 rfl (rdV a l.length c p5 ok5) rfl (by rw [sz_rd]; rfl) (all_one rfl) (G5.out.k.x.thereMid 0 3 (by simp [rdV])) ?_
         intro wA hwA
         have A5 := Lib.hid (G5.out.put HW5.out.le hwA)
         clear hwA G5)
      | ((first | with_reducible refine gate_st ?_ | with_reducible refine gate_stw ?_); refine list_storeV rfl _ _ rfl V 2 rfl (.agg #[.int .i64 x5.f, .int .i64 x5.a, .int .i64 x5.b, .int .i64 x5.c]) rfl [.int .i64 x5.f, .int .i64 x5.a, .int .i64 x5.b, .int .i64 x5.c] rfl (by kernel_rfl) (all_one rfl) (A5.out.v.thereMid 2 4 (by simp)) ?_
         intro V5 hwB
         have H5 : Hid (GV a c l w W0 V p5 ok5 [.int .i64 x1, .bool (x2 == 1), .int .i64 x5.f, .int .i64 x5.a, .int .i64 x5.b, .int .i64 x5.c, .slice none 0 0] _ V5) := A5.out.set (by simp) hwB
         clear hwB A5)
      | fail)
    go_wp2_with (first | ((first | with_reducible refine gate_ld ?_ | with_reducible refine gate_ldw ?_); refine list_loadAgg H5.out.rdr rfl _ rfl rfl ?_) | fail)
    refine (gotRds a c l p5 ok5 V5 H5.out.k.call_src H5.out.k.le HL.out).mono ?_
    rintro e W6 ⟨p6, ok6, v, x6, rfl, hx, hwent, hb⟩
    have HW6 := Lib.hid hwent
    obtain ⟨sa6, sc6, rfl⟩ := hx.slice
    have G6 := Lib.hid ((H5.out.new hb).more (Stab.rds rdE_ok (V + 1) _ _) (hx.up rdE_ok H5.out.le))
    clear hwent hb hx H5
    go_upto_region 8 with (first
      | ((first | with_reducible refine gate_st ?_ | with_reducible refine gate_stw ?_); refine list_storeAgg rfl _ _ rfl w.heap.size 0 rfl (rdV a l.length c p6 ok6) rfl (by rw [sz_rd]; rfl) (all_one rfl) (G6.out.k.x.thereMid 0 3 (by simp [rdV])) ?_
         intro wA hwA
         have A6 := Lib.hid (G6.out.put HW6.out.le hwA)
         clear hwA G6)
      | ((first | with_reducible refine gate_st ?_ | with_reducible refine gate_stw ?_); refine list_storeV rfl _ _ rfl V 6 rfl (.slice sa6 x6.length sc6) rfl [.slice sa6 x6.length sc6] rfl (by kernel_rfl) (all_one rfl) (A6.out.v.thereMid 6 1 (by simp)) ?_
         intro V6 hwB
         have H6 : Hid (GV a c l w W0 V p6 ok6 [.int .i64 x1, .bool (x2 == 1), .int .i64 x5.f, .int .i64 x5.a, .int .i64 x5.b, .int .i64 x5.c, .slice sa6 x6.length sc6] _ V6) := A6.out.set (by simp) hwB
         clear hwB A6)
      | fail)
    obtain ⟨hd, ht1, hs1, hs2, ht2⟩ := H6.out.last R1.out R2.out rfl rfl
    have HD := Lib.hid hd
    have HT1 := Lib.hid ht1
    have HT2 := Lib.hid ht2
    have HS := Lib.hid (And.intro hs1 hs2)
    clear hd ht1 hs1 hs2 ht2
    refine wp_region_seqL (by kernel_rfl) (fun w' => PAt w' w.heap.size (rdV a l.length c p6 ok6) ∧ PAt w' V [.int .i64 x1, .bool (x2 == 1), .int .i64 x5.f, .int .i64 x5.a, .int .i64 x5.b, .int .i64 x5.c, .slice sa6 x6.length sc6]) 3 [(0, 1), (1, 1), (2, 2), (3, 2)] (by kernel_rfl) ⟨HD.out.k.x, HD.out.v⟩ ?_
    refine sl_load (d := some 39) rfl rfl rfl _ _ rfl ⟨w.heap.size, 0, none⟩ rfl (.agg (rdV a l.length c p6 ok6).toArray) (fun w1 hw => rd_load w1 _ _ rfl hw.1.1.range) ?_
    simp only [Act.put, List.setIfInBounds_toArray, List.set_cons_zero, List.set_cons_succ]
    refine sl_load (d := some 40) rfl rfl rfl _ _ rfl ⟨V, 0, none⟩ rfl (.agg ([.int .i64 x1, .bool (x2 == 1), .int .i64 x5.f, .int .i64 x5.a, .int .i64 x5.b, .int .i64 x5.c, .slice sa6 x6.length sc6] : List Value).toArray) (fun w1 hw => hw.2.1.loadVar rowT_per) ?_
    simp only [Act.put, List.setIfInBounds_toArray, List.set_cons_zero, List.set_cons_succ]
    refine sl_skip (d := none) rfl rfl rfl _ (store_runV _ _ rfl (w.heap.size + 1) 0 rfl (.agg (rdV a l.length c p6 ok6).toArray) rfl (rdV a l.length c p6 ok6) rfl (by rw [sz_rd]; rfl) (all_one rfl) HT1.out) (fun _ => HS.out) ?_
    simp only [Act.put, List.setIfInBounds_toArray, List.set_cons_zero, List.set_cons_succ]
    refine sl_skip (d := none) rfl rfl rfl _ (store_runV _ _ rfl (w.heap.size + 2) 0 rfl (.agg ([.int .i64 x1, .bool (x2 == 1), .int .i64 x5.f, .int .i64 x5.a, .int .i64 x5.b, .int .i64 x5.c, .slice sa6 x6.length sc6] : List Value).toArray) rfl [.int .i64 x1, .bool (x2 == 1), .int .i64 x5.f, .int .i64 x5.a, .int .i64 x5.b, .int .i64 x5.c, .slice sa6 x6.length sc6] rfl (by kernel_rfl) (all_one rfl) HT2.out) (fun h => by cases h) ?_
    simp only [Act.put, List.setIfInBounds_toArray, List.set_cons_zero, List.set_cons_succ]
    refine sl_end ?_
    go_wp2_with fail
    obtain ⟨e1, e2, hd, hb⟩ := HD.out.fin R1.out R2.out rfl rfl rfl rfl
    refine ret_rows rfl _ _ _ _ e1.1 e2.1 rowT_rd rowT_per rfl rfl rfl ?_
    exact ⟨p6, ok6, _, ⟨x1, x2 == 1, x5, x6⟩, rfl, ⟨_, rfl, HX1.out, HX5.out, hd.2.up rdE_ok (by have := HZ.out; omega)⟩, (HW1.out).bind ((HB.out).bind ((HW5.out).bind ((HW6.out).bind (Went.ret HW6.out.le _)))), hb⟩
end Go.Proofs.YtpknalpdcfjffaaGreat
